/- The functions that the law WordsAround reaches, as plain functions, and that each call answers so. -/
import Derived.Test.YtjhoigcoijinfaaProg
import Derived.Test.YtjhoigcoijinfaaXDeep3
set_option linter.unusedVariables false
set_option linter.unusedSimpArgs false
set_option linter.unnecessarySimpa false
namespace Go.Scr.S
open Go.RowKit (Below)

/-! ### scrim/words.Inc: function 16 -/
def words_Inc.l0 : Nat → (List Int) → (List Int) → Int → Option (List Int)
  | 0, _, _, _ => none
  | k + 1, a0, x3_0, x4_0 => if (decide (x4_0 > 0)) = true then (if (decide (0 ≤ (I64 (x4_0 - 1)))) = true then (if (decide ((I64 (x4_0 - 1)) < (((List.replicate 0 (0 : Int)) ++ a0).length : Int))) = true then (if (decide (0 ≤ (I64 (x4_0 - 1)))) = true then (if (decide ((I64 (x4_0 - 1)) < (((List.replicate 0 (0 : Int)) ++ a0).length : Int))) = true then (if (decide (0 ≤ (I64 (x4_0 - 1)))) = true then (if (decide ((I64 (x4_0 - 1)) < (((List.replicate 0 (0 : Int)) ++ a0).length : Int))) = true then ((some (((rd (x3_0.set (I64 (x4_0 - 1) : Int).toNat (U8 ((rd x3_0 (I64 (x4_0 - 1))) + 1))) (I64 (x4_0 - 1))) == 0) : Bool)).bind fun y24 => (if y24 = true then (words_Inc.l0 k a0 (x3_0.set (I64 (x4_0 - 1) : Int).toNat (U8 ((rd x3_0 (I64 (x4_0 - 1))) + 1))) (I64 (x4_0 - 1))) else (some (x3_0.set (I64 (x4_0 - 1) : Int).toNat (U8 ((rd x3_0 (I64 (x4_0 - 1))) + 1)))))) else (none)) else (none)) else (none)) else (none)) else (none)) else (none)) else (some x3_0)
def words_Inc.f (k : Nat) (a0 : List Int) : Option (List Int) := if (decide (0 ≤ (a0.length : Int))) = true then (if (decide ((a0.length : Int) ≤ 1000000000)) = true then (if (decide ((List.replicate 0 (0 : Int)).length + a0.length ≤ 1000000000)) = true then ((some ((((List.replicate 0 (0 : Int)) ++ a0).length : Int) : Int)).bind fun y12 => (words_Inc.l0 k a0 ((List.replicate 0 (0 : Int)) ++ a0) y12)) else (none)) else (none)) else (none)
set_option maxRecDepth 100000 in
theorem words_Inc.calls (k : Nat) (Ap0 : Option Addr) (np0 cp0 : Nat) (a0 : List Int) (r : List Int) (w : World) (hr0 : Rd w (.slice Ap0 np0 cp0) (nums .u8 a0)) (h : words_Inc.f k a0 = some r) :
    Calls Go.Proofs.Try.prog 16 #[(.slice Ap0 np0 cp0)] w (Ret fun v w' => ∃ A0' n0' c0', v = .slice A0' n0' c0' ∧ Mem w w' [⟨.slice A0' n0' c0', 5, 1, nums .u8 r⟩]) := by
  obtain rfl : a0.length = np0 := by have h_ := hr0.1; simpa [nums_length, bools_length, strs_length] using h_
  unfold words_Inc.f at h
  refine calls_of [.slice Ap0 a0.length cp0] (fn := Go.Proofs.Try.f16) Go.Proofs.Try.func16 (by kernel_rfl) (by kernel_rfl) ?_
  have hM := Mem.refl w
  refine RunF.go 9 [0, 6] (k' := (pin Go.Proofs.Try.f16 [1, 0, 0] 2)) (L' := [(0, .slice Ap0 a0.length cp0), (6, .int .i64 (a0.length : Int))]) (w' := w) (by kernel_rfl) ?_
  rcases two (decide (0 ≤ (a0.length : Int))) with c3 | c3
  · replace h := of_true h c3
    rcases two (decide ((a0.length : Int) ≤ 1000000000)) with c4 | c4
    · replace h := of_true h c4
      have := of_decide_eq_true c3
      have := of_decide_eq_true c4
      obtain ⟨W1, hD, hM', hB_⟩ := mk_does (P := Go.Proofs.Try.prog) (n := 28) (k := (pin Go.Proofs.Try.f16 [1, 0, 0] 2)) (L := [(0, .slice Ap0 a0.length cp0), (6, .int .i64 (a0.length : Int))]) (d := some 7) (e := 5) (z := .int .u8 0) (l := 0) (c := (a0.length : Int)) (k2 := (pin Go.Proofs.Try.f16 [1, 0, 0] 3)) (by kernel_rfl) (by omega) (by omega) (by omega) hM
      rw [rep_nums] at hM'
      refine RunF.does hD ?_
      replace hM := hM'; clear hD hM'
      generalize w.heap.size = g2 at hM ⊢
      refine RunF.go 1 [7, 8] (k' := (pin Go.Proofs.Try.f16 [1, 0, 0] 4)) (L' := [(7, .slice (some ⟨g2, 0, none⟩) 0 (((a0.length : Int) : Int).toNat)), (8, .slice Ap0 a0.length cp0)]) (w' := W1) (by kernel_rfl) ?_
      rcases two (decide ((List.replicate 0 (0 : Int)).length + a0.length ≤ 1000000000)) with c10 | c10
      · replace h := of_true h c10
        have h_ := of_decide_eq_true c10
        obtain ⟨A6, n7, c8, W9, hD, hM', hS_⟩ := app_does (P := Go.Proofs.Try.prog) (n := 28) (k := (pin Go.Proofs.Try.f16 [1, 0, 0] 4)) (L := [(7, .slice (some ⟨g2, 0, none⟩) 0 (((a0.length : Int) : Int).toNat)), (8, .slice Ap0 a0.length cp0)]) (d := some 9) (e := 5) (A := (some ⟨g2, 0, none⟩)) (m := 0) (c := ((a0.length : Int) : Int).toNat) (A2 := Ap0) (m2 := a0.length) (c2 := cp0) (cs := nums .u8 (List.replicate 0 (0 : Int))) (ys := nums .u8 a0) (k2 := (pin Go.Proofs.Try.f16 [1, 0, 0] 5)) [] [] (by kernel_rfl) (hM.pick [0] rfl rfl) (hr0.mono hM.below) (one_nums _ _) (by omega)
        rw [nums_append] at hM'
        replace hM := hM'; clear h_ hM'
        obtain rfl : ((List.replicate 0 (0 : Int)) ++ a0).length = n7 := by have h_ := (hM.rd 0 rfl).1; simpa only [nums_length, bools_length, strs_length] using h_
        refine RunF.does hD ?_
        clear hD hS_
        refine RunF.go 10 [3, 4] (k' := (pl Go.Proofs.Try.f16 [1, 0, 1, 1, 1])) (L' := [(3, .slice A6 (((List.replicate 0 (0 : Int)) ++ a0).length) c8), (4, .int .i64 (((List.replicate 0 (0 : Int)) ++ a0).length : Int))]) (w' := W9) (by kernel_rfl) ?_
        obtain ⟨y12, hy, h⟩ := Option.bind_eq_some_iff.mp h
        rw [show ((((List.replicate 0 (0 : Int)) ++ a0).length : Int)) = y12 from Option.some.inj hy]
        clear hy
        have l0 : ∀ (k_ : Nat), k_ ≤ k → ∀ (x3_0 : List Int) (x4_0 : Int) (W : World) (hM : Mem w W [⟨.slice A6 (((List.replicate 0 (0 : Int)) ++ a0).length) c8, 5, 1, nums .u8 x3_0⟩]) (h : words_Inc.l0 k_ a0 x3_0 x4_0 = some r), RunF Go.Proofs.Try.prog (Ret fun v w' => ∃ A0' n0' c0', v = .slice A0' n0' c0' ∧ Mem w w' [⟨.slice A0' n0' c0', 5, 1, nums .u8 r⟩]) 16 (pl Go.Proofs.Try.f16 [1, 0, 1, 1, 1]) 28 [(3, .slice A6 (((List.replicate 0 (0 : Int)) ++ a0).length) c8), (4, .int .i64 x4_0)] W := by
          intro k_
          induction k_ using Nat.strongRecOn with
          | _ k_ ih0 =>
            intro hk x3_0 x4_0 W hM h
            cases k_ with
            | zero => exact absurd h (by simp [words_Inc.l0])
            | succ k =>
              simp only [words_Inc.l0] at h
              replace ih0 : ∀ m, m ≤ k → _ := fun m hm => ih0 m (by omega) (by omega)
              refine RunF.go 6 [3, 4, 13] (k' := (pl Go.Proofs.Try.f16 [1, 0, 1, 1, 1, 0, 1])) (L' := [(3, .slice A6 (((List.replicate 0 (0 : Int)) ++ a0).length) c8), (4, .int .i64 x4_0), (13, .bool (decide (x4_0 > 0)))]) (w' := W) (by kernel_rfl) ?_
              rcases two (decide (x4_0 > 0)) with c13 | c13
              · replace h := of_true h c13
                refine RunF.know 13 (b := true) (by kernel_rfl) c13 ?_
                refine RunF.go 11 [3, 4, 16, 17] (k' := (pin Go.Proofs.Try.f16 [1, 0, 1, 1, 1, 0, 1, 0, 1, 0] 2)) (L' := [(3, .slice A6 (((List.replicate 0 (0 : Int)) ++ a0).length) c8), (4, .int .i64 (I64 (x4_0 - 1))), (16, .slice A6 (((List.replicate 0 (0 : Int)) ++ a0).length) c8), (17, .int .i64 (I64 (x4_0 - 1)))]) (w' := W) (by kernel_rfl) ?_
                rcases two (decide (0 ≤ (I64 (x4_0 - 1)))) with c15 | c15
                · replace h := of_true h c15
                  rcases two (decide ((I64 (x4_0 - 1)) < (((List.replicate 0 (0 : Int)) ++ a0).length : Int))) with c16 | c16
                  · replace h := of_true h c16
                    obtain ⟨q14, hAq14, hcq14, hfq14, hlq14⟩ := hM.num_at 0 rfl (i := I64 (x4_0 - 1)) (of_decide_eq_true c15) (by have h_ := of_decide_eq_true c16; omega)
                    refine RunF.y (idx_own (d := some 18) (A := A6) (m := ((List.replicate 0 (0 : Int)) ++ a0).length) (i := I64 (x4_0 - 1)) (k2 := (pin Go.Proofs.Try.f16 [1, 0, 1, 1, 1, 0, 1, 0, 1, 0] 3)) (by kernel_rfl) (of_decide_eq_true c15) (by have h_ := of_decide_eq_true c16; omega) hAq14) trivial ?_
                    refine RunF.y (ld_y (d := some 19) (p := ⟨q14, (I64 (x4_0 - 1) : Int).toNat, none⟩) (k2 := (pin Go.Proofs.Try.f16 [1, 0, 1, 1, 1, 0, 1, 0, 1, 0] 4)) (.int .u8 (rd x3_0 (I64 (x4_0 - 1)))) (by kernel_rfl)) hcq14 ?_
                    refine RunF.go 1 [3, 4, 16, 17, 20] (k' := (pin Go.Proofs.Try.f16 [1, 0, 1, 1, 1, 0, 1, 0, 1, 0] 5)) (L' := [(3, .slice A6 (((List.replicate 0 (0 : Int)) ++ a0).length) c8), (4, .int .i64 (I64 (x4_0 - 1))), (16, .slice A6 (((List.replicate 0 (0 : Int)) ++ a0).length) c8), (17, .int .i64 (I64 (x4_0 - 1))), (20, .int .u8 (U8 ((rd x3_0 (I64 (x4_0 - 1))) + 1)))]) (w' := W) (by kernel_rfl) ?_
                    rcases two (decide (0 ≤ (I64 (x4_0 - 1)))) with c18 | c18
                    · replace h := of_true h c18
                      rcases two (decide ((I64 (x4_0 - 1)) < (((List.replicate 0 (0 : Int)) ++ a0).length : Int))) with c19 | c19
                      · replace h := of_true h c19
                        obtain ⟨q17, hAq17, hcq17, hfq17, hlq17⟩ := hM.num_at 0 rfl (i := I64 (x4_0 - 1)) (of_decide_eq_true c18) (by have h_ := of_decide_eq_true c19; omega)
                        refine RunF.y (idx_own (d := some 21) (A := A6) (m := ((List.replicate 0 (0 : Int)) ++ a0).length) (i := I64 (x4_0 - 1)) (k2 := (pin Go.Proofs.Try.f16 [1, 0, 1, 1, 1, 0, 1, 0, 1, 0] 6)) (by kernel_rfl) (of_decide_eq_true c18) (by have h_ := of_decide_eq_true c19; omega) hAq17) trivial ?_
                        obtain ⟨g_, hA_, hc_, hf_, hl_⟩ := hM.num_at 0 rfl (i := I64 (x4_0 - 1)) (of_decide_eq_true c18) (by have h_ := of_decide_eq_true c19; omega)
                        obtain rfl : q17 = g_ := by rw [hAq17] at hA_; injection hA_ with hA_; injection hA_
                        refine RunF.doesU (st_u (p := (⟨q17, (I64 (x4_0 - 1) : Int).toNat, none⟩ : Addr)) (v := .int .u8 (U8 ((rd x3_0 (I64 (x4_0 - 1))) + 1))) (k2 := (pin Go.Proofs.Try.f16 [1, 0, 1, 1, 1, 0, 1, 0, 1, 0] 7)) (by kernel_rfl) hc_ hf_) ?_
                        replace hM : Mem w (W.setCell (⟨q17, (I64 (x4_0 - 1) : Int).toNat, none⟩ : Addr) (.int .u8 (U8 ((rd x3_0 (I64 (x4_0 - 1))) + 1)))) [⟨.slice A6 (((List.replicate 0 (0 : Int)) ++ a0).length) c8, 5, 1, nums .u8 (x3_0.set (I64 (x4_0 - 1) : Int).toNat (U8 ((rd x3_0 (I64 (x4_0 - 1))) + 1)))⟩] := Mem.put_num [] [] (hM.pick [0] rfl rfl) hAq17 _ hl_ _
                        generalize W.setCell (⟨q17, (I64 (x4_0 - 1) : Int).toNat, none⟩ : Addr) (.int .u8 (U8 ((rd x3_0 (I64 (x4_0 - 1))) + 1))) = W20 at hM ⊢
                        clear hc_ hf_ hl_ hA_ hcq17
                        refine RunF.go 5 [3, 4, 22, 23] (k' := (pin Go.Proofs.Try.f16 [1, 0, 1, 1, 1, 0, 1, 0, 1, 1, 0] 2)) (L' := [(3, .slice A6 (((List.replicate 0 (0 : Int)) ++ a0).length) c8), (4, .int .i64 (I64 (x4_0 - 1))), (22, .slice A6 (((List.replicate 0 (0 : Int)) ++ a0).length) c8), (23, .int .i64 (I64 (x4_0 - 1)))]) (w' := W20) (by kernel_rfl) ?_
                        rcases two (decide (0 ≤ (I64 (x4_0 - 1)))) with c22 | c22
                        · replace h := of_true h c22
                          rcases two (decide ((I64 (x4_0 - 1)) < (((List.replicate 0 (0 : Int)) ++ a0).length : Int))) with c23 | c23
                          · replace h := of_true h c23
                            obtain ⟨q21, hAq21, hcq21, hfq21, hlq21⟩ := hM.num_at 0 rfl (i := I64 (x4_0 - 1)) (of_decide_eq_true c22) (by have h_ := of_decide_eq_true c23; omega)
                            refine RunF.y (idx_own (d := some 24) (A := A6) (m := ((List.replicate 0 (0 : Int)) ++ a0).length) (i := I64 (x4_0 - 1)) (k2 := (pin Go.Proofs.Try.f16 [1, 0, 1, 1, 1, 0, 1, 0, 1, 1, 0] 3)) (by kernel_rfl) (of_decide_eq_true c22) (by have h_ := of_decide_eq_true c23; omega) hAq21) trivial ?_
                            refine RunF.y (ld_y (d := some 25) (p := ⟨q21, (I64 (x4_0 - 1) : Int).toNat, none⟩) (k2 := (pin Go.Proofs.Try.f16 [1, 0, 1, 1, 1, 0, 1, 0, 1, 1, 0] 4)) (.int .u8 (rd (x3_0.set (I64 (x4_0 - 1) : Int).toNat (U8 ((rd x3_0 (I64 (x4_0 - 1))) + 1))) (I64 (x4_0 - 1)))) (by kernel_rfl)) hcq21 ?_
                            refine RunF.go 2 [3, 4, 26] (k' := (pl Go.Proofs.Try.f16 [1, 0, 1, 1, 1, 0, 1, 0, 1, 1, 1])) (L' := [(3, .slice A6 (((List.replicate 0 (0 : Int)) ++ a0).length) c8), (4, .int .i64 (I64 (x4_0 - 1))), (26, .bool ((rd (x3_0.set (I64 (x4_0 - 1) : Int).toNat (U8 ((rd x3_0 (I64 (x4_0 - 1))) + 1))) (I64 (x4_0 - 1))) == 0))]) (w' := W20) (by kernel_rfl) ?_
                            obtain ⟨y24, hy, h⟩ := Option.bind_eq_some_iff.mp h
                            rw [show (((rd (x3_0.set (I64 (x4_0 - 1) : Int).toNat (U8 ((rd x3_0 (I64 (x4_0 - 1))) + 1))) (I64 (x4_0 - 1))) == 0)) = y24 from Option.some.inj hy]
                            clear hy
                            rcases two (y24) with c25 | c25
                            · replace h := of_true h c25
                              refine RunF.know 26 (b := true) (by kernel_rfl) c25 ?_
                              refine RunF.go 4 [3, 4] (k' := (pl Go.Proofs.Try.f16 [1, 0, 1, 1, 1])) (L' := [(3, .slice A6 (((List.replicate 0 (0 : Int)) ++ a0).length) c8), (4, .int .i64 (I64 (x4_0 - 1)))]) (w' := W20) (by kernel_rfl) ?_
                              exact ih0 k (by omega) (x3_0.set (I64 (x4_0 - 1) : Int).toNat (U8 ((rd x3_0 (I64 (x4_0 - 1))) + 1))) (I64 (x4_0 - 1)) _ (hM.pick [0] rfl rfl) h
                            · replace h := of_false h c25
                              refine RunF.know 26 (b := false) (by kernel_rfl) c25 ?_
                              refine RunF.go 7 [2] (k' := (pl Go.Proofs.Try.f16 [1, 0, 1, 1, 1, 1, 1])) (L' := [(2, .slice A6 (((List.replicate 0 (0 : Int)) ++ a0).length) c8)]) (w' := W20) (by kernel_rfl) ?_
                              obtain rfl := Option.some.inj h
                              exact RunF.ret1 2 (.slice A6 (((List.replicate 0 (0 : Int)) ++ a0).length) c8) (fn := Go.Proofs.Try.f16) Go.Proofs.Try.func16 (by kernel_rfl) (by kernel_rfl) (by kernel_rfl) ⟨_, rfl, A6, ((List.replicate 0 (0 : Int)) ++ a0).length, c8, rfl, (hM.pick [0] rfl rfl)⟩
                          · replace h := of_false h c23
                            cases h
                        · replace h := of_false h c22
                          cases h
                      · replace h := of_false h c19
                        cases h
                    · replace h := of_false h c18
                      cases h
                  · replace h := of_false h c16
                    cases h
                · replace h := of_false h c15
                  cases h
              · replace h := of_false h c13
                refine RunF.know 13 (b := false) (by kernel_rfl) c13 ?_
                refine RunF.go 7 [2] (k' := (pl Go.Proofs.Try.f16 [1, 0, 1, 1, 1, 1, 1])) (L' := [(2, .slice A6 (((List.replicate 0 (0 : Int)) ++ a0).length) c8)]) (w' := W) (by kernel_rfl) ?_
                obtain rfl := Option.some.inj h
                exact RunF.ret1 2 (.slice A6 (((List.replicate 0 (0 : Int)) ++ a0).length) c8) (fn := Go.Proofs.Try.f16) Go.Proofs.Try.func16 (by kernel_rfl) (by kernel_rfl) (by kernel_rfl) ⟨_, rfl, A6, ((List.replicate 0 (0 : Int)) ++ a0).length, c8, rfl, (hM.pick [0] rfl rfl)⟩
        exact l0 k (Nat.le_refl _) ((List.replicate 0 (0 : Int)) ++ a0) y12 _ (hM.pick [0] rfl rfl) h
      · replace h := of_false h c10
        cases h
    · replace h := of_false h c4
      cases h
  · replace h := of_false h c3
    cases h

/-! ### scrim/words.load: function 38 -/
def words_load.l0 : Nat → (List Int) → Int → Int → Option (Int)
  | 0, _, _, _ => none
  | k + 1, a0, x3_0, x4_0 => if (decide (x4_0 < (a0.length : Int))) = true then (if (decide (0 ≤ x4_0)) = true then (if (decide (x4_0 < (a0.length : Int))) = true then ((some (bor .u64 (shl .u64 x3_0 8) (U64 (rd a0 x4_0)) : Int)).bind fun y5 => (words_load.l0 k a0 y5 (I64 (x4_0 + 1)))) else (none)) else (none)) else (some x3_0)
def words_load.f (k : Nat) (a0 : List Int) : Option (Int) := words_load.l0 k a0 0 0
set_option maxRecDepth 100000 in
theorem words_load.calls (k : Nat) (Ap0 : Option Addr) (np0 cp0 : Nat) (a0 : List Int) (r : Int) (w : World) (hr0 : Rd w (.slice Ap0 np0 cp0) (nums .u8 a0)) (h : words_load.f k a0 = some r) :
    Calls Go.Proofs.Try.prog 38 #[(.slice Ap0 np0 cp0)] w (Ret fun v w' => v = .int .u64 r ∧ Mem w w' []) := by
  obtain rfl : a0.length = np0 := by have h_ := hr0.1; simpa [nums_length, bools_length, strs_length] using h_
  unfold words_load.f at h
  refine calls_of [.slice Ap0 a0.length cp0] (fn := Go.Proofs.Try.f38) Go.Proofs.Try.func38 (by kernel_rfl) (by kernel_rfl) ?_
  have hM := Mem.refl w
  refine RunF.go 12 [0, 3, 4] (k' := (pl Go.Proofs.Try.f38 [1, 0, 1, 1])) (L' := [(0, .slice Ap0 a0.length cp0), (3, .int .u64 0), (4, .int .i64 0)]) (w' := w) (by kernel_rfl) ?_
  have l0 : ∀ (k_ : Nat), k_ ≤ k → ∀ (x3_0 : Int) (x4_0 : Int) (W : World) (hM : Mem w W []) (h : words_load.l0 k_ a0 x3_0 x4_0 = some r), RunF Go.Proofs.Try.prog (Ret fun v w' => v = .int .u64 r ∧ Mem w w' []) 38 (pl Go.Proofs.Try.f38 [1, 0, 1, 1]) 20 [(0, .slice Ap0 a0.length cp0), (3, .int .u64 x3_0), (4, .int .i64 x4_0)] W := by
    intro k_
    induction k_ using Nat.strongRecOn with
    | _ k_ ih0 =>
      intro hk x3_0 x4_0 W hM h
      cases k_ with
      | zero => exact absurd h (by simp [words_load.l0])
      | succ k =>
        simp only [words_load.l0] at h
        replace ih0 : ∀ m, m ≤ k → _ := fun m hm => ih0 m (by omega) (by omega)
        refine RunF.go 8 [0, 3, 4, 8] (k' := (pl Go.Proofs.Try.f38 [1, 0, 1, 1, 0, 1])) (L' := [(0, .slice Ap0 a0.length cp0), (3, .int .u64 x3_0), (4, .int .i64 x4_0), (8, .bool (decide (x4_0 < (a0.length : Int))))]) (w' := W) (by kernel_rfl) ?_
        rcases two (decide (x4_0 < (a0.length : Int))) with c1 | c1
        · replace h := of_true h c1
          refine RunF.know 8 (b := true) (by kernel_rfl) c1 ?_
          refine RunF.go 7 [0, 4, 10, 11, 12] (k' := (pin Go.Proofs.Try.f38 [1, 0, 1, 1, 0, 1, 0, 0] 4)) (L' := [(0, .slice Ap0 a0.length cp0), (4, .int .i64 x4_0), (10, .int .u64 (shl .u64 x3_0 8)), (11, .slice Ap0 a0.length cp0), (12, .int .i64 x4_0)]) (w' := W) (by kernel_rfl) ?_
          rcases two (decide (0 ≤ x4_0)) with c3 | c3
          · replace h := of_true h c3
            rcases two (decide (x4_0 < (a0.length : Int))) with c4 | c4
            · replace h := of_true h c4
              obtain ⟨q2, hAq2, hcq2⟩ := Rd.num (hr0.mono hM.below) (i := x4_0) (of_decide_eq_true c3) (by have h_ := of_decide_eq_true c4; omega)
              refine RunF.y (idx_y (d := some 13) (A := Ap0) (m := a0.length) (i := x4_0) (k2 := (pin Go.Proofs.Try.f38 [1, 0, 1, 1, 0, 1, 0, 0] 5)) (by kernel_rfl) (of_decide_eq_true c3) (by have h_ := of_decide_eq_true c4; omega) hAq2) trivial ?_
              refine RunF.y (ld_y (d := some 14) (p := (q2.add (x4_0 : Int).toNat)) (k2 := (pin Go.Proofs.Try.f38 [1, 0, 1, 1, 0, 1, 0, 0] 6)) (.int .u8 (rd a0 x4_0)) (by kernel_rfl)) hcq2 ?_
              refine RunF.go 13 [0, 3, 4] (k' := (pl Go.Proofs.Try.f38 [1, 0, 1, 1])) (L' := [(0, .slice Ap0 a0.length cp0), (3, .int .u64 (bor .u64 (shl .u64 x3_0 8) (U64 (rd a0 x4_0)))), (4, .int .i64 (I64 (x4_0 + 1)))]) (w' := W) (by kernel_rfl) ?_
              obtain ⟨y5, hy, h⟩ := Option.bind_eq_some_iff.mp h
              rw [show (bor .u64 (shl .u64 x3_0 8) (U64 (rd a0 x4_0))) = y5 from Option.some.inj hy]
              clear hy
              exact ih0 k (by omega) y5 (I64 (x4_0 + 1)) _ (hM.pick [] rfl rfl) h
            · replace h := of_false h c4
              cases h
          · replace h := of_false h c3
            cases h
        · replace h := of_false h c1
          refine RunF.know 8 (b := false) (by kernel_rfl) c1 ?_
          refine RunF.go 7 [2] (k' := (pl Go.Proofs.Try.f38 [1, 0, 1, 1, 1, 1])) (L' := [(2, .int .u64 x3_0)]) (w' := W) (by kernel_rfl) ?_
          obtain rfl := Option.some.inj h
          exact RunF.ret1 2 (.int .u64 x3_0) (fn := Go.Proofs.Try.f38) Go.Proofs.Try.func38 (by kernel_rfl) (by kernel_rfl) (by kernel_rfl) ⟨_, rfl, rfl, (hM.pick [] rfl rfl)⟩
  exact l0 k (Nat.le_refl _) 0 0 _ (hM.pick [] rfl rfl) h

/-! ### scrim/words.Be32: function 18 -/
def words_Be32.f (k : Nat) (a0 : List Int) : Option (Int × Bool) := if ((a0.length : Int) != 4) = true then (some (0, false)) else ((words_load.f k a0).bind fun t3 => (some (U32 (t3), true)))
set_option maxRecDepth 100000 in
theorem words_Be32.calls (k : Nat) (Ap0 : Option Addr) (np0 cp0 : Nat) (a0 : List Int) (r : Int × Bool) (w : World) (hr0 : Rd w (.slice Ap0 np0 cp0) (nums .u8 a0)) (h : words_Be32.f k a0 = some r) :
    Calls Go.Proofs.Try.prog 18 #[(.slice Ap0 np0 cp0)] w (Ret fun v w' => v = .tuple #[.int .u32 r.1, .bool r.2] ∧ Mem w w' []) := by
  obtain rfl : a0.length = np0 := by have h_ := hr0.1; simpa [nums_length, bools_length, strs_length] using h_
  unfold words_Be32.f at h
  refine calls_of [.slice Ap0 a0.length cp0] (fn := Go.Proofs.Try.f18) Go.Proofs.Try.func18 (by kernel_rfl) (by kernel_rfl) ?_
  have hM := Mem.refl w
  refine RunF.go 12 [0, 6] (k' := (pl Go.Proofs.Try.f18 [1, 0, 1])) (L' := [(0, .slice Ap0 a0.length cp0), (6, .bool ((a0.length : Int) != 4))]) (w' := w) (by kernel_rfl) ?_
  rcases two (((a0.length : Int) != 4)) with c1 | c1
  · replace h := of_true h c1
    refine RunF.know 6 (b := true) (by kernel_rfl) c1 ?_
    refine RunF.go 6 [2, 3] (k' := (pl Go.Proofs.Try.f18 [1, 0, 1, 0, 1])) (L' := [(2, .int .u32 0), (3, .bool false)]) (w' := w) (by kernel_rfl) ?_
    obtain rfl := Option.some.inj h
    exact RunF.ret2 2 3 (.int .u32 0) (.bool false) (fn := Go.Proofs.Try.f18) Go.Proofs.Try.func18 (by kernel_rfl) (by kernel_rfl) (by kernel_rfl) (by kernel_rfl) ⟨_, rfl, rfl, (hM.pick [] rfl rfl)⟩
  · replace h := of_false h c1
    refine RunF.know 6 (b := false) (by kernel_rfl) c1 ?_
    refine RunF.go 5 [7] (k' := (pin Go.Proofs.Try.f18 [1, 1, 0] 1)) (L' := [(7, .slice Ap0 a0.length cp0)]) (w' := w) (by kernel_rfl) ?_
    obtain ⟨t3, ht3, h⟩ := Option.bind_eq_some_iff.mp h
    refine RunF.call (d := some 8) (g := 38) (args := #[.slice Ap0 a0.length cp0]) (k2 := (pin Go.Proofs.Try.f18 [1, 1, 0] 2)) (by kernel_rfl) (words_load.calls k Ap0 a0.length cp0 a0 t3 _ (hr0.mono hM.below) ht3) ?_
    rintro _ W2 ⟨rfl, hM_⟩
    replace hM := hM.call hM_
    clear hM_ ht3
    refine RunF.go 4 [2, 3] (k' := (pl Go.Proofs.Try.f18 [1, 1, 1])) (L' := [(2, .int .u32 (U32 (t3))), (3, .bool true)]) (w' := W2) (by kernel_rfl) ?_
    obtain rfl := Option.some.inj h
    exact RunF.ret2 2 3 (.int .u32 (U32 (t3))) (.bool true) (fn := Go.Proofs.Try.f18) Go.Proofs.Try.func18 (by kernel_rfl) (by kernel_rfl) (by kernel_rfl) (by kernel_rfl) ⟨_, rfl, rfl, (hM.pick [] rfl rfl)⟩

/-! ### scrim/words.rest: function 43 -/
def words_rest.f (k : Nat) (a0 : Int) (a1 : Int) : Option (Int) := if (decide (a1 = 0)) = true then (none) else (if (decide (a1 = 0)) = true then (none) else (some (Int.tmod (I64 ((Int.tmod a0 a1) + a1)) a1)))
set_option maxRecDepth 100000 in
theorem words_rest.calls (k : Nat) (a0 : Int) (a1 : Int) (r : Int) (w : World) (h : words_rest.f k a0 a1 = some r) :
    Calls Go.Proofs.Try.prog 43 #[.int .i64 a0, .int .i64 a1] w (Ret fun v w' => v = .int .i64 r ∧ Mem w w' []) := by
  unfold words_rest.f at h
  refine calls_of [.int .i64 a0, .int .i64 a1] (fn := Go.Proofs.Try.f43) Go.Proofs.Try.func43 (by kernel_rfl) (by kernel_rfl) ?_
  have hM := Mem.refl w
  refine RunF.go 8 [1, 5, 6] (k' := (pin Go.Proofs.Try.f43 [1, 0] 2)) (L' := [(1, .int .i64 a1), (5, .int .i64 a0), (6, .int .i64 a1)]) (w' := w) (by kernel_rfl) ?_
  rcases two (decide (a1 = 0)) with c1 | c1
  · replace h := of_true h c1
    cases h
  · replace h := of_false h c1
    refine RunF.y (div_y (d := some 7) (b := false) (kd := .i64) (x := a0) (y := a1) (k2 := (pin Go.Proofs.Try.f43 [1, 0] 3)) (by kernel_rfl) c1) trivial ?_
    refine RunF.go 3 [9, 10] (k' := (pin Go.Proofs.Try.f43 [1, 0] 6)) (L' := [(9, .int .i64 (I64 ((Int.tmod a0 a1) + a1))), (10, .int .i64 a1)]) (w' := w) (by kernel_rfl) ?_
    rcases two (decide (a1 = 0)) with c2 | c2
    · replace h := of_true h c2
      cases h
    · replace h := of_false h c2
      refine RunF.y (div_y (d := some 11) (b := false) (kd := .i64) (x := I64 ((Int.tmod a0 a1) + a1)) (y := a1) (k2 := (pin Go.Proofs.Try.f43 [1, 0] 7)) (by kernel_rfl) c2) trivial ?_
      refine RunF.go 2 [4] (k' := (pl Go.Proofs.Try.f43 [1, 1])) (L' := [(4, .int .i64 (Int.tmod (I64 ((Int.tmod a0 a1) + a1)) a1))]) (w' := w) (by kernel_rfl) ?_
      obtain rfl := Option.some.inj h
      exact RunF.ret1 4 (.int .i64 (Int.tmod (I64 ((Int.tmod a0 a1) + a1)) a1)) (fn := Go.Proofs.Try.f43) Go.Proofs.Try.func43 (by kernel_rfl) (by kernel_rfl) (by kernel_rfl) ⟨_, rfl, rfl, (hM.pick [] rfl rfl)⟩

/-! ### scrim/words.Rol8: function 28 -/
def words_Rol8.f (k : Nat) (a0 : Int) (a1 : Int) : Option (Int) := (words_rest.f k a1 8).bind fun t2 => (if (decide (0 ≤ (U64 (t2)))) = true then (if (decide (0 ≤ (U64 (8 - (U64 (t2)))))) = true then (some (bor .u8 (shlv .u8 a0 (U64 (t2))) (shrv .u8 a0 (U64 (8 - (U64 (t2))))))) else (none)) else (none))
set_option maxRecDepth 100000 in
theorem words_Rol8.calls (k : Nat) (a0 : Int) (a1 : Int) (r : Int) (w : World) (h : words_Rol8.f k a0 a1 = some r) :
    Calls Go.Proofs.Try.prog 28 #[.int .u8 a0, .int .i64 a1] w (Ret fun v w' => v = .int .u8 r ∧ Mem w w' []) := by
  unfold words_Rol8.f at h
  refine calls_of [.int .u8 a0, .int .i64 a1] (fn := Go.Proofs.Try.f28) Go.Proofs.Try.func28 (by kernel_rfl) (by kernel_rfl) ?_
  have hM := Mem.refl w
  refine RunF.go 7 [0, 6] (k' := (pin Go.Proofs.Try.f28 [1, 0] 1)) (L' := [(0, .int .u8 a0), (6, .int .i64 a1)]) (w' := w) (by kernel_rfl) ?_
  obtain ⟨t2, ht2, h⟩ := Option.bind_eq_some_iff.mp h
  refine RunF.call (d := some 7) (g := 43) (args := #[.int .i64 a1, .int .i64 8]) (k2 := (pin Go.Proofs.Try.f28 [1, 0] 2)) (by kernel_rfl) (words_rest.calls k a1 8 t2 _ ht2) ?_
  rintro _ W1 ⟨rfl, hM_⟩
  replace hM := hM.call hM_
  clear hM_ ht2
  refine RunF.go 7 [0, 5, 9, 10] (k' := (pin Go.Proofs.Try.f28 [1, 1, 0] 2)) (L' := [(0, .int .u8 a0), (5, .int .u64 (U64 (t2))), (9, .int .u8 a0), (10, .int .u64 (U64 (t2)))]) (w' := W1) (by kernel_rfl) ?_
  rcases two (decide (0 ≤ (U64 (t2)))) with c3 | c3
  · replace h := of_true h c3
    refine RunF.y (sh_y (d := some 11) (b := true) (kd := .u8) (x := a0) (y := U64 (t2)) (k2 := (pin Go.Proofs.Try.f28 [1, 1, 0] 3)) (by kernel_rfl) c3) trivial ?_
    refine RunF.go 3 [11, 12, 14] (k' := (pin Go.Proofs.Try.f28 [1, 1, 0] 6)) (L' := [(11, .int .u8 (shlv .u8 a0 (U64 (t2)))), (12, .int .u8 a0), (14, .int .u64 (U64 (8 - (U64 (t2)))))]) (w' := W1) (by kernel_rfl) ?_
    rcases two (decide (0 ≤ (U64 (8 - (U64 (t2)))))) with c4 | c4
    · replace h := of_true h c4
      refine RunF.y (sh_y (d := some 15) (b := false) (kd := .u8) (x := a0) (y := U64 (8 - (U64 (t2)))) (k2 := (pin Go.Proofs.Try.f28 [1, 1, 0] 7)) (by kernel_rfl) c4) trivial ?_
      refine RunF.go 3 [4] (k' := (pl Go.Proofs.Try.f28 [1, 1, 1])) (L' := [(4, .int .u8 (bor .u8 (shlv .u8 a0 (U64 (t2))) (shrv .u8 a0 (U64 (8 - (U64 (t2)))))))]) (w' := W1) (by kernel_rfl) ?_
      obtain rfl := Option.some.inj h
      exact RunF.ret1 4 (.int .u8 (bor .u8 (shlv .u8 a0 (U64 (t2))) (shrv .u8 a0 (U64 (8 - (U64 (t2))))))) (fn := Go.Proofs.Try.f28) Go.Proofs.Try.func28 (by kernel_rfl) (by kernel_rfl) (by kernel_rfl) ⟨_, rfl, rfl, (hM.pick [] rfl rfl)⟩
    · replace h := of_false h c4
      cases h
  · replace h := of_false h c3
    cases h

/-! ### scrim/scrimlaw1.known: function 14 -/
def scrimlaw1_known.f (k : Nat)  : Option (Bool) := (words_Inc.f k ([0, 255] : List Int)).bind fun t5 => ((words_Be32.f k ([1, 2, 3, 4] : List Int)).bind fun t14 => ((some (((strOf t5).toList == (⟨#[1, 0]⟩ : ByteArray).toList) : Bool)).bind fun y15 => (if y15 = true then (if t14.2 = true then (if (t14.1 == 16909060) = true then ((words_Rol8.f k 129 1).bind fun t20 => (some (t20 == 3))) else (some false)) else (some false)) else (some false))))
set_option maxRecDepth 100000 in
theorem scrimlaw1_known.calls (k : Nat)  (r : Bool) (w : World) (h : scrimlaw1_known.f k = some r) :
    Calls Go.Proofs.Try.prog 14 #[] w (Ret fun v w' => v = .bool r ∧ Mem w w' []) := by
  unfold scrimlaw1_known.f at h
  refine calls_of [] (fn := Go.Proofs.Try.f14) Go.Proofs.Try.func14 (by kernel_rfl) (by kernel_rfl) ?_
  have hM := Mem.refl w
  refine RunF.go 6 [] (k' := (pin Go.Proofs.Try.f14 [1, 0] 0)) (L' := []) (w' := w) (by kernel_rfl) ?_
  refine RunF.new 5 1 2 (nums .u8 [0, 255]) (d := some 4) (k2 := (pin Go.Proofs.Try.f14 [1, 0] 1)) hM (by simp [nums, bools, strs]) (by kernel_rfl) (by kernel_rfl) ?_
  replace hM := hM
  intro g1 W2 hM
  obtain ⟨t5, ht5, h⟩ := Option.bind_eq_some_iff.mp h
  refine RunF.call (d := some 5) (g := 16) (args := #[.slice (some ⟨g1, 0, none⟩) 2 2]) (k2 := (pin Go.Proofs.Try.f14 [1, 0] 2)) (by kernel_rfl) (words_Inc.calls k (some ⟨g1, 0, none⟩) 2 2 ([0, 255] : List Int) t5 _ (hM.rd 0 rfl) ht5) ?_
  rintro _ W4 ⟨A6, n7, c8, rfl, hM_⟩
  obtain rfl : t5.length = n7 := by have h_ := (hM_.rd 0 rfl).1; simpa [nums_length, bools_length, strs_length] using h_
  replace hM := hM.call hM_
  clear hM_ ht5
  refine RunF.go 4 [1] (k' := (pin Go.Proofs.Try.f14 [1, 1, 0] 0)) (L' := [(1, .slice A6 t5.length c8)]) (w' := W4) (by kernel_rfl) ?_
  refine RunF.new 5 1 4 (nums .u8 [1, 2, 3, 4]) (d := some 7) (k2 := (pin Go.Proofs.Try.f14 [1, 1, 0] 1)) hM (by simp [nums, bools, strs]) (by kernel_rfl) (by kernel_rfl) ?_
  replace hM := hM
  intro g10 W11 hM
  obtain ⟨t14, ht14, h⟩ := Option.bind_eq_some_iff.mp h
  refine RunF.call (d := some 8) (g := 18) (args := #[.slice (some ⟨g10, 0, none⟩) 4 4]) (k2 := (pin Go.Proofs.Try.f14 [1, 1, 0] 2)) (by kernel_rfl) (words_Be32.calls k (some ⟨g10, 0, none⟩) 4 4 ([1, 2, 3, 4] : List Int) t14 _ (hM.rd 0 rfl) ht14) ?_
  rintro _ W13 ⟨rfl, hM_⟩
  replace hM := hM.call hM_
  clear hM_ ht14
  refine RunF.go 9 [2, 3, 11] (k' := (pin Go.Proofs.Try.f14 [1, 1, 1, 0] 1)) (L' := [(2, .int .u32 t14.1), (3, .bool t14.2), (11, .slice A6 t5.length c8)]) (w' := W13) (by kernel_rfl) ?_
  refine RunF.y (str_y (d := some 12) (A := A6) (m := t5.length) (c := c8) (k2 := (pin Go.Proofs.Try.f14 [1, 1, 1, 0] 2)) t5 (by kernel_rfl)) (hM.rd 1 rfl) ?_
  refine RunF.go 2 [2, 3, 14] (k' := (pin Go.Proofs.Try.f14 [1, 1, 1, 0] 4)) (L' := [(2, .int .u32 t14.1), (3, .bool t14.2), (14, .bool ((strOf t5).toList == (⟨#[1, 0]⟩ : ByteArray).toList))]) (w' := W13) (by kernel_rfl) ?_
  obtain ⟨y15, hy, h⟩ := Option.bind_eq_some_iff.mp h
  rw [show (((strOf t5).toList == (⟨#[1, 0]⟩ : ByteArray).toList)) = y15 from Option.some.inj hy]
  clear hy
  rcases two (y15) with c16 | c16
  · replace h := of_true h c16
    refine RunF.know 14 (b := true) (by kernel_rfl) c16 ?_
    refine RunF.go 3 [2, 17] (k' := (pin Go.Proofs.Try.f14 [1, 1, 1, 0] 7)) (L' := [(2, .int .u32 t14.1), (17, .bool t14.2)]) (w' := W13) (by kernel_rfl) ?_
    rcases two (t14.2) with c17 | c17
    · replace h := of_true h c17
      refine RunF.know 17 (b := true) (by kernel_rfl) c17 ?_
      refine RunF.go 4 [21] (k' := (pin Go.Proofs.Try.f14 [1, 1, 1, 0] 11)) (L' := [(21, .bool (t14.1 == 16909060))]) (w' := W13) (by kernel_rfl) ?_
      rcases two ((t14.1 == 16909060)) with c18 | c18
      · replace h := of_true h c18
        refine RunF.know 21 (b := true) (by kernel_rfl) c18 ?_
        obtain ⟨t20, ht20, h⟩ := Option.bind_eq_some_iff.mp h
        refine RunF.call (d := some 22) (g := 28) (args := #[.int .u8 129, .int .i64 1]) (k2 := (pin Go.Proofs.Try.f14 [1, 1, 1, 0] 12)) (by kernel_rfl) (words_Rol8.calls k 129 1 t20 _ ht20) ?_
        rintro _ W19 ⟨rfl, hM_⟩
        replace hM := hM.call hM_
        clear hM_ ht20
        refine RunF.go 4 [0] (k' := (pl Go.Proofs.Try.f14 [1, 1, 1, 1])) (L' := [(0, .bool (t20 == 3))]) (w' := W19) (by kernel_rfl) ?_
        obtain rfl := Option.some.inj h
        exact RunF.ret1 0 (.bool (t20 == 3)) (fn := Go.Proofs.Try.f14) Go.Proofs.Try.func14 (by kernel_rfl) (by kernel_rfl) (by kernel_rfl) ⟨_, rfl, rfl, (hM.pick [] rfl rfl)⟩
      · replace h := of_false h c18
        refine RunF.know 21 (b := false) (by kernel_rfl) c18 ?_
        refine RunF.go 5 [0] (k' := (pl Go.Proofs.Try.f14 [1, 1, 1, 1])) (L' := [(0, .bool false)]) (w' := W13) (by kernel_rfl) ?_
        obtain rfl := Option.some.inj h
        exact RunF.ret1 0 (.bool false) (fn := Go.Proofs.Try.f14) Go.Proofs.Try.func14 (by kernel_rfl) (by kernel_rfl) (by kernel_rfl) ⟨_, rfl, rfl, (hM.pick [] rfl rfl)⟩
    · replace h := of_false h c17
      refine RunF.know 17 (b := false) (by kernel_rfl) c17 ?_
      refine RunF.go 9 [0] (k' := (pl Go.Proofs.Try.f14 [1, 1, 1, 1])) (L' := [(0, .bool false)]) (w' := W13) (by kernel_rfl) ?_
      obtain rfl := Option.some.inj h
      exact RunF.ret1 0 (.bool false) (fn := Go.Proofs.Try.f14) Go.Proofs.Try.func14 (by kernel_rfl) (by kernel_rfl) (by kernel_rfl) ⟨_, rfl, rfl, (hM.pick [] rfl rfl)⟩
  · replace h := of_false h c16
    refine RunF.know 14 (b := false) (by kernel_rfl) c16 ?_
    refine RunF.go 12 [0] (k' := (pl Go.Proofs.Try.f14 [1, 1, 1, 1])) (L' := [(0, .bool false)]) (w' := W13) (by kernel_rfl) ?_
    obtain rfl := Option.some.inj h
    exact RunF.ret1 0 (.bool false) (fn := Go.Proofs.Try.f14) Go.Proofs.Try.func14 (by kernel_rfl) (by kernel_rfl) (by kernel_rfl) ⟨_, rfl, rfl, (hM.pick [] rfl rfl)⟩

/-! ### scrim/scrimlaw1.within: function 15 -/
def scrimlaw1_within.f (k : Nat) (a0 : Int) (a1 : Int) : Option (Int) := if (decide (a1 = 0)) = true then (none) else (if (decide ((Int.tmod a0 a1) < 0)) = true then (some (I64 ((Int.tmod a0 a1) + a1))) else (some (Int.tmod a0 a1)))
set_option maxRecDepth 100000 in
theorem scrimlaw1_within.calls (k : Nat) (a0 : Int) (a1 : Int) (r : Int) (w : World) (h : scrimlaw1_within.f k a0 a1 = some r) :
    Calls Go.Proofs.Try.prog 15 #[.int .i64 a0, .int .i64 a1] w (Ret fun v w' => v = .int .i64 r ∧ Mem w w' []) := by
  unfold scrimlaw1_within.f at h
  refine calls_of [.int .i64 a0, .int .i64 a1] (fn := Go.Proofs.Try.f15) Go.Proofs.Try.func15 (by kernel_rfl) (by kernel_rfl) ?_
  have hM := Mem.refl w
  refine RunF.go 8 [1, 6, 7] (k' := (pin Go.Proofs.Try.f15 [1, 0] 2)) (L' := [(1, .int .i64 a1), (6, .int .i64 a0), (7, .int .i64 a1)]) (w' := w) (by kernel_rfl) ?_
  rcases two (decide (a1 = 0)) with c1 | c1
  · replace h := of_true h c1
    cases h
  · replace h := of_false h c1
    refine RunF.y (div_y (d := some 8) (b := false) (kd := .i64) (x := a0) (y := a1) (k2 := (pin Go.Proofs.Try.f15 [1, 0] 3)) (by kernel_rfl) c1) trivial ?_
    refine RunF.go 8 [1, 5, 10] (k' := (pl Go.Proofs.Try.f15 [1, 1, 0, 1])) (L' := [(1, .int .i64 a1), (5, .int .i64 (Int.tmod a0 a1)), (10, .bool (decide ((Int.tmod a0 a1) < 0)))]) (w' := w) (by kernel_rfl) ?_
    rcases two (decide ((Int.tmod a0 a1) < 0)) with c2 | c2
    · replace h := of_true h c2
      refine RunF.know 10 (b := true) (by kernel_rfl) c2 ?_
      refine RunF.go 12 [4] (k' := (pl Go.Proofs.Try.f15 [1, 1, 1, 1])) (L' := [(4, .int .i64 (I64 ((Int.tmod a0 a1) + a1)))]) (w' := w) (by kernel_rfl) ?_
      obtain rfl := Option.some.inj h
      exact RunF.ret1 4 (.int .i64 (I64 ((Int.tmod a0 a1) + a1))) (fn := Go.Proofs.Try.f15) Go.Proofs.Try.func15 (by kernel_rfl) (by kernel_rfl) (by kernel_rfl) ⟨_, rfl, rfl, (hM.pick [] rfl rfl)⟩
    · replace h := of_false h c2
      refine RunF.know 10 (b := false) (by kernel_rfl) c2 ?_
      refine RunF.go 7 [4] (k' := (pl Go.Proofs.Try.f15 [1, 1, 1, 1])) (L' := [(4, .int .i64 (Int.tmod a0 a1))]) (w' := w) (by kernel_rfl) ?_
      obtain rfl := Option.some.inj h
      exact RunF.ret1 4 (.int .i64 (Int.tmod a0 a1)) (fn := Go.Proofs.Try.f15) Go.Proofs.Try.func15 (by kernel_rfl) (by kernel_rfl) (by kernel_rfl) ⟨_, rfl, rfl, (hM.pick [] rfl rfl)⟩

/-! ### scrim/words.Rol32: function 26 -/
def words_Rol32.f (k : Nat) (a0 : Int) (a1 : Int) : Option (Int) := (words_rest.f k a1 32).bind fun t2 => (if (decide (0 ≤ (U64 (t2)))) = true then (if (decide (0 ≤ (U64 (32 - (U64 (t2)))))) = true then (some (bor .u32 (shlv .u32 a0 (U64 (t2))) (shrv .u32 a0 (U64 (32 - (U64 (t2))))))) else (none)) else (none))
set_option maxRecDepth 100000 in
theorem words_Rol32.calls (k : Nat) (a0 : Int) (a1 : Int) (r : Int) (w : World) (h : words_Rol32.f k a0 a1 = some r) :
    Calls Go.Proofs.Try.prog 26 #[.int .u32 a0, .int .i64 a1] w (Ret fun v w' => v = .int .u32 r ∧ Mem w w' []) := by
  unfold words_Rol32.f at h
  refine calls_of [.int .u32 a0, .int .i64 a1] (fn := Go.Proofs.Try.f26) Go.Proofs.Try.func26 (by kernel_rfl) (by kernel_rfl) ?_
  have hM := Mem.refl w
  refine RunF.go 7 [0, 6] (k' := (pin Go.Proofs.Try.f26 [1, 0] 1)) (L' := [(0, .int .u32 a0), (6, .int .i64 a1)]) (w' := w) (by kernel_rfl) ?_
  obtain ⟨t2, ht2, h⟩ := Option.bind_eq_some_iff.mp h
  refine RunF.call (d := some 7) (g := 43) (args := #[.int .i64 a1, .int .i64 32]) (k2 := (pin Go.Proofs.Try.f26 [1, 0] 2)) (by kernel_rfl) (words_rest.calls k a1 32 t2 _ ht2) ?_
  rintro _ W1 ⟨rfl, hM_⟩
  replace hM := hM.call hM_
  clear hM_ ht2
  refine RunF.go 7 [0, 5, 9, 10] (k' := (pin Go.Proofs.Try.f26 [1, 1, 0] 2)) (L' := [(0, .int .u32 a0), (5, .int .u64 (U64 (t2))), (9, .int .u32 a0), (10, .int .u64 (U64 (t2)))]) (w' := W1) (by kernel_rfl) ?_
  rcases two (decide (0 ≤ (U64 (t2)))) with c3 | c3
  · replace h := of_true h c3
    refine RunF.y (sh_y (d := some 11) (b := true) (kd := .u32) (x := a0) (y := U64 (t2)) (k2 := (pin Go.Proofs.Try.f26 [1, 1, 0] 3)) (by kernel_rfl) c3) trivial ?_
    refine RunF.go 3 [11, 12, 14] (k' := (pin Go.Proofs.Try.f26 [1, 1, 0] 6)) (L' := [(11, .int .u32 (shlv .u32 a0 (U64 (t2)))), (12, .int .u32 a0), (14, .int .u64 (U64 (32 - (U64 (t2)))))]) (w' := W1) (by kernel_rfl) ?_
    rcases two (decide (0 ≤ (U64 (32 - (U64 (t2)))))) with c4 | c4
    · replace h := of_true h c4
      refine RunF.y (sh_y (d := some 15) (b := false) (kd := .u32) (x := a0) (y := U64 (32 - (U64 (t2)))) (k2 := (pin Go.Proofs.Try.f26 [1, 1, 0] 7)) (by kernel_rfl) c4) trivial ?_
      refine RunF.go 3 [4] (k' := (pl Go.Proofs.Try.f26 [1, 1, 1])) (L' := [(4, .int .u32 (bor .u32 (shlv .u32 a0 (U64 (t2))) (shrv .u32 a0 (U64 (32 - (U64 (t2)))))))]) (w' := W1) (by kernel_rfl) ?_
      obtain rfl := Option.some.inj h
      exact RunF.ret1 4 (.int .u32 (bor .u32 (shlv .u32 a0 (U64 (t2))) (shrv .u32 a0 (U64 (32 - (U64 (t2))))))) (fn := Go.Proofs.Try.f26) Go.Proofs.Try.func26 (by kernel_rfl) (by kernel_rfl) (by kernel_rfl) ⟨_, rfl, rfl, (hM.pick [] rfl rfl)⟩
    · replace h := of_false h c4
      cases h
  · replace h := of_false h c3
    cases h

/-! ### scrim/words.Turn: function 30 -/
def words_Turn.l0 : Nat → (List Int) → Int → (List Int) → Int → Option (List Int)
  | 0, _, _, _, _ => none
  | k + 1, a0, t4, x5_0, x23_0 => (some (decide (x23_0 < (((a0.length : Int)).toNat : Int)) : Bool)).bind fun y10 => (if y10 = true then (if (decide ((a0.length : Int) = 0)) = true then (none) else (if (decide (0 ≤ (Int.tmod (I64 (x23_0 + (I64 (Int.tdiv t4 8)))) (a0.length : Int)))) = true then (if (decide ((Int.tmod (I64 (x23_0 + (I64 (Int.tdiv t4 8)))) (a0.length : Int)) < (a0.length : Int))) = true then (if (decide ((a0.length : Int) = 0)) = true then (none) else (if (decide (0 ≤ (Int.tmod (I64 ((I64 (x23_0 + (I64 (Int.tdiv t4 8)))) + 1)) (a0.length : Int)))) = true then (if (decide ((Int.tmod (I64 ((I64 (x23_0 + (I64 (Int.tdiv t4 8)))) + 1)) (a0.length : Int)) < (a0.length : Int))) = true then ((some (bor .u64 (shl .u64 (U64 (rd a0 (Int.tmod (I64 (x23_0 + (I64 (Int.tdiv t4 8)))) (a0.length : Int)))) 8) (U64 (rd a0 (Int.tmod (I64 ((I64 (x23_0 + (I64 (Int.tdiv t4 8)))) + 1)) (a0.length : Int)))) : Int)).bind fun y22 => (if (decide (0 ≤ (U64 (8 - (U64 (Int.tmod t4 8)))))) = true then ((some (U8 (shrv .u64 y22 (U64 (8 - (U64 (Int.tmod t4 8))))) : Int)).bind fun y24 => (if (decide (0 ≤ x23_0)) = true then (if (decide (x23_0 < (((a0.length : Int)).toNat : Int))) = true then (words_Turn.l0 k a0 t4 (x5_0.set (x23_0 : Int).toNat y24) (I64 (x23_0 + 1))) else (none)) else (none))) else (none))) else (none)) else (none))) else (none)) else (none))) else (some x5_0))
def words_Turn.f (k : Nat) (a0 : List Int) (a1 : Int) : Option (List Int) := if ((a0.length : Int) == 0) = true then (some ([] : List Int)) else ((words_rest.f k a1 (I64 (8 * (a0.length : Int)))).bind fun t4 => (if (decide (0 ≤ (a0.length : Int))) = true then (if (decide ((a0.length : Int) ≤ 1000000000)) = true then (words_Turn.l0 k a0 t4 (List.replicate (((a0.length : Int)).toNat) (0 : Int)) 0) else (none)) else (none)))
set_option maxRecDepth 100000 in
theorem words_Turn.calls (k : Nat) (Ap0 : Option Addr) (np0 cp0 : Nat) (a0 : List Int) (a1 : Int) (r : List Int) (w : World) (hr0 : Rd w (.slice Ap0 np0 cp0) (nums .u8 a0)) (h : words_Turn.f k a0 a1 = some r) :
    Calls Go.Proofs.Try.prog 30 #[(.slice Ap0 np0 cp0), .int .i64 a1] w (Ret fun v w' => ∃ A0' n0' c0', v = .slice A0' n0' c0' ∧ Mem w w' [⟨.slice A0' n0' c0', 5, 1, nums .u8 r⟩]) := by
  obtain rfl : a0.length = np0 := by have h_ := hr0.1; simpa [nums_length, bools_length, strs_length] using h_
  unfold words_Turn.f at h
  refine calls_of [.slice Ap0 a0.length cp0, .int .i64 a1] (fn := Go.Proofs.Try.f30) Go.Proofs.Try.func30 (by kernel_rfl) (by kernel_rfl) ?_
  have hM := Mem.refl w
  refine RunF.go 11 [0, 1, 12] (k' := (pl Go.Proofs.Try.f30 [1, 0, 1])) (L' := [(0, .slice Ap0 a0.length cp0), (1, .int .i64 a1), (12, .bool ((a0.length : Int) == 0))]) (w' := w) (by kernel_rfl) ?_
  rcases two (((a0.length : Int) == 0)) with c1 | c1
  · replace h := of_true h c1
    refine RunF.know 12 (b := true) (by kernel_rfl) c1 ?_
    refine RunF.go 5 [4] (k' := (pl Go.Proofs.Try.f30 [1, 0, 1, 0, 1])) (L' := [(4, .slice none 0 0)]) (w' := w) (by kernel_rfl) ?_
    replace hM := hM.nil 5
    obtain rfl := Option.some.inj h
    exact RunF.ret1 4 (.slice none 0 0) (fn := Go.Proofs.Try.f30) Go.Proofs.Try.func30 (by kernel_rfl) (by kernel_rfl) (by kernel_rfl) ⟨_, rfl, none, 0, 0, rfl, (hM.pick [0] rfl rfl)⟩
  · replace h := of_false h c1
    refine RunF.know 12 (b := false) (by kernel_rfl) c1 ?_
    refine RunF.go 8 [0, 13, 16] (k' := (pin Go.Proofs.Try.f30 [1, 1, 0] 4)) (L' := [(0, .slice Ap0 a0.length cp0), (13, .int .i64 a1), (16, .int .i64 (I64 (8 * (a0.length : Int))))]) (w' := w) (by kernel_rfl) ?_
    obtain ⟨t4, ht4, h⟩ := Option.bind_eq_some_iff.mp h
    refine RunF.call (d := some 17) (g := 43) (args := #[.int .i64 a1, .int .i64 (I64 (8 * (a0.length : Int)))]) (k2 := (pin Go.Proofs.Try.f30 [1, 1, 0] 5)) (by kernel_rfl) (words_rest.calls k a1 (I64 (8 * (a0.length : Int))) t4 _ ht4) ?_
    rintro _ W3 ⟨rfl, hM_⟩
    replace hM := hM.call hM_
    clear hM_ ht4
    refine RunF.go 6 [0, 1, 19] (k' := (pin Go.Proofs.Try.f30 [1, 1, 1, 0] 2)) (L' := [(0, .slice Ap0 a0.length cp0), (1, .int .i64 t4), (19, .int .i64 (a0.length : Int))]) (w' := W3) (by kernel_rfl) ?_
    rcases two (decide (0 ≤ (a0.length : Int))) with c7 | c7
    · replace h := of_true h c7
      rcases two (decide ((a0.length : Int) ≤ 1000000000)) with c8 | c8
      · replace h := of_true h c8
        have := of_decide_eq_true c7
        have := of_decide_eq_true c8
        obtain ⟨W5, hD, hM', hB_⟩ := mk_does (P := Go.Proofs.Try.prog) (n := 62) (k := (pin Go.Proofs.Try.f30 [1, 1, 1, 0] 2)) (L := [(0, .slice Ap0 a0.length cp0), (1, .int .i64 t4), (19, .int .i64 (a0.length : Int))]) (d := some 20) (e := 5) (z := .int .u8 0) (l := (a0.length : Int)) (c := (a0.length : Int)) (k2 := (pin Go.Proofs.Try.f30 [1, 1, 1, 0] 3)) (by kernel_rfl) (by omega) (by omega) (by omega) hM
        rw [rep_nums] at hM'
        refine RunF.does hD ?_
        replace hM := hM'; clear hD hM'
        generalize W3.heap.size = g6 at hM ⊢
        refine RunF.go 11 [0, 1, 5, 22, 23] (k' := (pl Go.Proofs.Try.f30 [1, 1, 1, 1, 0, 1, 0, 0])) (L' := [(0, .slice Ap0 a0.length cp0), (1, .int .i64 t4), (5, .slice (some ⟨g6, 0, none⟩) (((a0.length : Int)).toNat) (((a0.length : Int) : Int).toNat)), (22, .int .i64 (((a0.length : Int)).toNat : Int)), (23, .int .i64 0)]) (w' := W5) (by kernel_rfl) ?_
        have l0 : ∀ (k_ : Nat), k_ ≤ k → ∀ (x5_0 : List Int) (x23_0 : Int) (W : World) (hM : Mem w W [⟨.slice (some ⟨g6, 0, none⟩) (((a0.length : Int)).toNat) (((a0.length : Int) : Int).toNat), 5, 1, nums .u8 x5_0⟩]) (h : words_Turn.l0 k_ a0 t4 x5_0 x23_0 = some r), RunF Go.Proofs.Try.prog (Ret fun v w' => ∃ A0' n0' c0', v = .slice A0' n0' c0' ∧ Mem w w' [⟨.slice A0' n0' c0', 5, 1, nums .u8 r⟩]) 30 (pl Go.Proofs.Try.f30 [1, 1, 1, 1, 0, 1, 0, 0]) 62 [(0, .slice Ap0 a0.length cp0), (1, .int .i64 t4), (5, .slice (some ⟨g6, 0, none⟩) (((a0.length : Int)).toNat) (((a0.length : Int) : Int).toNat)), (22, .int .i64 (((a0.length : Int)).toNat : Int)), (23, .int .i64 x23_0)] W := by
          intro k_
          induction k_ using Nat.strongRecOn with
          | _ k_ ih0 =>
            intro hk x5_0 x23_0 W hM h
            cases k_ with
            | zero => exact absurd h (by simp [words_Turn.l0])
            | succ k =>
              simp only [words_Turn.l0] at h
              replace ih0 : ∀ m, m ≤ k → _ := fun m hm => ih0 m (by omega) (by omega)
              refine RunF.go 5 [0, 1, 5, 22, 23, 24] (k' := (pl Go.Proofs.Try.f30 [1, 1, 1, 1, 0, 1, 0, 0, 1, 0])) (L' := [(0, .slice Ap0 a0.length cp0), (1, .int .i64 t4), (5, .slice (some ⟨g6, 0, none⟩) (((a0.length : Int)).toNat) (((a0.length : Int) : Int).toNat)), (22, .int .i64 (((a0.length : Int)).toNat : Int)), (23, .int .i64 x23_0), (24, .bool (decide (x23_0 < (((a0.length : Int)).toNat : Int))))]) (w' := W) (by kernel_rfl) ?_
              obtain ⟨y10, hy, h⟩ := Option.bind_eq_some_iff.mp h
              rw [show (decide (x23_0 < (((a0.length : Int)).toNat : Int))) = y10 from Option.some.inj hy]
              clear hy
              rcases two (y10) with c11 | c11
              · replace h := of_true h c11
                refine RunF.know 24 (b := true) (by kernel_rfl) c11 ?_
                refine RunF.go 18 [0, 1, 5, 6, 7, 22, 23] (k' := (pl Go.Proofs.Try.f30 [1, 1, 1, 1, 0, 1, 0, 0, 1, 1, 0, 0, 1, 1, 0])) (L' := [(0, .slice Ap0 a0.length cp0), (1, .int .i64 t4), (5, .slice (some ⟨g6, 0, none⟩) (((a0.length : Int)).toNat) (((a0.length : Int) : Int).toNat)), (6, .int .i64 x23_0), (7, .int .i64 (I64 (x23_0 + (I64 (Int.tdiv t4 8))))), (22, .int .i64 (((a0.length : Int)).toNat : Int)), (23, .int .i64 x23_0)]) (w' := W) (by kernel_rfl) ?_
                refine RunF.draw (Still ({ W with drawn := W.drawn + 1 } : World) []) (by kernel_rfl) (by kernel_rfl) ?_
                have hMd13 := hM.drew
                have hS := Still.refl ({ W with drawn := W.drawn + 1 } : World) []
                generalize ({ W with drawn := W.drawn + 1 } : World) = W12 at hMd13 hS ⊢
                replace hM := hMd13
                refine RunAny.y 0 (by kernel_rfl) (yl_pure (d := some 30) (v := .slice Ap0 a0.length cp0) (k2 := [.inRegion (opsOf (pl Go.Proofs.Try.f30 [1, 1, 1, 1, 0, 1, 0, 0, 1, 1, 0, 0, 1, 1, 0])) []]) fun w => by kernel_rfl) (fun _ _ => trivial) hS ?_
                refine RunAny.y 1 (by kernel_rfl) (yl_pure (d := some 31) (v := .int .i64 (I64 (x23_0 + (I64 (Int.tdiv t4 8))))) (k2 := [.inRegion (opsOf (pl Go.Proofs.Try.f30 [1, 1, 1, 1, 0, 1, 0, 0, 1, 1, 0, 0, 1, 1, 0])) []]) fun w => by kernel_rfl) (fun _ _ => trivial) hS ?_
                refine RunAny.y 2 (by kernel_rfl) (yl_pure (d := some 32) (v := .slice Ap0 a0.length cp0) (k2 := [.inRegion (opsOf (pl Go.Proofs.Try.f30 [1, 1, 1, 1, 0, 1, 0, 0, 1, 1, 0, 0, 1, 1, 0])) []]) fun w => by kernel_rfl) (fun _ _ => trivial) hS ?_
                refine RunAny.y 3 (by kernel_rfl) (yl_pure (d := some 33) (v := .int .i64 (a0.length : Int)) (k2 := [.inRegion (opsOf (pl Go.Proofs.Try.f30 [1, 1, 1, 1, 0, 1, 0, 0, 1, 1, 0, 0, 1, 1, 0])) []]) fun w => by kernel_rfl) (fun _ _ => trivial) hS ?_
                rcases two (decide ((a0.length : Int) = 0)) with c14 | c14
                · replace h := of_true h c14
                  cases h
                · replace h := of_false h c14
                  refine RunAny.y 4 (by kernel_rfl) (div_y (d := some 34) (b := false) (kd := .i64) (x := I64 (x23_0 + (I64 (Int.tdiv t4 8)))) (y := (a0.length : Int)) (k2 := [.inRegion (opsOf (pl Go.Proofs.Try.f30 [1, 1, 1, 1, 0, 1, 0, 0, 1, 1, 0, 0, 1, 1, 0])) []]) (by kernel_rfl) c14) (fun _ _ => trivial) hS ?_
                  rcases two (decide (0 ≤ (Int.tmod (I64 (x23_0 + (I64 (Int.tdiv t4 8)))) (a0.length : Int)))) with c16 | c16
                  · replace h := of_true h c16
                    rcases two (decide ((Int.tmod (I64 (x23_0 + (I64 (Int.tdiv t4 8)))) (a0.length : Int)) < (a0.length : Int))) with c17 | c17
                    · replace h := of_true h c17
                      obtain ⟨q15, hAq15, hcq15⟩ := Rd.num (hr0.mono hM.below) (i := Int.tmod (I64 (x23_0 + (I64 (Int.tdiv t4 8)))) (a0.length : Int)) (of_decide_eq_true c16) (by have h_ := of_decide_eq_true c17; omega)
                      refine RunAny.y 5 (by kernel_rfl) (idx_y (d := some 35) (A := Ap0) (m := a0.length) (i := Int.tmod (I64 (x23_0 + (I64 (Int.tdiv t4 8)))) (a0.length : Int)) (k2 := [.inRegion (opsOf (pl Go.Proofs.Try.f30 [1, 1, 1, 1, 0, 1, 0, 0, 1, 1, 0, 0, 1, 1, 0])) []]) (by kernel_rfl) (of_decide_eq_true c16) (by have h_ := of_decide_eq_true c17; omega) hAq15) (fun _ _ => trivial) hS ?_
                      refine RunAny.y 6 (by kernel_rfl) (ld_y (d := some 36) (p := (q15.add (Int.tmod (I64 (x23_0 + (I64 (Int.tdiv t4 8)))) (a0.length : Int) : Int).toNat)) (k2 := [.inRegion (opsOf (pl Go.Proofs.Try.f30 [1, 1, 1, 1, 0, 1, 0, 0, 1, 1, 0, 0, 1, 1, 0])) []]) (.int .u8 (rd a0 (Int.tmod (I64 (x23_0 + (I64 (Int.tdiv t4 8)))) (a0.length : Int)))) (by kernel_rfl)) (fun _ hs => hs.cell hcq15 (by simp)) hS ?_
                      refine RunAny.y 7 (by kernel_rfl) (yl_pure (d := some 37) (v := .slice Ap0 a0.length cp0) (k2 := [.inRegion (opsOf (pl Go.Proofs.Try.f30 [1, 1, 1, 1, 0, 1, 0, 0, 1, 1, 0, 0, 1, 1, 0])) []]) fun w => by kernel_rfl) (fun _ _ => trivial) hS ?_
                      refine RunAny.y 8 (by kernel_rfl) (yl_pure (d := some 38) (v := .int .i64 (I64 (x23_0 + (I64 (Int.tdiv t4 8))))) (k2 := [.inRegion (opsOf (pl Go.Proofs.Try.f30 [1, 1, 1, 1, 0, 1, 0, 0, 1, 1, 0, 0, 1, 1, 0])) []]) fun w => by kernel_rfl) (fun _ _ => trivial) hS ?_
                      refine RunAny.y 9 (by kernel_rfl) (yl_pure (d := some 39) (v := .int .i64 (I64 ((I64 (x23_0 + (I64 (Int.tdiv t4 8)))) + 1))) (k2 := [.inRegion (opsOf (pl Go.Proofs.Try.f30 [1, 1, 1, 1, 0, 1, 0, 0, 1, 1, 0, 0, 1, 1, 0])) []]) fun w => by kernel_rfl) (fun _ _ => trivial) hS ?_
                      refine RunAny.y 10 (by kernel_rfl) (yl_pure (d := some 40) (v := .slice Ap0 a0.length cp0) (k2 := [.inRegion (opsOf (pl Go.Proofs.Try.f30 [1, 1, 1, 1, 0, 1, 0, 0, 1, 1, 0, 0, 1, 1, 0])) []]) fun w => by kernel_rfl) (fun _ _ => trivial) hS ?_
                      refine RunAny.y 11 (by kernel_rfl) (yl_pure (d := some 41) (v := .int .i64 (a0.length : Int)) (k2 := [.inRegion (opsOf (pl Go.Proofs.Try.f30 [1, 1, 1, 1, 0, 1, 0, 0, 1, 1, 0, 0, 1, 1, 0])) []]) fun w => by kernel_rfl) (fun _ _ => trivial) hS ?_
                      rcases two (decide ((a0.length : Int) = 0)) with c18 | c18
                      · replace h := of_true h c18
                        cases h
                      · replace h := of_false h c18
                        refine RunAny.y 12 (by kernel_rfl) (div_y (d := some 42) (b := false) (kd := .i64) (x := I64 ((I64 (x23_0 + (I64 (Int.tdiv t4 8)))) + 1)) (y := (a0.length : Int)) (k2 := [.inRegion (opsOf (pl Go.Proofs.Try.f30 [1, 1, 1, 1, 0, 1, 0, 0, 1, 1, 0, 0, 1, 1, 0])) []]) (by kernel_rfl) c18) (fun _ _ => trivial) hS ?_
                        rcases two (decide (0 ≤ (Int.tmod (I64 ((I64 (x23_0 + (I64 (Int.tdiv t4 8)))) + 1)) (a0.length : Int)))) with c20 | c20
                        · replace h := of_true h c20
                          rcases two (decide ((Int.tmod (I64 ((I64 (x23_0 + (I64 (Int.tdiv t4 8)))) + 1)) (a0.length : Int)) < (a0.length : Int))) with c21 | c21
                          · replace h := of_true h c21
                            obtain ⟨q19, hAq19, hcq19⟩ := Rd.num (hr0.mono hM.below) (i := Int.tmod (I64 ((I64 (x23_0 + (I64 (Int.tdiv t4 8)))) + 1)) (a0.length : Int)) (of_decide_eq_true c20) (by have h_ := of_decide_eq_true c21; omega)
                            refine RunAny.y 13 (by kernel_rfl) (idx_y (d := some 43) (A := Ap0) (m := a0.length) (i := Int.tmod (I64 ((I64 (x23_0 + (I64 (Int.tdiv t4 8)))) + 1)) (a0.length : Int)) (k2 := [.inRegion (opsOf (pl Go.Proofs.Try.f30 [1, 1, 1, 1, 0, 1, 0, 0, 1, 1, 0, 0, 1, 1, 0])) []]) (by kernel_rfl) (of_decide_eq_true c20) (by have h_ := of_decide_eq_true c21; omega) hAq19) (fun _ _ => trivial) hS ?_
                            refine RunAny.y 14 (by kernel_rfl) (ld_y (d := some 44) (p := (q19.add (Int.tmod (I64 ((I64 (x23_0 + (I64 (Int.tdiv t4 8)))) + 1)) (a0.length : Int) : Int).toNat)) (k2 := [.inRegion (opsOf (pl Go.Proofs.Try.f30 [1, 1, 1, 1, 0, 1, 0, 0, 1, 1, 0, 0, 1, 1, 0])) []]) (.int .u8 (rd a0 (Int.tmod (I64 ((I64 (x23_0 + (I64 (Int.tdiv t4 8)))) + 1)) (a0.length : Int)))) (by kernel_rfl)) (fun _ hs => hs.cell hcq19 (by simp)) hS ?_
                            refine RunAny.y 15 (by kernel_rfl) (yl_pure (d := some 8) (v := .int .u8 (rd a0 (Int.tmod (I64 (x23_0 + (I64 (Int.tdiv t4 8)))) (a0.length : Int)))) (k2 := [.inRegion (opsOf (pl Go.Proofs.Try.f30 [1, 1, 1, 1, 0, 1, 0, 0, 1, 1, 0, 0, 1, 1, 0])) []]) fun w => by kernel_rfl) (fun _ _ => trivial) hS ?_
                            refine RunAny.y 16 (by kernel_rfl) (yl_pure (d := some 9) (v := .int .u8 (rd a0 (Int.tmod (I64 ((I64 (x23_0 + (I64 (Int.tdiv t4 8)))) + 1)) (a0.length : Int)))) (k2 := [.inRegion (opsOf (pl Go.Proofs.Try.f30 [1, 1, 1, 1, 0, 1, 0, 0, 1, 1, 0, 0, 1, 1, 0])) []]) fun w => by kernel_rfl) (fun _ _ => trivial) hS ?_
                            refine RunAny.done (by kernel_rfl) ?_
                            clear hS
                            refine RunF.go 13 [0, 1, 5, 22, 23, 45, 46, 52, 56] (k' := (pin Go.Proofs.Try.f30 [1, 1, 1, 1, 0, 1, 0, 0, 1, 1, 0, 0, 1, 1, 1] 12)) (L' := [(0, .slice Ap0 a0.length cp0), (1, .int .i64 t4), (5, .slice (some ⟨g6, 0, none⟩) (((a0.length : Int)).toNat) (((a0.length : Int) : Int).toNat)), (22, .int .i64 (((a0.length : Int)).toNat : Int)), (23, .int .i64 x23_0), (45, .slice (some ⟨g6, 0, none⟩) (((a0.length : Int)).toNat) (((a0.length : Int) : Int).toNat)), (46, .int .i64 x23_0), (52, .int .u64 (bor .u64 (shl .u64 (U64 (rd a0 (Int.tmod (I64 (x23_0 + (I64 (Int.tdiv t4 8)))) (a0.length : Int)))) 8) (U64 (rd a0 (Int.tmod (I64 ((I64 (x23_0 + (I64 (Int.tdiv t4 8)))) + 1)) (a0.length : Int)))))), (56, .int .u64 (U64 (8 - (U64 (Int.tmod t4 8)))))]) (w' := W12) (by kernel_rfl) ?_
                            obtain ⟨y22, hy, h⟩ := Option.bind_eq_some_iff.mp h
                            rw [show (bor .u64 (shl .u64 (U64 (rd a0 (Int.tmod (I64 (x23_0 + (I64 (Int.tdiv t4 8)))) (a0.length : Int)))) 8) (U64 (rd a0 (Int.tmod (I64 ((I64 (x23_0 + (I64 (Int.tdiv t4 8)))) + 1)) (a0.length : Int))))) = y22 from Option.some.inj hy]
                            clear hy
                            rcases two (decide (0 ≤ (U64 (8 - (U64 (Int.tmod t4 8)))))) with c23 | c23
                            · replace h := of_true h c23
                              refine RunF.y (sh_y (d := some 57) (b := false) (kd := .u64) (x := y22) (y := U64 (8 - (U64 (Int.tmod t4 8)))) (k2 := (pin Go.Proofs.Try.f30 [1, 1, 1, 1, 0, 1, 0, 0, 1, 1, 0, 0, 1, 1, 1] 13)) (by kernel_rfl) c23) trivial ?_
                              refine RunF.go 1 [0, 1, 5, 22, 23, 45, 46, 58] (k' := (pin Go.Proofs.Try.f30 [1, 1, 1, 1, 0, 1, 0, 0, 1, 1, 0, 0, 1, 1, 1] 14)) (L' := [(0, .slice Ap0 a0.length cp0), (1, .int .i64 t4), (5, .slice (some ⟨g6, 0, none⟩) (((a0.length : Int)).toNat) (((a0.length : Int) : Int).toNat)), (22, .int .i64 (((a0.length : Int)).toNat : Int)), (23, .int .i64 x23_0), (45, .slice (some ⟨g6, 0, none⟩) (((a0.length : Int)).toNat) (((a0.length : Int) : Int).toNat)), (46, .int .i64 x23_0), (58, .int .u8 (U8 (shrv .u64 y22 (U64 (8 - (U64 (Int.tmod t4 8)))))))]) (w' := W12) (by kernel_rfl) ?_
                              obtain ⟨y24, hy, h⟩ := Option.bind_eq_some_iff.mp h
                              rw [show (U8 (shrv .u64 y22 (U64 (8 - (U64 (Int.tmod t4 8)))))) = y24 from Option.some.inj hy]
                              clear hy
                              rcases two (decide (0 ≤ x23_0)) with c26 | c26
                              · replace h := of_true h c26
                                rcases two (decide (x23_0 < (((a0.length : Int)).toNat : Int))) with c27 | c27
                                · replace h := of_true h c27
                                  obtain ⟨q25, hAq25, hcq25, hfq25, hlq25⟩ := hM.num_at 0 rfl (i := x23_0) (of_decide_eq_true c26) (by have h_ := of_decide_eq_true c27; omega)
                                  refine RunF.y (idx_own (d := some 59) (A := (some ⟨g6, 0, none⟩)) (m := ((a0.length : Int)).toNat) (i := x23_0) (k2 := (pin Go.Proofs.Try.f30 [1, 1, 1, 1, 0, 1, 0, 0, 1, 1, 0, 0, 1, 1, 1] 15)) (by kernel_rfl) (of_decide_eq_true c26) (by have h_ := of_decide_eq_true c27; omega) hAq25) trivial ?_
                                  obtain ⟨g_, hA_, hc_, hf_, hl_⟩ := hM.num_at 0 rfl (i := x23_0) (of_decide_eq_true c26) (by have h_ := of_decide_eq_true c27; omega)
                                  obtain rfl : q25 = g_ := by rw [hAq25] at hA_; injection hA_ with hA_; injection hA_
                                  refine RunF.doesU (st_u (p := (⟨q25, (x23_0 : Int).toNat, none⟩ : Addr)) (v := .int .u8 y24) (k2 := (pin Go.Proofs.Try.f30 [1, 1, 1, 1, 0, 1, 0, 0, 1, 1, 0, 0, 1, 1, 1] 16)) (by kernel_rfl) hc_ hf_) ?_
                                  replace hM : Mem w (W12.setCell (⟨q25, (x23_0 : Int).toNat, none⟩ : Addr) (.int .u8 y24)) [⟨.slice (some ⟨g6, 0, none⟩) (((a0.length : Int)).toNat) (((a0.length : Int) : Int).toNat), 5, 1, nums .u8 (x5_0.set (x23_0 : Int).toNat y24)⟩] := Mem.put_num [] [] (hM.pick [0] rfl rfl) hAq25 _ hl_ _
                                  generalize W12.setCell (⟨q25, (x23_0 : Int).toNat, none⟩ : Addr) (.int .u8 y24) = W28 at hM ⊢
                                  clear hc_ hf_ hl_ hA_ hcq25
                                  refine RunF.go 7 [0, 1, 5, 22, 23] (k' := (pl Go.Proofs.Try.f30 [1, 1, 1, 1, 0, 1, 0, 0])) (L' := [(0, .slice Ap0 a0.length cp0), (1, .int .i64 t4), (5, .slice (some ⟨g6, 0, none⟩) (((a0.length : Int)).toNat) (((a0.length : Int) : Int).toNat)), (22, .int .i64 (((a0.length : Int)).toNat : Int)), (23, .int .i64 (I64 (x23_0 + 1)))]) (w' := W28) (by kernel_rfl) ?_
                                  exact ih0 k (by omega) (x5_0.set (x23_0 : Int).toNat y24) (I64 (x23_0 + 1)) _ (hM.pick [0] rfl rfl) h
                                · replace h := of_false h c27
                                  cases h
                              · replace h := of_false h c26
                                cases h
                            · replace h := of_false h c23
                              cases h
                          · replace h := of_false h c21
                            cases h
                        · replace h := of_false h c20
                          cases h
                    · replace h := of_false h c17
                      cases h
                  · replace h := of_false h c16
                    cases h
              · replace h := of_false h c11
                refine RunF.know 24 (b := false) (by kernel_rfl) c11 ?_
                refine RunF.go 7 [4] (k' := (pl Go.Proofs.Try.f30 [1, 1, 1, 1, 1, 1])) (L' := [(4, .slice (some ⟨g6, 0, none⟩) (((a0.length : Int)).toNat) (((a0.length : Int) : Int).toNat))]) (w' := W) (by kernel_rfl) ?_
                obtain rfl := Option.some.inj h
                exact RunF.ret1 4 (.slice (some ⟨g6, 0, none⟩) (((a0.length : Int)).toNat) (((a0.length : Int) : Int).toNat)) (fn := Go.Proofs.Try.f30) Go.Proofs.Try.func30 (by kernel_rfl) (by kernel_rfl) (by kernel_rfl) ⟨_, rfl, (some ⟨g6, 0, none⟩), ((a0.length : Int)).toNat, ((a0.length : Int) : Int).toNat, rfl, (hM.pick [0] rfl rfl)⟩
        exact l0 k (Nat.le_refl _) (List.replicate (((a0.length : Int)).toNat) (0 : Int)) 0 _ (hM.pick [0] rfl rfl) h
      · replace h := of_false h c8
        cases h
    · replace h := of_false h c7
      cases h

/-! ### scrim/scrimlaw1.WordsAround: function 8 -/
def scrimlaw1_WordsAround.f (k : Nat) (a0 : Int) (a1 : Int) (a2 : List Int) (a3 : Int) (a4 : Int) : Option (Bool) := (scrimlaw1_known.f k).bind fun t2 => (if (!t2) = true then (some false) else (if (decide ((a2.length : Int) > 60)) = true then (some true) else ((scrimlaw1_within.f k a3 2000).bind fun t6 => ((scrimlaw1_within.f k a4 2000).bind fun t8 => ((words_Rol32.f k a0 (I64 (t6 - 1000))).bind fun t13 => ((words_Rol32.f k t13 (I64 (t8 - 1000))).bind fun t15 => ((words_Rol32.f k a0 (I64 ((I64 (t6 - 1000)) + (I64 (t8 - 1000))))).bind fun t17 => (if (t15 == t17) = true then ((words_Rol8.f k a1 (I64 (t6 - 1000))).bind fun t20 => ((words_Rol8.f k t20 (I64 (t8 - 1000))).bind fun t22 => ((words_Rol8.f k a1 (I64 ((I64 (t6 - 1000)) + (I64 (t8 - 1000))))).bind fun t24 => (if (t22 == t24) = true then ((words_Turn.f k a2 (I64 (t6 - 1000))).bind fun t27 => ((words_Turn.f k t27 (I64 (t8 - 1000))).bind fun t33 => ((words_Turn.f k a2 (I64 ((I64 (t6 - 1000)) + (I64 (t8 - 1000))))).bind fun t39 => (if ((strOf t33).toList == (strOf t39).toList) = true then ((words_Rol32.f k a0 32).bind fun t46 => (if (t46 == a0) = true then ((words_Rol8.f k a1 (-8)).bind fun t49 => (if (t49 == a1) = true then ((words_Turn.f k a2 (I64 (8 * (a2.length : Int)))).bind fun t52 => (if ((strOf t52).toList == (strOf a2).toList) = true then ((words_Turn.f k a2 (I64 (t6 - 1000))).bind fun t59 => ((words_Turn.f k t59 (I64 (0 - (I64 (t6 - 1000))))).bind fun t65 => (some ((strOf t65).toList == (strOf a2).toList)))) else (some false))) else (some false))) else (some false))) else (some false))))) else (some false))))) else (some false)))))))))
set_option maxRecDepth 100000 in
set_option maxHeartbeats 8000000 in
theorem scrimlaw1_WordsAround.calls (k : Nat) (a0 : Int) (a1 : Int) (Ap2 : Option Addr) (np2 cp2 : Nat) (a2 : List Int) (a3 : Int) (a4 : Int) (r : Bool) (w : World) (hr2 : Rd w (.slice Ap2 np2 cp2) (nums .u8 a2)) (h : scrimlaw1_WordsAround.f k a0 a1 a2 a3 a4 = some r) :
    Calls Go.Proofs.Try.prog 8 #[.int .u32 a0, .int .u8 a1, (.slice Ap2 np2 cp2), .int .i64 a3, .int .i64 a4] w (Ret fun v w' => v = .bool r ∧ Mem w w' []) := by
  obtain rfl : a2.length = np2 := by have h_ := hr2.1; simpa [nums_length, bools_length, strs_length] using h_
  unfold scrimlaw1_WordsAround.f at h
  refine calls_of [.int .u32 a0, .int .u8 a1, .slice Ap2 a2.length cp2, .int .i64 a3, .int .i64 a4] (fn := Go.Proofs.Try.f8) Go.Proofs.Try.func8 (by kernel_rfl) (by kernel_rfl) ?_
  have hM := Mem.refl w
  refine RunF.go 7 [0, 1, 2, 3, 4] (k' := (pin Go.Proofs.Try.f8 [1, 0, 0] 0)) (L' := [(0, .int .u32 a0), (1, .int .u8 a1), (2, .slice Ap2 a2.length cp2), (3, .int .i64 a3), (4, .int .i64 a4)]) (w' := w) (by kernel_rfl) ?_
  obtain ⟨t2, ht2, h⟩ := Option.bind_eq_some_iff.mp h
  refine RunF.call (d := some 14) (g := 14) (args := #[]) (k2 := (pin Go.Proofs.Try.f8 [1, 0, 0] 1)) (by kernel_rfl) (scrimlaw1_known.calls k t2 _ ht2) ?_
  rintro _ W1 ⟨rfl, hM_⟩
  replace hM := hM.call hM_
  clear hM_ ht2
  refine RunF.go 2 [0, 1, 2, 3, 4, 15] (k' := (pl Go.Proofs.Try.f8 [1, 0, 1])) (L' := [(0, .int .u32 a0), (1, .int .u8 a1), (2, .slice Ap2 a2.length cp2), (3, .int .i64 a3), (4, .int .i64 a4), (15, .bool (!t2))]) (w' := W1) (by kernel_rfl) ?_
  rcases two (!t2) with c3 | c3
  · replace h := of_true h c3
    refine RunF.know 15 (b := true) (by kernel_rfl) c3 ?_
    refine RunF.go 5 [10] (k' := (pl Go.Proofs.Try.f8 [1, 0, 1, 0, 1])) (L' := [(10, .bool false)]) (w' := W1) (by kernel_rfl) ?_
    obtain rfl := Option.some.inj h
    exact RunF.ret1 10 (.bool false) (fn := Go.Proofs.Try.f8) Go.Proofs.Try.func8 (by kernel_rfl) (by kernel_rfl) (by kernel_rfl) ⟨_, rfl, rfl, (hM.pick [] rfl rfl)⟩
  · replace h := of_false h c3
    refine RunF.know 15 (b := false) (by kernel_rfl) c3 ?_
    refine RunF.go 9 [0, 1, 2, 3, 4, 18] (k' := (pl Go.Proofs.Try.f8 [1, 1, 0, 1])) (L' := [(0, .int .u32 a0), (1, .int .u8 a1), (2, .slice Ap2 a2.length cp2), (3, .int .i64 a3), (4, .int .i64 a4), (18, .bool (decide ((a2.length : Int) > 60)))]) (w' := W1) (by kernel_rfl) ?_
    rcases two (decide ((a2.length : Int) > 60)) with c4 | c4
    · replace h := of_true h c4
      refine RunF.know 18 (b := true) (by kernel_rfl) c4 ?_
      refine RunF.go 5 [10] (k' := (pl Go.Proofs.Try.f8 [1, 1, 0, 1, 0, 1])) (L' := [(10, .bool true)]) (w' := W1) (by kernel_rfl) ?_
      obtain rfl := Option.some.inj h
      exact RunF.ret1 10 (.bool true) (fn := Go.Proofs.Try.f8) Go.Proofs.Try.func8 (by kernel_rfl) (by kernel_rfl) (by kernel_rfl) ⟨_, rfl, rfl, (hM.pick [] rfl rfl)⟩
    · replace h := of_false h c4
      refine RunF.know 18 (b := false) (by kernel_rfl) c4 ?_
      refine RunF.go 5 [0, 1, 2, 4, 19] (k' := (pin Go.Proofs.Try.f8 [1, 1, 1, 0] 1)) (L' := [(0, .int .u32 a0), (1, .int .u8 a1), (2, .slice Ap2 a2.length cp2), (4, .int .i64 a4), (19, .int .i64 a3)]) (w' := W1) (by kernel_rfl) ?_
      obtain ⟨t6, ht6, h⟩ := Option.bind_eq_some_iff.mp h
      refine RunF.call (d := some 20) (g := 15) (args := #[.int .i64 a3, .int .i64 2000]) (k2 := (pin Go.Proofs.Try.f8 [1, 1, 1, 0] 2)) (by kernel_rfl) (scrimlaw1_within.calls k a3 2000 t6 _ ht6) ?_
      rintro _ W5 ⟨rfl, hM_⟩
      replace hM := hM.call hM_
      clear hM_ ht6
      refine RunF.go 2 [0, 1, 2, 21, 22] (k' := (pin Go.Proofs.Try.f8 [1, 1, 1, 0] 4)) (L' := [(0, .int .u32 a0), (1, .int .u8 a1), (2, .slice Ap2 a2.length cp2), (21, .int .i64 (I64 (t6 - 1000))), (22, .int .i64 a4)]) (w' := W5) (by kernel_rfl) ?_
      obtain ⟨t8, ht8, h⟩ := Option.bind_eq_some_iff.mp h
      refine RunF.call (d := some 23) (g := 15) (args := #[.int .i64 a4, .int .i64 2000]) (k2 := (pin Go.Proofs.Try.f8 [1, 1, 1, 0] 5)) (by kernel_rfl) (scrimlaw1_within.calls k a4 2000 t8 _ ht8) ?_
      rintro _ W7 ⟨rfl, hM_⟩
      replace hM := hM.call hM_
      clear hM_ ht8
      refine RunF.go 12 [0, 1, 2, 11, 12, 13] (k' := (pl Go.Proofs.Try.f8 [1, 1, 1, 1, 1, 0])) (L' := [(0, .int .u32 a0), (1, .int .u8 a1), (2, .slice Ap2 a2.length cp2), (11, .int .i64 (I64 (t6 - 1000))), (12, .int .i64 (I64 (t8 - 1000))), (13, .int .i64 (I64 (8 * (a2.length : Int))))]) (w' := W7) (by kernel_rfl) ?_
      refine RunF.draw (Still ({ W7 with drawn := W7.drawn + 1 } : World) []) (by kernel_rfl) (by kernel_rfl) ?_
      have hMd10 := hM.drew
      have hS := Still.refl ({ W7 with drawn := W7.drawn + 1 } : World) []
      generalize ({ W7 with drawn := W7.drawn + 1 } : World) = W9 at hMd10 hS ⊢
      replace hM := hMd10
      have hC11 : certB (opsOf (pl Go.Proofs.Try.f8 [1, 1, 1, 1, 1, 0])) [0, 0, 3, 0, 12, 0, 0, 0, 192, 304, 528, 1536, 2048, 2048, 14336, 2048, 51200, 2048, 2048, 2048, 788480, 1247232, 2164736, 4196352, 10485760, 16777216, 16777216, 117440512, 16777216, 419430400, 553648128, 16777216, 16777216, 16777216, 12901679104, 19881000960, 34376515584, 69809995776, 137455730688, 309237645312, 549755813888, 1649267441664, 549755813888, 7146825580544, 9345848836096, 19791209299968, 35184372088832, 105553116266496, 35184372088832, 457396837154816, 598134325510144, 1266637395197952, 2251799813685248, 2251799813685248, 15762598695796736, 20266198323167232, 2251799813685248, 74309393851613184, 182395784908505088, 290482175965396992, 594475150812905472, 1152921504606846976, 1152921504606846976, 8070450532247928832, 1152921504606846976, 19599665578316398592, 47269781688880726016, 74939897799445053440, 1152921504606846976, 296300826683959672832, 739022684452988911616, 1181744542222018150400, 4722366482869645213695] 9444732965739290427391 = true := by kernel_rfl
      refine RunAny.y 0 (side_of_cert hC11 (by kernel_rfl)) (yl_pure (d := some 28) (v := .int .u32 a0) (k2 := [.inRegion (opsOf (pl Go.Proofs.Try.f8 [1, 1, 1, 1, 1, 0])) []]) fun w => by kernel_rfl) (fun _ _ => trivial) hS ?_
      refine RunAny.y 1 (side_of_cert hC11 (by kernel_rfl)) (yl_pure (d := some 29) (v := .int .i64 (I64 (t6 - 1000))) (k2 := [.inRegion (opsOf (pl Go.Proofs.Try.f8 [1, 1, 1, 1, 1, 0])) []]) fun w => by kernel_rfl) (fun _ _ => trivial) hS ?_
      refine RunAny.y 3 (side_of_cert hC11 (by kernel_rfl)) (yl_pure (d := some 31) (v := .int .i64 (I64 (t8 - 1000))) (k2 := [.inRegion (opsOf (pl Go.Proofs.Try.f8 [1, 1, 1, 1, 1, 0])) []]) fun w => by kernel_rfl) (fun _ _ => trivial) hS ?_
      refine RunAny.y 5 (side_of_cert hC11 (by kernel_rfl)) (yl_pure (d := some 33) (v := .int .u32 a0) (k2 := [.inRegion (opsOf (pl Go.Proofs.Try.f8 [1, 1, 1, 1, 1, 0])) []]) fun w => by kernel_rfl) (fun _ _ => trivial) hS ?_
      refine RunAny.y 6 (side_of_cert hC11 (by kernel_rfl)) (yl_pure (d := some 34) (v := .int .i64 (I64 (t6 - 1000))) (k2 := [.inRegion (opsOf (pl Go.Proofs.Try.f8 [1, 1, 1, 1, 1, 0])) []]) fun w => by kernel_rfl) (fun _ _ => trivial) hS ?_
      refine RunAny.y 7 (side_of_cert hC11 (by kernel_rfl)) (yl_pure (d := some 35) (v := .int .i64 (I64 (t8 - 1000))) (k2 := [.inRegion (opsOf (pl Go.Proofs.Try.f8 [1, 1, 1, 1, 1, 0])) []]) fun w => by kernel_rfl) (fun _ _ => trivial) hS ?_
      refine RunAny.y 8 (side_of_cert hC11 (by kernel_rfl)) (yl_pure (d := some 36) (v := .int .i64 (I64 ((I64 (t6 - 1000)) + (I64 (t8 - 1000))))) (k2 := [.inRegion (opsOf (pl Go.Proofs.Try.f8 [1, 1, 1, 1, 1, 0])) []]) fun w => by kernel_rfl) (fun _ _ => trivial) hS ?_
      obtain ⟨t13, ht13, h⟩ := Option.bind_eq_some_iff.mp h
      refine RunAny.call 2 (d := some 30) (g := 26) (args := #[.int .u32 a0, .int .i64 (I64 (t6 - 1000))]) (ready_of_cert hC11 (by kernel_rfl)) (by kernel_rfl) (words_Rol32.calls k a0 (I64 (t6 - 1000)) t13 _ ht13) (by rintro _ _ ⟨rfl, hM_⟩; exact hS.below hM_.below) ?_
      rintro _ W12 ⟨rfl, hM_⟩
      replace hS := hS.below hM_.below
      replace hM := hM.call hM_
      clear hM_ ht13
      refine RunAny.rebase hS ?_
      replace hS := Still.refl W12 []
      obtain ⟨t15, ht15, h⟩ := Option.bind_eq_some_iff.mp h
      refine RunAny.call 4 (d := some 32) (g := 26) (args := #[.int .u32 t13, .int .i64 (I64 (t8 - 1000))]) (ready_of_cert hC11 (by kernel_rfl)) (by kernel_rfl) (words_Rol32.calls k t13 (I64 (t8 - 1000)) t15 _ ht15) (by rintro _ _ ⟨rfl, hM_⟩; exact hS.below hM_.below) ?_
      rintro _ W14 ⟨rfl, hM_⟩
      replace hS := hS.below hM_.below
      replace hM := hM.call hM_
      clear hM_ ht15
      refine RunAny.rebase hS ?_
      replace hS := Still.refl W14 []
      obtain ⟨t17, ht17, h⟩ := Option.bind_eq_some_iff.mp h
      refine RunAny.call 9 (d := some 37) (g := 26) (args := #[.int .u32 a0, .int .i64 (I64 ((I64 (t6 - 1000)) + (I64 (t8 - 1000))))]) (ready_of_cert hC11 (by kernel_rfl)) (by kernel_rfl) (words_Rol32.calls k a0 (I64 ((I64 (t6 - 1000)) + (I64 (t8 - 1000)))) t17 _ ht17) (by rintro _ _ ⟨rfl, hM_⟩; exact hS.below hM_.below) ?_
      rintro _ W16 ⟨rfl, hM_⟩
      replace hS := hS.below hM_.below
      replace hM := hM.call hM_
      clear hM_ ht17
      refine RunAny.rebase hS ?_
      replace hS := Still.refl W16 []
      refine RunAny.y 10 (side_of_cert hC11 (by kernel_rfl)) (yl_pure (d := some 38) (v := .bool (t15 == t17)) (k2 := [.inRegion (opsOf (pl Go.Proofs.Try.f8 [1, 1, 1, 1, 1, 0])) []]) fun w => by kernel_rfl) (fun _ _ => trivial) hS ?_
      refine RunAny.y 11 (side_of_cert hC11 (by kernel_rfl)) (yl_pure (d := some 39) (v := .bool (t15 == t17)) (k2 := [.inRegion (opsOf (pl Go.Proofs.Try.f8 [1, 1, 1, 1, 1, 0])) []]) fun w => by kernel_rfl) (fun _ _ => trivial) hS ?_
      rcases two ((t15 == t17)) with c18 | c18
      · replace h := of_true h c18
        refine RunAny.know 39 (b := true) (by kernel_rfl) c18 ?_
        refine RunAny.y 12 (side_of_cert hC11 (by kernel_rfl)) (yl_pure (d := some 40) (v := .int .u8 a1) (k2 := [.inRegion (opsOf (pl Go.Proofs.Try.f8 [1, 1, 1, 1, 1, 0])) []]) fun w => by kernel_rfl) (fun _ _ => trivial) hS ?_
        refine RunAny.y 13 (side_of_cert hC11 (by kernel_rfl)) (yl_pure (d := some 41) (v := .int .i64 (I64 (t6 - 1000))) (k2 := [.inRegion (opsOf (pl Go.Proofs.Try.f8 [1, 1, 1, 1, 1, 0])) []]) fun w => by kernel_rfl) (fun _ _ => trivial) hS ?_
        refine RunAny.y 15 (side_of_cert hC11 (by kernel_rfl)) (yl_pure (d := some 43) (v := .int .i64 (I64 (t8 - 1000))) (k2 := [.inRegion (opsOf (pl Go.Proofs.Try.f8 [1, 1, 1, 1, 1, 0])) []]) fun w => by kernel_rfl) (fun _ _ => trivial) hS ?_
        refine RunAny.y 17 (side_of_cert hC11 (by kernel_rfl)) (yl_pure (d := some 45) (v := .int .u8 a1) (k2 := [.inRegion (opsOf (pl Go.Proofs.Try.f8 [1, 1, 1, 1, 1, 0])) []]) fun w => by kernel_rfl) (fun _ _ => trivial) hS ?_
        refine RunAny.y 18 (side_of_cert hC11 (by kernel_rfl)) (yl_pure (d := some 46) (v := .int .i64 (I64 (t6 - 1000))) (k2 := [.inRegion (opsOf (pl Go.Proofs.Try.f8 [1, 1, 1, 1, 1, 0])) []]) fun w => by kernel_rfl) (fun _ _ => trivial) hS ?_
        refine RunAny.y 19 (side_of_cert hC11 (by kernel_rfl)) (yl_pure (d := some 47) (v := .int .i64 (I64 (t8 - 1000))) (k2 := [.inRegion (opsOf (pl Go.Proofs.Try.f8 [1, 1, 1, 1, 1, 0])) []]) fun w => by kernel_rfl) (fun _ _ => trivial) hS ?_
        refine RunAny.y 20 (side_of_cert hC11 (by kernel_rfl)) (yl_pure (d := some 48) (v := .int .i64 (I64 ((I64 (t6 - 1000)) + (I64 (t8 - 1000))))) (k2 := [.inRegion (opsOf (pl Go.Proofs.Try.f8 [1, 1, 1, 1, 1, 0])) []]) fun w => by kernel_rfl) (fun _ _ => trivial) hS ?_
        obtain ⟨t20, ht20, h⟩ := Option.bind_eq_some_iff.mp h
        refine RunAny.call 14 (d := some 42) (g := 28) (args := #[.int .u8 a1, .int .i64 (I64 (t6 - 1000))]) (ready_of_cert hC11 (by kernel_rfl)) (by kernel_rfl) (words_Rol8.calls k a1 (I64 (t6 - 1000)) t20 _ ht20) (by rintro _ _ ⟨rfl, hM_⟩; exact hS.below hM_.below) ?_
        rintro _ W19 ⟨rfl, hM_⟩
        replace hS := hS.below hM_.below
        replace hM := hM.call hM_
        clear hM_ ht20
        refine RunAny.rebase hS ?_
        replace hS := Still.refl W19 []
        obtain ⟨t22, ht22, h⟩ := Option.bind_eq_some_iff.mp h
        refine RunAny.call 16 (d := some 44) (g := 28) (args := #[.int .u8 t20, .int .i64 (I64 (t8 - 1000))]) (ready_of_cert hC11 (by kernel_rfl)) (by kernel_rfl) (words_Rol8.calls k t20 (I64 (t8 - 1000)) t22 _ ht22) (by rintro _ _ ⟨rfl, hM_⟩; exact hS.below hM_.below) ?_
        rintro _ W21 ⟨rfl, hM_⟩
        replace hS := hS.below hM_.below
        replace hM := hM.call hM_
        clear hM_ ht22
        refine RunAny.rebase hS ?_
        replace hS := Still.refl W21 []
        obtain ⟨t24, ht24, h⟩ := Option.bind_eq_some_iff.mp h
        refine RunAny.call 21 (d := some 49) (g := 28) (args := #[.int .u8 a1, .int .i64 (I64 ((I64 (t6 - 1000)) + (I64 (t8 - 1000))))]) (ready_of_cert hC11 (by kernel_rfl)) (by kernel_rfl) (words_Rol8.calls k a1 (I64 ((I64 (t6 - 1000)) + (I64 (t8 - 1000)))) t24 _ ht24) (by rintro _ _ ⟨rfl, hM_⟩; exact hS.below hM_.below) ?_
        rintro _ W23 ⟨rfl, hM_⟩
        replace hS := hS.below hM_.below
        replace hM := hM.call hM_
        clear hM_ ht24
        refine RunAny.rebase hS ?_
        replace hS := Still.refl W23 []
        refine RunAny.y 22 (side_of_cert hC11 (by kernel_rfl)) (yl_pure (d := some 50) (v := .bool (t22 == t24)) (k2 := [.inRegion (opsOf (pl Go.Proofs.Try.f8 [1, 1, 1, 1, 1, 0])) []]) fun w => by kernel_rfl) (fun _ _ => trivial) hS ?_
        refine RunAny.y 23 (side_of_cert hC11 (by kernel_rfl)) (yl_pure (d := some 51) (v := .bool (t22 == t24)) (k2 := [.inRegion (opsOf (pl Go.Proofs.Try.f8 [1, 1, 1, 1, 1, 0])) []]) fun w => by kernel_rfl) (fun _ _ => trivial) hS ?_
        refine RunAny.y 24 (side_of_cert hC11 (by kernel_rfl)) (yl_pure (d := some 52) (v := .bool (t22 == t24)) (k2 := [.inRegion (opsOf (pl Go.Proofs.Try.f8 [1, 1, 1, 1, 1, 0])) []]) fun w => by kernel_rfl) (fun _ _ => trivial) hS ?_
        rcases two ((t22 == t24)) with c25 | c25
        · replace h := of_true h c25
          refine RunAny.know 52 (b := true) (by kernel_rfl) c25 ?_
          refine RunAny.y 25 (side_of_cert hC11 (by kernel_rfl)) (yl_pure (d := some 53) (v := .slice Ap2 a2.length cp2) (k2 := [.inRegion (opsOf (pl Go.Proofs.Try.f8 [1, 1, 1, 1, 1, 0])) []]) fun w => by kernel_rfl) (fun _ _ => trivial) hS ?_
          refine RunAny.y 26 (side_of_cert hC11 (by kernel_rfl)) (yl_pure (d := some 54) (v := .int .i64 (I64 (t6 - 1000))) (k2 := [.inRegion (opsOf (pl Go.Proofs.Try.f8 [1, 1, 1, 1, 1, 0])) []]) fun w => by kernel_rfl) (fun _ _ => trivial) hS ?_
          refine RunAny.y 28 (side_of_cert hC11 (by kernel_rfl)) (yl_pure (d := some 56) (v := .int .i64 (I64 (t8 - 1000))) (k2 := [.inRegion (opsOf (pl Go.Proofs.Try.f8 [1, 1, 1, 1, 1, 0])) []]) fun w => by kernel_rfl) (fun _ _ => trivial) hS ?_
          refine RunAny.y 31 (side_of_cert hC11 (by kernel_rfl)) (yl_pure (d := some 59) (v := .slice Ap2 a2.length cp2) (k2 := [.inRegion (opsOf (pl Go.Proofs.Try.f8 [1, 1, 1, 1, 1, 0])) []]) fun w => by kernel_rfl) (fun _ _ => trivial) hS ?_
          refine RunAny.y 32 (side_of_cert hC11 (by kernel_rfl)) (yl_pure (d := some 60) (v := .int .i64 (I64 (t6 - 1000))) (k2 := [.inRegion (opsOf (pl Go.Proofs.Try.f8 [1, 1, 1, 1, 1, 0])) []]) fun w => by kernel_rfl) (fun _ _ => trivial) hS ?_
          refine RunAny.y 33 (side_of_cert hC11 (by kernel_rfl)) (yl_pure (d := some 61) (v := .int .i64 (I64 (t8 - 1000))) (k2 := [.inRegion (opsOf (pl Go.Proofs.Try.f8 [1, 1, 1, 1, 1, 0])) []]) fun w => by kernel_rfl) (fun _ _ => trivial) hS ?_
          refine RunAny.y 34 (side_of_cert hC11 (by kernel_rfl)) (yl_pure (d := some 62) (v := .int .i64 (I64 ((I64 (t6 - 1000)) + (I64 (t8 - 1000))))) (k2 := [.inRegion (opsOf (pl Go.Proofs.Try.f8 [1, 1, 1, 1, 1, 0])) []]) fun w => by kernel_rfl) (fun _ _ => trivial) hS ?_
          obtain ⟨t27, ht27, h⟩ := Option.bind_eq_some_iff.mp h
          refine RunAny.call 27 (d := some 55) (g := 30) (args := #[.slice Ap2 a2.length cp2, .int .i64 (I64 (t6 - 1000))]) (ready_of_cert hC11 (by kernel_rfl)) (by kernel_rfl) (words_Turn.calls k Ap2 a2.length cp2 a2 (I64 (t6 - 1000)) t27 _ (hr2.mono hM.below) ht27) (by rintro _ _ ⟨_, _, _, rfl, hM_⟩; exact hS.below hM_.below) ?_
          rintro _ W26 ⟨A28, n29, c30, rfl, hM_⟩
          obtain rfl : t27.length = n29 := by have h_ := (hM_.rd 0 rfl).1; simpa [nums_length, bools_length, strs_length] using h_
          replace hS := hS.below hM_.below
          replace hM := hM.call hM_
          clear hM_ ht27
          refine RunAny.rebase hS ?_
          replace hS := Still.refl W26 []
          obtain ⟨t33, ht33, h⟩ := Option.bind_eq_some_iff.mp h
          refine RunAny.call 29 (d := some 57) (g := 30) (args := #[.slice A28 t27.length c30, .int .i64 (I64 (t8 - 1000))]) (ready_of_cert hC11 (by kernel_rfl)) (by kernel_rfl) (words_Turn.calls k A28 t27.length c30 t27 (I64 (t8 - 1000)) t33 _ (hM.rd 0 rfl) ht33) (by rintro _ _ ⟨_, _, _, rfl, hM_⟩; exact hS.below hM_.below) ?_
          rintro _ W32 ⟨A34, n35, c36, rfl, hM_⟩
          obtain rfl : t33.length = n35 := by have h_ := (hM_.rd 0 rfl).1; simpa [nums_length, bools_length, strs_length] using h_
          replace hS := hS.below hM_.below
          replace hM := hM.call hM_
          clear hM_ ht33
          refine RunAny.rebase hS ?_
          replace hS := Still.refl W32 []
          refine RunAny.y 30 (side_of_cert hC11 (by kernel_rfl)) (str_y (d := some 58) (A := A34) (m := t33.length) (c := c36) (k2 := [.inRegion (opsOf (pl Go.Proofs.Try.f8 [1, 1, 1, 1, 1, 0])) []]) t33 (by kernel_rfl)) (fun _ hs => ((hM.rd 0 rfl).still hs (by simp))) hS ?_
          obtain ⟨t39, ht39, h⟩ := Option.bind_eq_some_iff.mp h
          refine RunAny.call 35 (d := some 63) (g := 30) (args := #[.slice Ap2 a2.length cp2, .int .i64 (I64 ((I64 (t6 - 1000)) + (I64 (t8 - 1000))))]) (ready_of_cert hC11 (by kernel_rfl)) (by kernel_rfl) (words_Turn.calls k Ap2 a2.length cp2 a2 (I64 ((I64 (t6 - 1000)) + (I64 (t8 - 1000)))) t39 _ (hr2.mono hM.below) ht39) (by rintro _ _ ⟨_, _, _, rfl, hM_⟩; exact hS.below hM_.below) ?_
          rintro _ W38 ⟨A40, n41, c42, rfl, hM_⟩
          obtain rfl : t39.length = n41 := by have h_ := (hM_.rd 0 rfl).1; simpa [nums_length, bools_length, strs_length] using h_
          replace hS := hS.below hM_.below
          replace hM := hM.call hM_
          clear hM_ ht39
          refine RunAny.rebase hS ?_
          replace hS := Still.refl W38 []
          refine RunAny.y 36 (side_of_cert hC11 (by kernel_rfl)) (str_y (d := some 64) (A := A40) (m := t39.length) (c := c42) (k2 := [.inRegion (opsOf (pl Go.Proofs.Try.f8 [1, 1, 1, 1, 1, 0])) []]) t39 (by kernel_rfl)) (fun _ hs => ((hM.rd 0 rfl).still hs (by simp))) hS ?_
          refine RunAny.y 37 (side_of_cert hC11 (by kernel_rfl)) (yl_pure (d := some 65) (v := .bool ((strOf t33).toList == (strOf t39).toList)) (k2 := [.inRegion (opsOf (pl Go.Proofs.Try.f8 [1, 1, 1, 1, 1, 0])) []]) fun w => by kernel_rfl) (fun _ _ => trivial) hS ?_
          refine RunAny.y 38 (side_of_cert hC11 (by kernel_rfl)) (yl_pure (d := some 66) (v := .bool ((strOf t33).toList == (strOf t39).toList)) (k2 := [.inRegion (opsOf (pl Go.Proofs.Try.f8 [1, 1, 1, 1, 1, 0])) []]) fun w => by kernel_rfl) (fun _ _ => trivial) hS ?_
          refine RunAny.y 39 (side_of_cert hC11 (by kernel_rfl)) (yl_pure (d := some 67) (v := .bool ((strOf t33).toList == (strOf t39).toList)) (k2 := [.inRegion (opsOf (pl Go.Proofs.Try.f8 [1, 1, 1, 1, 1, 0])) []]) fun w => by kernel_rfl) (fun _ _ => trivial) hS ?_
          rcases two (((strOf t33).toList == (strOf t39).toList)) with c44 | c44
          · replace h := of_true h c44
            refine RunAny.know 67 (b := true) (by kernel_rfl) c44 ?_
            refine RunAny.y 40 (side_of_cert hC11 (by kernel_rfl)) (yl_pure (d := some 68) (v := .int .u32 a0) (k2 := [.inRegion (opsOf (pl Go.Proofs.Try.f8 [1, 1, 1, 1, 1, 0])) []]) fun w => by kernel_rfl) (fun _ _ => trivial) hS ?_
            refine RunAny.y 42 (side_of_cert hC11 (by kernel_rfl)) (yl_pure (d := some 70) (v := .int .u32 a0) (k2 := [.inRegion (opsOf (pl Go.Proofs.Try.f8 [1, 1, 1, 1, 1, 0])) []]) fun w => by kernel_rfl) (fun _ _ => trivial) hS ?_
            obtain ⟨t46, ht46, h⟩ := Option.bind_eq_some_iff.mp h
            refine RunAny.call 41 (d := some 69) (g := 26) (args := #[.int .u32 a0, .int .i64 32]) (ready_of_cert hC11 (by kernel_rfl)) (by kernel_rfl) (words_Rol32.calls k a0 32 t46 _ ht46) (by rintro _ _ ⟨rfl, hM_⟩; exact hS.below hM_.below) ?_
            rintro _ W45 ⟨rfl, hM_⟩
            replace hS := hS.below hM_.below
            replace hM := hM.call hM_
            clear hM_ ht46
            refine RunAny.rebase hS ?_
            replace hS := Still.refl W45 []
            refine RunAny.y 43 (side_of_cert hC11 (by kernel_rfl)) (yl_pure (d := some 71) (v := .bool (t46 == a0)) (k2 := [.inRegion (opsOf (pl Go.Proofs.Try.f8 [1, 1, 1, 1, 1, 0])) []]) fun w => by kernel_rfl) (fun _ _ => trivial) hS ?_
            refine RunAny.y 44 (side_of_cert hC11 (by kernel_rfl)) (yl_pure (d := some 72) (v := .bool (t46 == a0)) (k2 := [.inRegion (opsOf (pl Go.Proofs.Try.f8 [1, 1, 1, 1, 1, 0])) []]) fun w => by kernel_rfl) (fun _ _ => trivial) hS ?_
            refine RunAny.y 45 (side_of_cert hC11 (by kernel_rfl)) (yl_pure (d := some 73) (v := .bool (t46 == a0)) (k2 := [.inRegion (opsOf (pl Go.Proofs.Try.f8 [1, 1, 1, 1, 1, 0])) []]) fun w => by kernel_rfl) (fun _ _ => trivial) hS ?_
            rcases two ((t46 == a0)) with c47 | c47
            · replace h := of_true h c47
              refine RunAny.know 73 (b := true) (by kernel_rfl) c47 ?_
              refine RunAny.y 46 (side_of_cert hC11 (by kernel_rfl)) (yl_pure (d := some 74) (v := .int .u8 a1) (k2 := [.inRegion (opsOf (pl Go.Proofs.Try.f8 [1, 1, 1, 1, 1, 0])) []]) fun w => by kernel_rfl) (fun _ _ => trivial) hS ?_
              refine RunAny.y 48 (side_of_cert hC11 (by kernel_rfl)) (yl_pure (d := some 76) (v := .int .u8 a1) (k2 := [.inRegion (opsOf (pl Go.Proofs.Try.f8 [1, 1, 1, 1, 1, 0])) []]) fun w => by kernel_rfl) (fun _ _ => trivial) hS ?_
              obtain ⟨t49, ht49, h⟩ := Option.bind_eq_some_iff.mp h
              refine RunAny.call 47 (d := some 75) (g := 28) (args := #[.int .u8 a1, .int .i64 (-8)]) (ready_of_cert hC11 (by kernel_rfl)) (by kernel_rfl) (words_Rol8.calls k a1 (-8) t49 _ ht49) (by rintro _ _ ⟨rfl, hM_⟩; exact hS.below hM_.below) ?_
              rintro _ W48 ⟨rfl, hM_⟩
              replace hS := hS.below hM_.below
              replace hM := hM.call hM_
              clear hM_ ht49
              refine RunAny.rebase hS ?_
              replace hS := Still.refl W48 []
              refine RunAny.y 49 (side_of_cert hC11 (by kernel_rfl)) (yl_pure (d := some 77) (v := .bool (t49 == a1)) (k2 := [.inRegion (opsOf (pl Go.Proofs.Try.f8 [1, 1, 1, 1, 1, 0])) []]) fun w => by kernel_rfl) (fun _ _ => trivial) hS ?_
              refine RunAny.y 50 (side_of_cert hC11 (by kernel_rfl)) (yl_pure (d := some 78) (v := .bool (t49 == a1)) (k2 := [.inRegion (opsOf (pl Go.Proofs.Try.f8 [1, 1, 1, 1, 1, 0])) []]) fun w => by kernel_rfl) (fun _ _ => trivial) hS ?_
              refine RunAny.y 51 (side_of_cert hC11 (by kernel_rfl)) (yl_pure (d := some 79) (v := .bool (t49 == a1)) (k2 := [.inRegion (opsOf (pl Go.Proofs.Try.f8 [1, 1, 1, 1, 1, 0])) []]) fun w => by kernel_rfl) (fun _ _ => trivial) hS ?_
              rcases two ((t49 == a1)) with c50 | c50
              · replace h := of_true h c50
                refine RunAny.know 79 (b := true) (by kernel_rfl) c50 ?_
                refine RunAny.y 52 (side_of_cert hC11 (by kernel_rfl)) (yl_pure (d := some 80) (v := .slice Ap2 a2.length cp2) (k2 := [.inRegion (opsOf (pl Go.Proofs.Try.f8 [1, 1, 1, 1, 1, 0])) []]) fun w => by kernel_rfl) (fun _ _ => trivial) hS ?_
                refine RunAny.y 53 (side_of_cert hC11 (by kernel_rfl)) (yl_pure (d := some 81) (v := .int .i64 (I64 (8 * (a2.length : Int)))) (k2 := [.inRegion (opsOf (pl Go.Proofs.Try.f8 [1, 1, 1, 1, 1, 0])) []]) fun w => by kernel_rfl) (fun _ _ => trivial) hS ?_
                refine RunAny.y 56 (side_of_cert hC11 (by kernel_rfl)) (yl_pure (d := some 84) (v := .slice Ap2 a2.length cp2) (k2 := [.inRegion (opsOf (pl Go.Proofs.Try.f8 [1, 1, 1, 1, 1, 0])) []]) fun w => by kernel_rfl) (fun _ _ => trivial) hS ?_
                refine RunAny.y 57 (side_of_cert hC11 (by kernel_rfl)) (str_y (d := some 85) (A := Ap2) (m := a2.length) (c := cp2) (k2 := [.inRegion (opsOf (pl Go.Proofs.Try.f8 [1, 1, 1, 1, 1, 0])) []]) a2 (by kernel_rfl)) (fun _ hs => ((hr2.mono hM.below).still hs (by simp))) hS ?_
                obtain ⟨t52, ht52, h⟩ := Option.bind_eq_some_iff.mp h
                refine RunAny.call 54 (d := some 82) (g := 30) (args := #[.slice Ap2 a2.length cp2, .int .i64 (I64 (8 * (a2.length : Int)))]) (ready_of_cert hC11 (by kernel_rfl)) (by kernel_rfl) (words_Turn.calls k Ap2 a2.length cp2 a2 (I64 (8 * (a2.length : Int))) t52 _ (hr2.mono hM.below) ht52) (by rintro _ _ ⟨_, _, _, rfl, hM_⟩; exact hS.below hM_.below) ?_
                rintro _ W51 ⟨A53, n54, c55, rfl, hM_⟩
                obtain rfl : t52.length = n54 := by have h_ := (hM_.rd 0 rfl).1; simpa [nums_length, bools_length, strs_length] using h_
                replace hS := hS.below hM_.below
                replace hM := hM.call hM_
                clear hM_ ht52
                refine RunAny.rebase hS ?_
                replace hS := Still.refl W51 []
                refine RunAny.y 55 (side_of_cert hC11 (by kernel_rfl)) (str_y (d := some 83) (A := A53) (m := t52.length) (c := c55) (k2 := [.inRegion (opsOf (pl Go.Proofs.Try.f8 [1, 1, 1, 1, 1, 0])) []]) t52 (by kernel_rfl)) (fun _ hs => ((hM.rd 0 rfl).still hs (by simp))) hS ?_
                refine RunAny.y 58 (side_of_cert hC11 (by kernel_rfl)) (yl_pure (d := some 86) (v := .bool ((strOf t52).toList == (strOf a2).toList)) (k2 := [.inRegion (opsOf (pl Go.Proofs.Try.f8 [1, 1, 1, 1, 1, 0])) []]) fun w => by kernel_rfl) (fun _ _ => trivial) hS ?_
                refine RunAny.y 59 (side_of_cert hC11 (by kernel_rfl)) (yl_pure (d := some 87) (v := .bool ((strOf t52).toList == (strOf a2).toList)) (k2 := [.inRegion (opsOf (pl Go.Proofs.Try.f8 [1, 1, 1, 1, 1, 0])) []]) fun w => by kernel_rfl) (fun _ _ => trivial) hS ?_
                refine RunAny.y 60 (side_of_cert hC11 (by kernel_rfl)) (yl_pure (d := some 88) (v := .bool ((strOf t52).toList == (strOf a2).toList)) (k2 := [.inRegion (opsOf (pl Go.Proofs.Try.f8 [1, 1, 1, 1, 1, 0])) []]) fun w => by kernel_rfl) (fun _ _ => trivial) hS ?_
                rcases two (((strOf t52).toList == (strOf a2).toList)) with c57 | c57
                · replace h := of_true h c57
                  refine RunAny.know 88 (b := true) (by kernel_rfl) c57 ?_
                  refine RunAny.y 61 (side_of_cert hC11 (by kernel_rfl)) (yl_pure (d := some 89) (v := .slice Ap2 a2.length cp2) (k2 := [.inRegion (opsOf (pl Go.Proofs.Try.f8 [1, 1, 1, 1, 1, 0])) []]) fun w => by kernel_rfl) (fun _ _ => trivial) hS ?_
                  refine RunAny.y 62 (side_of_cert hC11 (by kernel_rfl)) (yl_pure (d := some 90) (v := .int .i64 (I64 (t6 - 1000))) (k2 := [.inRegion (opsOf (pl Go.Proofs.Try.f8 [1, 1, 1, 1, 1, 0])) []]) fun w => by kernel_rfl) (fun _ _ => trivial) hS ?_
                  refine RunAny.y 64 (side_of_cert hC11 (by kernel_rfl)) (yl_pure (d := some 92) (v := .int .i64 (I64 (t6 - 1000))) (k2 := [.inRegion (opsOf (pl Go.Proofs.Try.f8 [1, 1, 1, 1, 1, 0])) []]) fun w => by kernel_rfl) (fun _ _ => trivial) hS ?_
                  refine RunAny.y 65 (side_of_cert hC11 (by kernel_rfl)) (yl_pure (d := some 93) (v := .int .i64 (I64 (0 - (I64 (t6 - 1000))))) (k2 := [.inRegion (opsOf (pl Go.Proofs.Try.f8 [1, 1, 1, 1, 1, 0])) []]) fun w => by kernel_rfl) (fun _ _ => trivial) hS ?_
                  refine RunAny.y 68 (side_of_cert hC11 (by kernel_rfl)) (yl_pure (d := some 96) (v := .slice Ap2 a2.length cp2) (k2 := [.inRegion (opsOf (pl Go.Proofs.Try.f8 [1, 1, 1, 1, 1, 0])) []]) fun w => by kernel_rfl) (fun _ _ => trivial) hS ?_
                  refine RunAny.y 69 (side_of_cert hC11 (by kernel_rfl)) (str_y (d := some 97) (A := Ap2) (m := a2.length) (c := cp2) (k2 := [.inRegion (opsOf (pl Go.Proofs.Try.f8 [1, 1, 1, 1, 1, 0])) []]) a2 (by kernel_rfl)) (fun _ hs => ((hr2.mono hM.below).still hs (by simp))) hS ?_
                  obtain ⟨t59, ht59, h⟩ := Option.bind_eq_some_iff.mp h
                  refine RunAny.call 63 (d := some 91) (g := 30) (args := #[.slice Ap2 a2.length cp2, .int .i64 (I64 (t6 - 1000))]) (ready_of_cert hC11 (by kernel_rfl)) (by kernel_rfl) (words_Turn.calls k Ap2 a2.length cp2 a2 (I64 (t6 - 1000)) t59 _ (hr2.mono hM.below) ht59) (by rintro _ _ ⟨_, _, _, rfl, hM_⟩; exact hS.below hM_.below) ?_
                  rintro _ W58 ⟨A60, n61, c62, rfl, hM_⟩
                  obtain rfl : t59.length = n61 := by have h_ := (hM_.rd 0 rfl).1; simpa [nums_length, bools_length, strs_length] using h_
                  replace hS := hS.below hM_.below
                  replace hM := hM.call hM_
                  clear hM_ ht59
                  refine RunAny.rebase hS ?_
                  replace hS := Still.refl W58 []
                  obtain ⟨t65, ht65, h⟩ := Option.bind_eq_some_iff.mp h
                  refine RunAny.call 66 (d := some 94) (g := 30) (args := #[.slice A60 t59.length c62, .int .i64 (I64 (0 - (I64 (t6 - 1000))))]) (ready_of_cert hC11 (by kernel_rfl)) (by kernel_rfl) (words_Turn.calls k A60 t59.length c62 t59 (I64 (0 - (I64 (t6 - 1000)))) t65 _ (hM.rd 0 rfl) ht65) (by rintro _ _ ⟨_, _, _, rfl, hM_⟩; exact hS.below hM_.below) ?_
                  rintro _ W64 ⟨A66, n67, c68, rfl, hM_⟩
                  obtain rfl : t65.length = n67 := by have h_ := (hM_.rd 0 rfl).1; simpa [nums_length, bools_length, strs_length] using h_
                  replace hS := hS.below hM_.below
                  replace hM := hM.call hM_
                  clear hM_ ht65
                  refine RunAny.rebase hS ?_
                  replace hS := Still.refl W64 []
                  refine RunAny.y 67 (side_of_cert hC11 (by kernel_rfl)) (str_y (d := some 95) (A := A66) (m := t65.length) (c := c68) (k2 := [.inRegion (opsOf (pl Go.Proofs.Try.f8 [1, 1, 1, 1, 1, 0])) []]) t65 (by kernel_rfl)) (fun _ hs => ((hM.rd 0 rfl).still hs (by simp))) hS ?_
                  refine RunAny.y 70 (side_of_cert hC11 (by kernel_rfl)) (yl_pure (d := some 98) (v := .bool ((strOf t65).toList == (strOf a2).toList)) (k2 := [.inRegion (opsOf (pl Go.Proofs.Try.f8 [1, 1, 1, 1, 1, 0])) []]) fun w => by kernel_rfl) (fun _ _ => trivial) hS ?_
                  refine RunAny.y 71 (side_of_cert hC11 (by kernel_rfl)) (yl_pure (d := some 99) (v := .bool ((strOf t65).toList == (strOf a2).toList)) (k2 := [.inRegion (opsOf (pl Go.Proofs.Try.f8 [1, 1, 1, 1, 1, 0])) []]) fun w => by kernel_rfl) (fun _ _ => trivial) hS ?_
                  refine RunAny.y 72 (side_of_cert hC11 (by kernel_rfl)) (yl_pure (d := some 10) (v := .bool ((strOf t65).toList == (strOf a2).toList)) (k2 := [.inRegion (opsOf (pl Go.Proofs.Try.f8 [1, 1, 1, 1, 1, 0])) []]) fun w => by kernel_rfl) (fun _ _ => trivial) hS ?_
                  refine RunAny.done (ready_of_cert hC11 (by kernel_rfl)) ?_
                  clear hS
                  obtain rfl := Option.some.inj h
                  exact RunF.ret1 10 (.bool ((strOf t65).toList == (strOf a2).toList)) (fn := Go.Proofs.Try.f8) Go.Proofs.Try.func8 (by kernel_rfl) (by kernel_rfl) (by kernel_rfl) ⟨_, rfl, rfl, (hM.pick [] rfl rfl)⟩
                · replace h := of_false h c57
                  refine RunAny.know 88 (b := false) (by kernel_rfl) c57 ?_
                  refine RunAny.off 61 (d := some 89) (side_of_cert hC11 (by kernel_rfl)) (by kernel_rfl) hS ?_
                  refine RunAny.off 62 (d := some 90) (side_of_cert hC11 (by kernel_rfl)) (by kernel_rfl) hS ?_
                  refine RunAny.off 63 (d := some 91) (side_of_cert hC11 (by kernel_rfl)) (by kernel_rfl) hS ?_
                  refine RunAny.off 64 (d := some 92) (side_of_cert hC11 (by kernel_rfl)) (by kernel_rfl) hS ?_
                  refine RunAny.off 65 (d := some 93) (side_of_cert hC11 (by kernel_rfl)) (by kernel_rfl) hS ?_
                  refine RunAny.off 66 (d := some 94) (side_of_cert hC11 (by kernel_rfl)) (by kernel_rfl) hS ?_
                  refine RunAny.off 67 (d := some 95) (side_of_cert hC11 (by kernel_rfl)) (by kernel_rfl) hS ?_
                  refine RunAny.off 68 (d := some 96) (side_of_cert hC11 (by kernel_rfl)) (by kernel_rfl) hS ?_
                  refine RunAny.off 69 (d := some 97) (side_of_cert hC11 (by kernel_rfl)) (by kernel_rfl) hS ?_
                  refine RunAny.off 70 (d := some 98) (side_of_cert hC11 (by kernel_rfl)) (by kernel_rfl) hS ?_
                  refine RunAny.y 71 (side_of_cert hC11 (by kernel_rfl)) (yl_pure (d := some 99) (v := .bool false) (k2 := [.inRegion (opsOf (pl Go.Proofs.Try.f8 [1, 1, 1, 1, 1, 0])) []]) fun w => by kernel_rfl) (fun _ _ => trivial) hS ?_
                  refine RunAny.y 72 (side_of_cert hC11 (by kernel_rfl)) (yl_pure (d := some 10) (v := .bool false) (k2 := [.inRegion (opsOf (pl Go.Proofs.Try.f8 [1, 1, 1, 1, 1, 0])) []]) fun w => by kernel_rfl) (fun _ _ => trivial) hS ?_
                  refine RunAny.done (ready_of_cert hC11 (by kernel_rfl)) ?_
                  clear hS
                  obtain rfl := Option.some.inj h
                  exact RunF.ret1 10 (.bool false) (fn := Go.Proofs.Try.f8) Go.Proofs.Try.func8 (by kernel_rfl) (by kernel_rfl) (by kernel_rfl) ⟨_, rfl, rfl, (hM.pick [] rfl rfl)⟩
              · replace h := of_false h c50
                refine RunAny.know 79 (b := false) (by kernel_rfl) c50 ?_
                refine RunAny.off 52 (d := some 80) (side_of_cert hC11 (by kernel_rfl)) (by kernel_rfl) hS ?_
                refine RunAny.off 53 (d := some 81) (side_of_cert hC11 (by kernel_rfl)) (by kernel_rfl) hS ?_
                refine RunAny.off 54 (d := some 82) (side_of_cert hC11 (by kernel_rfl)) (by kernel_rfl) hS ?_
                refine RunAny.off 55 (d := some 83) (side_of_cert hC11 (by kernel_rfl)) (by kernel_rfl) hS ?_
                refine RunAny.off 56 (d := some 84) (side_of_cert hC11 (by kernel_rfl)) (by kernel_rfl) hS ?_
                refine RunAny.off 57 (d := some 85) (side_of_cert hC11 (by kernel_rfl)) (by kernel_rfl) hS ?_
                refine RunAny.off 58 (d := some 86) (side_of_cert hC11 (by kernel_rfl)) (by kernel_rfl) hS ?_
                refine RunAny.y 59 (side_of_cert hC11 (by kernel_rfl)) (yl_pure (d := some 87) (v := .bool false) (k2 := [.inRegion (opsOf (pl Go.Proofs.Try.f8 [1, 1, 1, 1, 1, 0])) []]) fun w => by kernel_rfl) (fun _ _ => trivial) hS ?_
                refine RunAny.y 60 (side_of_cert hC11 (by kernel_rfl)) (yl_pure (d := some 88) (v := .bool false) (k2 := [.inRegion (opsOf (pl Go.Proofs.Try.f8 [1, 1, 1, 1, 1, 0])) []]) fun w => by kernel_rfl) (fun _ _ => trivial) hS ?_
                refine RunAny.off 61 (d := some 89) (side_of_cert hC11 (by kernel_rfl)) (by kernel_rfl) hS ?_
                refine RunAny.off 62 (d := some 90) (side_of_cert hC11 (by kernel_rfl)) (by kernel_rfl) hS ?_
                refine RunAny.off 63 (d := some 91) (side_of_cert hC11 (by kernel_rfl)) (by kernel_rfl) hS ?_
                refine RunAny.off 64 (d := some 92) (side_of_cert hC11 (by kernel_rfl)) (by kernel_rfl) hS ?_
                refine RunAny.off 65 (d := some 93) (side_of_cert hC11 (by kernel_rfl)) (by kernel_rfl) hS ?_
                refine RunAny.off 66 (d := some 94) (side_of_cert hC11 (by kernel_rfl)) (by kernel_rfl) hS ?_
                refine RunAny.off 67 (d := some 95) (side_of_cert hC11 (by kernel_rfl)) (by kernel_rfl) hS ?_
                refine RunAny.off 68 (d := some 96) (side_of_cert hC11 (by kernel_rfl)) (by kernel_rfl) hS ?_
                refine RunAny.off 69 (d := some 97) (side_of_cert hC11 (by kernel_rfl)) (by kernel_rfl) hS ?_
                refine RunAny.off 70 (d := some 98) (side_of_cert hC11 (by kernel_rfl)) (by kernel_rfl) hS ?_
                refine RunAny.y 71 (side_of_cert hC11 (by kernel_rfl)) (yl_pure (d := some 99) (v := .bool false) (k2 := [.inRegion (opsOf (pl Go.Proofs.Try.f8 [1, 1, 1, 1, 1, 0])) []]) fun w => by kernel_rfl) (fun _ _ => trivial) hS ?_
                refine RunAny.y 72 (side_of_cert hC11 (by kernel_rfl)) (yl_pure (d := some 10) (v := .bool false) (k2 := [.inRegion (opsOf (pl Go.Proofs.Try.f8 [1, 1, 1, 1, 1, 0])) []]) fun w => by kernel_rfl) (fun _ _ => trivial) hS ?_
                refine RunAny.done (ready_of_cert hC11 (by kernel_rfl)) ?_
                clear hS
                obtain rfl := Option.some.inj h
                exact RunF.ret1 10 (.bool false) (fn := Go.Proofs.Try.f8) Go.Proofs.Try.func8 (by kernel_rfl) (by kernel_rfl) (by kernel_rfl) ⟨_, rfl, rfl, (hM.pick [] rfl rfl)⟩
            · replace h := of_false h c47
              refine RunAny.know 73 (b := false) (by kernel_rfl) c47 ?_
              refine RunAny.off 46 (d := some 74) (side_of_cert hC11 (by kernel_rfl)) (by kernel_rfl) hS ?_
              refine RunAny.off 47 (d := some 75) (side_of_cert hC11 (by kernel_rfl)) (by kernel_rfl) hS ?_
              refine RunAny.off 48 (d := some 76) (side_of_cert hC11 (by kernel_rfl)) (by kernel_rfl) hS ?_
              refine RunAny.off 49 (d := some 77) (side_of_cert hC11 (by kernel_rfl)) (by kernel_rfl) hS ?_
              refine RunAny.y 50 (side_of_cert hC11 (by kernel_rfl)) (yl_pure (d := some 78) (v := .bool false) (k2 := [.inRegion (opsOf (pl Go.Proofs.Try.f8 [1, 1, 1, 1, 1, 0])) []]) fun w => by kernel_rfl) (fun _ _ => trivial) hS ?_
              refine RunAny.y 51 (side_of_cert hC11 (by kernel_rfl)) (yl_pure (d := some 79) (v := .bool false) (k2 := [.inRegion (opsOf (pl Go.Proofs.Try.f8 [1, 1, 1, 1, 1, 0])) []]) fun w => by kernel_rfl) (fun _ _ => trivial) hS ?_
              refine RunAny.off 52 (d := some 80) (side_of_cert hC11 (by kernel_rfl)) (by kernel_rfl) hS ?_
              refine RunAny.off 53 (d := some 81) (side_of_cert hC11 (by kernel_rfl)) (by kernel_rfl) hS ?_
              refine RunAny.off 54 (d := some 82) (side_of_cert hC11 (by kernel_rfl)) (by kernel_rfl) hS ?_
              refine RunAny.off 55 (d := some 83) (side_of_cert hC11 (by kernel_rfl)) (by kernel_rfl) hS ?_
              refine RunAny.off 56 (d := some 84) (side_of_cert hC11 (by kernel_rfl)) (by kernel_rfl) hS ?_
              refine RunAny.off 57 (d := some 85) (side_of_cert hC11 (by kernel_rfl)) (by kernel_rfl) hS ?_
              refine RunAny.off 58 (d := some 86) (side_of_cert hC11 (by kernel_rfl)) (by kernel_rfl) hS ?_
              refine RunAny.y 59 (side_of_cert hC11 (by kernel_rfl)) (yl_pure (d := some 87) (v := .bool false) (k2 := [.inRegion (opsOf (pl Go.Proofs.Try.f8 [1, 1, 1, 1, 1, 0])) []]) fun w => by kernel_rfl) (fun _ _ => trivial) hS ?_
              refine RunAny.y 60 (side_of_cert hC11 (by kernel_rfl)) (yl_pure (d := some 88) (v := .bool false) (k2 := [.inRegion (opsOf (pl Go.Proofs.Try.f8 [1, 1, 1, 1, 1, 0])) []]) fun w => by kernel_rfl) (fun _ _ => trivial) hS ?_
              refine RunAny.off 61 (d := some 89) (side_of_cert hC11 (by kernel_rfl)) (by kernel_rfl) hS ?_
              refine RunAny.off 62 (d := some 90) (side_of_cert hC11 (by kernel_rfl)) (by kernel_rfl) hS ?_
              refine RunAny.off 63 (d := some 91) (side_of_cert hC11 (by kernel_rfl)) (by kernel_rfl) hS ?_
              refine RunAny.off 64 (d := some 92) (side_of_cert hC11 (by kernel_rfl)) (by kernel_rfl) hS ?_
              refine RunAny.off 65 (d := some 93) (side_of_cert hC11 (by kernel_rfl)) (by kernel_rfl) hS ?_
              refine RunAny.off 66 (d := some 94) (side_of_cert hC11 (by kernel_rfl)) (by kernel_rfl) hS ?_
              refine RunAny.off 67 (d := some 95) (side_of_cert hC11 (by kernel_rfl)) (by kernel_rfl) hS ?_
              refine RunAny.off 68 (d := some 96) (side_of_cert hC11 (by kernel_rfl)) (by kernel_rfl) hS ?_
              refine RunAny.off 69 (d := some 97) (side_of_cert hC11 (by kernel_rfl)) (by kernel_rfl) hS ?_
              refine RunAny.off 70 (d := some 98) (side_of_cert hC11 (by kernel_rfl)) (by kernel_rfl) hS ?_
              refine RunAny.y 71 (side_of_cert hC11 (by kernel_rfl)) (yl_pure (d := some 99) (v := .bool false) (k2 := [.inRegion (opsOf (pl Go.Proofs.Try.f8 [1, 1, 1, 1, 1, 0])) []]) fun w => by kernel_rfl) (fun _ _ => trivial) hS ?_
              refine RunAny.y 72 (side_of_cert hC11 (by kernel_rfl)) (yl_pure (d := some 10) (v := .bool false) (k2 := [.inRegion (opsOf (pl Go.Proofs.Try.f8 [1, 1, 1, 1, 1, 0])) []]) fun w => by kernel_rfl) (fun _ _ => trivial) hS ?_
              refine RunAny.done (ready_of_cert hC11 (by kernel_rfl)) ?_
              clear hS
              obtain rfl := Option.some.inj h
              exact RunF.ret1 10 (.bool false) (fn := Go.Proofs.Try.f8) Go.Proofs.Try.func8 (by kernel_rfl) (by kernel_rfl) (by kernel_rfl) ⟨_, rfl, rfl, (hM.pick [] rfl rfl)⟩
          · replace h := of_false h c44
            refine RunAny.know 67 (b := false) (by kernel_rfl) c44 ?_
            refine RunAny.off 40 (d := some 68) (side_of_cert hC11 (by kernel_rfl)) (by kernel_rfl) hS ?_
            refine RunAny.off 41 (d := some 69) (side_of_cert hC11 (by kernel_rfl)) (by kernel_rfl) hS ?_
            refine RunAny.off 42 (d := some 70) (side_of_cert hC11 (by kernel_rfl)) (by kernel_rfl) hS ?_
            refine RunAny.off 43 (d := some 71) (side_of_cert hC11 (by kernel_rfl)) (by kernel_rfl) hS ?_
            refine RunAny.y 44 (side_of_cert hC11 (by kernel_rfl)) (yl_pure (d := some 72) (v := .bool false) (k2 := [.inRegion (opsOf (pl Go.Proofs.Try.f8 [1, 1, 1, 1, 1, 0])) []]) fun w => by kernel_rfl) (fun _ _ => trivial) hS ?_
            refine RunAny.y 45 (side_of_cert hC11 (by kernel_rfl)) (yl_pure (d := some 73) (v := .bool false) (k2 := [.inRegion (opsOf (pl Go.Proofs.Try.f8 [1, 1, 1, 1, 1, 0])) []]) fun w => by kernel_rfl) (fun _ _ => trivial) hS ?_
            refine RunAny.off 46 (d := some 74) (side_of_cert hC11 (by kernel_rfl)) (by kernel_rfl) hS ?_
            refine RunAny.off 47 (d := some 75) (side_of_cert hC11 (by kernel_rfl)) (by kernel_rfl) hS ?_
            refine RunAny.off 48 (d := some 76) (side_of_cert hC11 (by kernel_rfl)) (by kernel_rfl) hS ?_
            refine RunAny.off 49 (d := some 77) (side_of_cert hC11 (by kernel_rfl)) (by kernel_rfl) hS ?_
            refine RunAny.y 50 (side_of_cert hC11 (by kernel_rfl)) (yl_pure (d := some 78) (v := .bool false) (k2 := [.inRegion (opsOf (pl Go.Proofs.Try.f8 [1, 1, 1, 1, 1, 0])) []]) fun w => by kernel_rfl) (fun _ _ => trivial) hS ?_
            refine RunAny.y 51 (side_of_cert hC11 (by kernel_rfl)) (yl_pure (d := some 79) (v := .bool false) (k2 := [.inRegion (opsOf (pl Go.Proofs.Try.f8 [1, 1, 1, 1, 1, 0])) []]) fun w => by kernel_rfl) (fun _ _ => trivial) hS ?_
            refine RunAny.off 52 (d := some 80) (side_of_cert hC11 (by kernel_rfl)) (by kernel_rfl) hS ?_
            refine RunAny.off 53 (d := some 81) (side_of_cert hC11 (by kernel_rfl)) (by kernel_rfl) hS ?_
            refine RunAny.off 54 (d := some 82) (side_of_cert hC11 (by kernel_rfl)) (by kernel_rfl) hS ?_
            refine RunAny.off 55 (d := some 83) (side_of_cert hC11 (by kernel_rfl)) (by kernel_rfl) hS ?_
            refine RunAny.off 56 (d := some 84) (side_of_cert hC11 (by kernel_rfl)) (by kernel_rfl) hS ?_
            refine RunAny.off 57 (d := some 85) (side_of_cert hC11 (by kernel_rfl)) (by kernel_rfl) hS ?_
            refine RunAny.off 58 (d := some 86) (side_of_cert hC11 (by kernel_rfl)) (by kernel_rfl) hS ?_
            refine RunAny.y 59 (side_of_cert hC11 (by kernel_rfl)) (yl_pure (d := some 87) (v := .bool false) (k2 := [.inRegion (opsOf (pl Go.Proofs.Try.f8 [1, 1, 1, 1, 1, 0])) []]) fun w => by kernel_rfl) (fun _ _ => trivial) hS ?_
            refine RunAny.y 60 (side_of_cert hC11 (by kernel_rfl)) (yl_pure (d := some 88) (v := .bool false) (k2 := [.inRegion (opsOf (pl Go.Proofs.Try.f8 [1, 1, 1, 1, 1, 0])) []]) fun w => by kernel_rfl) (fun _ _ => trivial) hS ?_
            refine RunAny.off 61 (d := some 89) (side_of_cert hC11 (by kernel_rfl)) (by kernel_rfl) hS ?_
            refine RunAny.off 62 (d := some 90) (side_of_cert hC11 (by kernel_rfl)) (by kernel_rfl) hS ?_
            refine RunAny.off 63 (d := some 91) (side_of_cert hC11 (by kernel_rfl)) (by kernel_rfl) hS ?_
            refine RunAny.off 64 (d := some 92) (side_of_cert hC11 (by kernel_rfl)) (by kernel_rfl) hS ?_
            refine RunAny.off 65 (d := some 93) (side_of_cert hC11 (by kernel_rfl)) (by kernel_rfl) hS ?_
            refine RunAny.off 66 (d := some 94) (side_of_cert hC11 (by kernel_rfl)) (by kernel_rfl) hS ?_
            refine RunAny.off 67 (d := some 95) (side_of_cert hC11 (by kernel_rfl)) (by kernel_rfl) hS ?_
            refine RunAny.off 68 (d := some 96) (side_of_cert hC11 (by kernel_rfl)) (by kernel_rfl) hS ?_
            refine RunAny.off 69 (d := some 97) (side_of_cert hC11 (by kernel_rfl)) (by kernel_rfl) hS ?_
            refine RunAny.off 70 (d := some 98) (side_of_cert hC11 (by kernel_rfl)) (by kernel_rfl) hS ?_
            refine RunAny.y 71 (side_of_cert hC11 (by kernel_rfl)) (yl_pure (d := some 99) (v := .bool false) (k2 := [.inRegion (opsOf (pl Go.Proofs.Try.f8 [1, 1, 1, 1, 1, 0])) []]) fun w => by kernel_rfl) (fun _ _ => trivial) hS ?_
            refine RunAny.y 72 (side_of_cert hC11 (by kernel_rfl)) (yl_pure (d := some 10) (v := .bool false) (k2 := [.inRegion (opsOf (pl Go.Proofs.Try.f8 [1, 1, 1, 1, 1, 0])) []]) fun w => by kernel_rfl) (fun _ _ => trivial) hS ?_
            refine RunAny.done (ready_of_cert hC11 (by kernel_rfl)) ?_
            clear hS
            obtain rfl := Option.some.inj h
            exact RunF.ret1 10 (.bool false) (fn := Go.Proofs.Try.f8) Go.Proofs.Try.func8 (by kernel_rfl) (by kernel_rfl) (by kernel_rfl) ⟨_, rfl, rfl, (hM.pick [] rfl rfl)⟩
        · replace h := of_false h c25
          refine RunAny.know 52 (b := false) (by kernel_rfl) c25 ?_
          refine RunAny.off 25 (d := some 53) (side_of_cert hC11 (by kernel_rfl)) (by kernel_rfl) hS ?_
          refine RunAny.off 26 (d := some 54) (side_of_cert hC11 (by kernel_rfl)) (by kernel_rfl) hS ?_
          refine RunAny.off 27 (d := some 55) (side_of_cert hC11 (by kernel_rfl)) (by kernel_rfl) hS ?_
          refine RunAny.off 28 (d := some 56) (side_of_cert hC11 (by kernel_rfl)) (by kernel_rfl) hS ?_
          refine RunAny.off 29 (d := some 57) (side_of_cert hC11 (by kernel_rfl)) (by kernel_rfl) hS ?_
          refine RunAny.off 30 (d := some 58) (side_of_cert hC11 (by kernel_rfl)) (by kernel_rfl) hS ?_
          refine RunAny.off 31 (d := some 59) (side_of_cert hC11 (by kernel_rfl)) (by kernel_rfl) hS ?_
          refine RunAny.off 32 (d := some 60) (side_of_cert hC11 (by kernel_rfl)) (by kernel_rfl) hS ?_
          refine RunAny.off 33 (d := some 61) (side_of_cert hC11 (by kernel_rfl)) (by kernel_rfl) hS ?_
          refine RunAny.off 34 (d := some 62) (side_of_cert hC11 (by kernel_rfl)) (by kernel_rfl) hS ?_
          refine RunAny.off 35 (d := some 63) (side_of_cert hC11 (by kernel_rfl)) (by kernel_rfl) hS ?_
          refine RunAny.off 36 (d := some 64) (side_of_cert hC11 (by kernel_rfl)) (by kernel_rfl) hS ?_
          refine RunAny.off 37 (d := some 65) (side_of_cert hC11 (by kernel_rfl)) (by kernel_rfl) hS ?_
          refine RunAny.y 38 (side_of_cert hC11 (by kernel_rfl)) (yl_pure (d := some 66) (v := .bool false) (k2 := [.inRegion (opsOf (pl Go.Proofs.Try.f8 [1, 1, 1, 1, 1, 0])) []]) fun w => by kernel_rfl) (fun _ _ => trivial) hS ?_
          refine RunAny.y 39 (side_of_cert hC11 (by kernel_rfl)) (yl_pure (d := some 67) (v := .bool false) (k2 := [.inRegion (opsOf (pl Go.Proofs.Try.f8 [1, 1, 1, 1, 1, 0])) []]) fun w => by kernel_rfl) (fun _ _ => trivial) hS ?_
          refine RunAny.off 40 (d := some 68) (side_of_cert hC11 (by kernel_rfl)) (by kernel_rfl) hS ?_
          refine RunAny.off 41 (d := some 69) (side_of_cert hC11 (by kernel_rfl)) (by kernel_rfl) hS ?_
          refine RunAny.off 42 (d := some 70) (side_of_cert hC11 (by kernel_rfl)) (by kernel_rfl) hS ?_
          refine RunAny.off 43 (d := some 71) (side_of_cert hC11 (by kernel_rfl)) (by kernel_rfl) hS ?_
          refine RunAny.y 44 (side_of_cert hC11 (by kernel_rfl)) (yl_pure (d := some 72) (v := .bool false) (k2 := [.inRegion (opsOf (pl Go.Proofs.Try.f8 [1, 1, 1, 1, 1, 0])) []]) fun w => by kernel_rfl) (fun _ _ => trivial) hS ?_
          refine RunAny.y 45 (side_of_cert hC11 (by kernel_rfl)) (yl_pure (d := some 73) (v := .bool false) (k2 := [.inRegion (opsOf (pl Go.Proofs.Try.f8 [1, 1, 1, 1, 1, 0])) []]) fun w => by kernel_rfl) (fun _ _ => trivial) hS ?_
          refine RunAny.off 46 (d := some 74) (side_of_cert hC11 (by kernel_rfl)) (by kernel_rfl) hS ?_
          refine RunAny.off 47 (d := some 75) (side_of_cert hC11 (by kernel_rfl)) (by kernel_rfl) hS ?_
          refine RunAny.off 48 (d := some 76) (side_of_cert hC11 (by kernel_rfl)) (by kernel_rfl) hS ?_
          refine RunAny.off 49 (d := some 77) (side_of_cert hC11 (by kernel_rfl)) (by kernel_rfl) hS ?_
          refine RunAny.y 50 (side_of_cert hC11 (by kernel_rfl)) (yl_pure (d := some 78) (v := .bool false) (k2 := [.inRegion (opsOf (pl Go.Proofs.Try.f8 [1, 1, 1, 1, 1, 0])) []]) fun w => by kernel_rfl) (fun _ _ => trivial) hS ?_
          refine RunAny.y 51 (side_of_cert hC11 (by kernel_rfl)) (yl_pure (d := some 79) (v := .bool false) (k2 := [.inRegion (opsOf (pl Go.Proofs.Try.f8 [1, 1, 1, 1, 1, 0])) []]) fun w => by kernel_rfl) (fun _ _ => trivial) hS ?_
          refine RunAny.off 52 (d := some 80) (side_of_cert hC11 (by kernel_rfl)) (by kernel_rfl) hS ?_
          refine RunAny.off 53 (d := some 81) (side_of_cert hC11 (by kernel_rfl)) (by kernel_rfl) hS ?_
          refine RunAny.off 54 (d := some 82) (side_of_cert hC11 (by kernel_rfl)) (by kernel_rfl) hS ?_
          refine RunAny.off 55 (d := some 83) (side_of_cert hC11 (by kernel_rfl)) (by kernel_rfl) hS ?_
          refine RunAny.off 56 (d := some 84) (side_of_cert hC11 (by kernel_rfl)) (by kernel_rfl) hS ?_
          refine RunAny.off 57 (d := some 85) (side_of_cert hC11 (by kernel_rfl)) (by kernel_rfl) hS ?_
          refine RunAny.off 58 (d := some 86) (side_of_cert hC11 (by kernel_rfl)) (by kernel_rfl) hS ?_
          refine RunAny.y 59 (side_of_cert hC11 (by kernel_rfl)) (yl_pure (d := some 87) (v := .bool false) (k2 := [.inRegion (opsOf (pl Go.Proofs.Try.f8 [1, 1, 1, 1, 1, 0])) []]) fun w => by kernel_rfl) (fun _ _ => trivial) hS ?_
          refine RunAny.y 60 (side_of_cert hC11 (by kernel_rfl)) (yl_pure (d := some 88) (v := .bool false) (k2 := [.inRegion (opsOf (pl Go.Proofs.Try.f8 [1, 1, 1, 1, 1, 0])) []]) fun w => by kernel_rfl) (fun _ _ => trivial) hS ?_
          refine RunAny.off 61 (d := some 89) (side_of_cert hC11 (by kernel_rfl)) (by kernel_rfl) hS ?_
          refine RunAny.off 62 (d := some 90) (side_of_cert hC11 (by kernel_rfl)) (by kernel_rfl) hS ?_
          refine RunAny.off 63 (d := some 91) (side_of_cert hC11 (by kernel_rfl)) (by kernel_rfl) hS ?_
          refine RunAny.off 64 (d := some 92) (side_of_cert hC11 (by kernel_rfl)) (by kernel_rfl) hS ?_
          refine RunAny.off 65 (d := some 93) (side_of_cert hC11 (by kernel_rfl)) (by kernel_rfl) hS ?_
          refine RunAny.off 66 (d := some 94) (side_of_cert hC11 (by kernel_rfl)) (by kernel_rfl) hS ?_
          refine RunAny.off 67 (d := some 95) (side_of_cert hC11 (by kernel_rfl)) (by kernel_rfl) hS ?_
          refine RunAny.off 68 (d := some 96) (side_of_cert hC11 (by kernel_rfl)) (by kernel_rfl) hS ?_
          refine RunAny.off 69 (d := some 97) (side_of_cert hC11 (by kernel_rfl)) (by kernel_rfl) hS ?_
          refine RunAny.off 70 (d := some 98) (side_of_cert hC11 (by kernel_rfl)) (by kernel_rfl) hS ?_
          refine RunAny.y 71 (side_of_cert hC11 (by kernel_rfl)) (yl_pure (d := some 99) (v := .bool false) (k2 := [.inRegion (opsOf (pl Go.Proofs.Try.f8 [1, 1, 1, 1, 1, 0])) []]) fun w => by kernel_rfl) (fun _ _ => trivial) hS ?_
          refine RunAny.y 72 (side_of_cert hC11 (by kernel_rfl)) (yl_pure (d := some 10) (v := .bool false) (k2 := [.inRegion (opsOf (pl Go.Proofs.Try.f8 [1, 1, 1, 1, 1, 0])) []]) fun w => by kernel_rfl) (fun _ _ => trivial) hS ?_
          refine RunAny.done (ready_of_cert hC11 (by kernel_rfl)) ?_
          clear hS
          obtain rfl := Option.some.inj h
          exact RunF.ret1 10 (.bool false) (fn := Go.Proofs.Try.f8) Go.Proofs.Try.func8 (by kernel_rfl) (by kernel_rfl) (by kernel_rfl) ⟨_, rfl, rfl, (hM.pick [] rfl rfl)⟩
      · replace h := of_false h c18
        refine RunAny.know 39 (b := false) (by kernel_rfl) c18 ?_
        refine RunAny.off 12 (d := some 40) (side_of_cert hC11 (by kernel_rfl)) (by kernel_rfl) hS ?_
        refine RunAny.off 13 (d := some 41) (side_of_cert hC11 (by kernel_rfl)) (by kernel_rfl) hS ?_
        refine RunAny.off 14 (d := some 42) (side_of_cert hC11 (by kernel_rfl)) (by kernel_rfl) hS ?_
        refine RunAny.off 15 (d := some 43) (side_of_cert hC11 (by kernel_rfl)) (by kernel_rfl) hS ?_
        refine RunAny.off 16 (d := some 44) (side_of_cert hC11 (by kernel_rfl)) (by kernel_rfl) hS ?_
        refine RunAny.off 17 (d := some 45) (side_of_cert hC11 (by kernel_rfl)) (by kernel_rfl) hS ?_
        refine RunAny.off 18 (d := some 46) (side_of_cert hC11 (by kernel_rfl)) (by kernel_rfl) hS ?_
        refine RunAny.off 19 (d := some 47) (side_of_cert hC11 (by kernel_rfl)) (by kernel_rfl) hS ?_
        refine RunAny.off 20 (d := some 48) (side_of_cert hC11 (by kernel_rfl)) (by kernel_rfl) hS ?_
        refine RunAny.off 21 (d := some 49) (side_of_cert hC11 (by kernel_rfl)) (by kernel_rfl) hS ?_
        refine RunAny.off 22 (d := some 50) (side_of_cert hC11 (by kernel_rfl)) (by kernel_rfl) hS ?_
        refine RunAny.y 23 (side_of_cert hC11 (by kernel_rfl)) (yl_pure (d := some 51) (v := .bool false) (k2 := [.inRegion (opsOf (pl Go.Proofs.Try.f8 [1, 1, 1, 1, 1, 0])) []]) fun w => by kernel_rfl) (fun _ _ => trivial) hS ?_
        refine RunAny.y 24 (side_of_cert hC11 (by kernel_rfl)) (yl_pure (d := some 52) (v := .bool false) (k2 := [.inRegion (opsOf (pl Go.Proofs.Try.f8 [1, 1, 1, 1, 1, 0])) []]) fun w => by kernel_rfl) (fun _ _ => trivial) hS ?_
        refine RunAny.off 25 (d := some 53) (side_of_cert hC11 (by kernel_rfl)) (by kernel_rfl) hS ?_
        refine RunAny.off 26 (d := some 54) (side_of_cert hC11 (by kernel_rfl)) (by kernel_rfl) hS ?_
        refine RunAny.off 27 (d := some 55) (side_of_cert hC11 (by kernel_rfl)) (by kernel_rfl) hS ?_
        refine RunAny.off 28 (d := some 56) (side_of_cert hC11 (by kernel_rfl)) (by kernel_rfl) hS ?_
        refine RunAny.off 29 (d := some 57) (side_of_cert hC11 (by kernel_rfl)) (by kernel_rfl) hS ?_
        refine RunAny.off 30 (d := some 58) (side_of_cert hC11 (by kernel_rfl)) (by kernel_rfl) hS ?_
        refine RunAny.off 31 (d := some 59) (side_of_cert hC11 (by kernel_rfl)) (by kernel_rfl) hS ?_
        refine RunAny.off 32 (d := some 60) (side_of_cert hC11 (by kernel_rfl)) (by kernel_rfl) hS ?_
        refine RunAny.off 33 (d := some 61) (side_of_cert hC11 (by kernel_rfl)) (by kernel_rfl) hS ?_
        refine RunAny.off 34 (d := some 62) (side_of_cert hC11 (by kernel_rfl)) (by kernel_rfl) hS ?_
        refine RunAny.off 35 (d := some 63) (side_of_cert hC11 (by kernel_rfl)) (by kernel_rfl) hS ?_
        refine RunAny.off 36 (d := some 64) (side_of_cert hC11 (by kernel_rfl)) (by kernel_rfl) hS ?_
        refine RunAny.off 37 (d := some 65) (side_of_cert hC11 (by kernel_rfl)) (by kernel_rfl) hS ?_
        refine RunAny.y 38 (side_of_cert hC11 (by kernel_rfl)) (yl_pure (d := some 66) (v := .bool false) (k2 := [.inRegion (opsOf (pl Go.Proofs.Try.f8 [1, 1, 1, 1, 1, 0])) []]) fun w => by kernel_rfl) (fun _ _ => trivial) hS ?_
        refine RunAny.y 39 (side_of_cert hC11 (by kernel_rfl)) (yl_pure (d := some 67) (v := .bool false) (k2 := [.inRegion (opsOf (pl Go.Proofs.Try.f8 [1, 1, 1, 1, 1, 0])) []]) fun w => by kernel_rfl) (fun _ _ => trivial) hS ?_
        refine RunAny.off 40 (d := some 68) (side_of_cert hC11 (by kernel_rfl)) (by kernel_rfl) hS ?_
        refine RunAny.off 41 (d := some 69) (side_of_cert hC11 (by kernel_rfl)) (by kernel_rfl) hS ?_
        refine RunAny.off 42 (d := some 70) (side_of_cert hC11 (by kernel_rfl)) (by kernel_rfl) hS ?_
        refine RunAny.off 43 (d := some 71) (side_of_cert hC11 (by kernel_rfl)) (by kernel_rfl) hS ?_
        refine RunAny.y 44 (side_of_cert hC11 (by kernel_rfl)) (yl_pure (d := some 72) (v := .bool false) (k2 := [.inRegion (opsOf (pl Go.Proofs.Try.f8 [1, 1, 1, 1, 1, 0])) []]) fun w => by kernel_rfl) (fun _ _ => trivial) hS ?_
        refine RunAny.y 45 (side_of_cert hC11 (by kernel_rfl)) (yl_pure (d := some 73) (v := .bool false) (k2 := [.inRegion (opsOf (pl Go.Proofs.Try.f8 [1, 1, 1, 1, 1, 0])) []]) fun w => by kernel_rfl) (fun _ _ => trivial) hS ?_
        refine RunAny.off 46 (d := some 74) (side_of_cert hC11 (by kernel_rfl)) (by kernel_rfl) hS ?_
        refine RunAny.off 47 (d := some 75) (side_of_cert hC11 (by kernel_rfl)) (by kernel_rfl) hS ?_
        refine RunAny.off 48 (d := some 76) (side_of_cert hC11 (by kernel_rfl)) (by kernel_rfl) hS ?_
        refine RunAny.off 49 (d := some 77) (side_of_cert hC11 (by kernel_rfl)) (by kernel_rfl) hS ?_
        refine RunAny.y 50 (side_of_cert hC11 (by kernel_rfl)) (yl_pure (d := some 78) (v := .bool false) (k2 := [.inRegion (opsOf (pl Go.Proofs.Try.f8 [1, 1, 1, 1, 1, 0])) []]) fun w => by kernel_rfl) (fun _ _ => trivial) hS ?_
        refine RunAny.y 51 (side_of_cert hC11 (by kernel_rfl)) (yl_pure (d := some 79) (v := .bool false) (k2 := [.inRegion (opsOf (pl Go.Proofs.Try.f8 [1, 1, 1, 1, 1, 0])) []]) fun w => by kernel_rfl) (fun _ _ => trivial) hS ?_
        refine RunAny.off 52 (d := some 80) (side_of_cert hC11 (by kernel_rfl)) (by kernel_rfl) hS ?_
        refine RunAny.off 53 (d := some 81) (side_of_cert hC11 (by kernel_rfl)) (by kernel_rfl) hS ?_
        refine RunAny.off 54 (d := some 82) (side_of_cert hC11 (by kernel_rfl)) (by kernel_rfl) hS ?_
        refine RunAny.off 55 (d := some 83) (side_of_cert hC11 (by kernel_rfl)) (by kernel_rfl) hS ?_
        refine RunAny.off 56 (d := some 84) (side_of_cert hC11 (by kernel_rfl)) (by kernel_rfl) hS ?_
        refine RunAny.off 57 (d := some 85) (side_of_cert hC11 (by kernel_rfl)) (by kernel_rfl) hS ?_
        refine RunAny.off 58 (d := some 86) (side_of_cert hC11 (by kernel_rfl)) (by kernel_rfl) hS ?_
        refine RunAny.y 59 (side_of_cert hC11 (by kernel_rfl)) (yl_pure (d := some 87) (v := .bool false) (k2 := [.inRegion (opsOf (pl Go.Proofs.Try.f8 [1, 1, 1, 1, 1, 0])) []]) fun w => by kernel_rfl) (fun _ _ => trivial) hS ?_
        refine RunAny.y 60 (side_of_cert hC11 (by kernel_rfl)) (yl_pure (d := some 88) (v := .bool false) (k2 := [.inRegion (opsOf (pl Go.Proofs.Try.f8 [1, 1, 1, 1, 1, 0])) []]) fun w => by kernel_rfl) (fun _ _ => trivial) hS ?_
        refine RunAny.off 61 (d := some 89) (side_of_cert hC11 (by kernel_rfl)) (by kernel_rfl) hS ?_
        refine RunAny.off 62 (d := some 90) (side_of_cert hC11 (by kernel_rfl)) (by kernel_rfl) hS ?_
        refine RunAny.off 63 (d := some 91) (side_of_cert hC11 (by kernel_rfl)) (by kernel_rfl) hS ?_
        refine RunAny.off 64 (d := some 92) (side_of_cert hC11 (by kernel_rfl)) (by kernel_rfl) hS ?_
        refine RunAny.off 65 (d := some 93) (side_of_cert hC11 (by kernel_rfl)) (by kernel_rfl) hS ?_
        refine RunAny.off 66 (d := some 94) (side_of_cert hC11 (by kernel_rfl)) (by kernel_rfl) hS ?_
        refine RunAny.off 67 (d := some 95) (side_of_cert hC11 (by kernel_rfl)) (by kernel_rfl) hS ?_
        refine RunAny.off 68 (d := some 96) (side_of_cert hC11 (by kernel_rfl)) (by kernel_rfl) hS ?_
        refine RunAny.off 69 (d := some 97) (side_of_cert hC11 (by kernel_rfl)) (by kernel_rfl) hS ?_
        refine RunAny.off 70 (d := some 98) (side_of_cert hC11 (by kernel_rfl)) (by kernel_rfl) hS ?_
        refine RunAny.y 71 (side_of_cert hC11 (by kernel_rfl)) (yl_pure (d := some 99) (v := .bool false) (k2 := [.inRegion (opsOf (pl Go.Proofs.Try.f8 [1, 1, 1, 1, 1, 0])) []]) fun w => by kernel_rfl) (fun _ _ => trivial) hS ?_
        refine RunAny.y 72 (side_of_cert hC11 (by kernel_rfl)) (yl_pure (d := some 10) (v := .bool false) (k2 := [.inRegion (opsOf (pl Go.Proofs.Try.f8 [1, 1, 1, 1, 1, 0])) []]) fun w => by kernel_rfl) (fun _ _ => trivial) hS ?_
        refine RunAny.done (ready_of_cert hC11 (by kernel_rfl)) ?_
        clear hS
        obtain rfl := Option.some.inj h
        exact RunF.ret1 10 (.bool false) (fn := Go.Proofs.Try.f8) Go.Proofs.Try.func8 (by kernel_rfl) (by kernel_rfl) (by kernel_rfl) ⟨_, rfl, rfl, (hM.pick [] rfl rfl)⟩


end Go.Scr.S
