/- The functions that the law WordsInc reaches, as plain functions, and that each call answers so. -/
import Derived.Test.YtjhoigcoijinfaaProg
import Derived.Test.YtjhoigcoijinfaaXPure
set_option linter.unusedVariables false
set_option linter.unusedSimpArgs false
set_option linter.unnecessarySimpa false
namespace Go.Scr.S
/-! ### scrim/words.Inc: function 16 -/
def words_Inc.l0 : Nat → (List Int) → (List Int) → Int → Option (List Int)
  | 0, _, _, _ => none
  | k + 1, a0, x3_0, x4_0 => if (decide (x4_0 > 0)) = true then (if (decide (0 ≤ (I64 (x4_0 - 1)))) = true then (if (decide ((I64 (x4_0 - 1)) < (((List.replicate 0 0) ++ a0).length : Int))) = true then (if (decide (0 ≤ (I64 (x4_0 - 1)))) = true then (if (decide ((I64 (x4_0 - 1)) < (((List.replicate 0 0) ++ a0).length : Int))) = true then (if (decide (0 ≤ (I64 (x4_0 - 1)))) = true then (if (decide ((I64 (x4_0 - 1)) < (((List.replicate 0 0) ++ a0).length : Int))) = true then ((some (((rd (x3_0.set (I64 (x4_0 - 1) : Int).toNat (U8 ((rd x3_0 (I64 (x4_0 - 1))) + 1))) (I64 (x4_0 - 1))) == 0) : Bool)).bind fun y23 => (if y23 = true then (words_Inc.l0 k a0 (x3_0.set (I64 (x4_0 - 1) : Int).toNat (U8 ((rd x3_0 (I64 (x4_0 - 1))) + 1))) (I64 (x4_0 - 1))) else (some (x3_0.set (I64 (x4_0 - 1) : Int).toNat (U8 ((rd x3_0 (I64 (x4_0 - 1))) + 1)))))) else (none)) else (none)) else (none)) else (none)) else (none)) else (none)) else (some x3_0)
def words_Inc.f (k : Nat) (a0 : List Int) : Option (List Int) := if (decide (0 ≤ (a0.length : Int))) = true then (if (decide ((a0.length : Int) ≤ 1000000000)) = true then (if (decide ((List.replicate 0 0).length + a0.length ≤ 1000000000)) = true then (words_Inc.l0 k a0 ((List.replicate 0 0) ++ a0) (((List.replicate 0 0) ++ a0).length : Int)) else (none)) else (none)) else (none)
set_option maxRecDepth 100000 in
theorem words_Inc.calls (k : Nat) (Ap0 : Option Addr) (np0 cp0 : Nat) (a0 : List Int) (r : List Int) (w : World) (hr0 : Rd w (.slice Ap0 np0 cp0) (nums .u8 a0)) (h : words_Inc.f k a0 = some r) :
    Calls Go.Proofs.Try.prog 16 #[(.slice Ap0 np0 cp0)] w (Ret fun v w' => ∃ A0' n0' c0', v = .slice A0' n0' c0' ∧ Mem w w' [⟨.slice A0' n0' c0', 5, 1, nums .u8 r⟩]) := by
  obtain rfl : a0.length = np0 := by have h_ := hr0.1; simpa [nums_length, bools_length] using h_
  unfold words_Inc.f at h
  refine calls_of [.slice Ap0 a0.length cp0] (fn := Go.Proofs.Try.f16) Go.Proofs.Try.func16 (by kernel_rfl) (by kernel_rfl) ?_
  have hM := Mem.refl w
  refine RunF.go 9 [0, 6] (k' := (pin Go.Proofs.Try.f16 [1, 0, 0] 2)) (L' := [(0, .slice Ap0 a0.length cp0), (6, .int .i64 (a0.length : Int))]) (w' := w) (by kernel_rfl) ?_
  rcases two (decide (0 ≤ (a0.length : Int))) with c3 | c3
  · replace h := of_true h c3
    rcases two (decide ((a0.length : Int) ≤ 1000000000)) with c4 | c4
    · replace h := of_true h c4
      have := of_decide_eq_true c3
      have := of_decide_eq_true c4
      obtain ⟨W1, hD, hM', hB_⟩ := mk_does (P := Go.Proofs.Try.prog) (n := 28) (k := (pin Go.Proofs.Try.f16 [1, 0, 0] 2)) (L := [(0, .slice Ap0 a0.length cp0), (6, .int .i64 (a0.length : Int))]) (d := some 7) (e := 5) (z := .int .u8 0) (l := 0) (c := (a0.length : Int)) (k2 := (pin Go.Proofs.Try.f16 [1, 0, 0] 3)) (by kernel_rfl) (by omega) (by omega) (by omega) hM
      rw [rep_nums] at hM'
      refine RunF.does hD ?_
      replace hM := hM'; clear hD hM'
      generalize w.heap.size = g2 at hM ⊢
      refine RunF.go 1 [7, 8] (k' := (pin Go.Proofs.Try.f16 [1, 0, 0] 4)) (L' := [(7, .slice (some ⟨g2, 0, none⟩) 0 (((a0.length : Int) : Int).toNat)), (8, .slice Ap0 a0.length cp0)]) (w' := W1) (by kernel_rfl) ?_
      rcases two (decide ((List.replicate 0 0).length + a0.length ≤ 1000000000)) with c10 | c10
      · replace h := of_true h c10
        have h_ := of_decide_eq_true c10
        obtain ⟨A6, n7, c8, W9, hD, hM', hS_⟩ := app_does (P := Go.Proofs.Try.prog) (n := 28) (k := (pin Go.Proofs.Try.f16 [1, 0, 0] 4)) (L := [(7, .slice (some ⟨g2, 0, none⟩) 0 (((a0.length : Int) : Int).toNat)), (8, .slice Ap0 a0.length cp0)]) (d := some 9) (e := 5) (A := (some ⟨g2, 0, none⟩)) (m := 0) (c := ((a0.length : Int) : Int).toNat) (A2 := Ap0) (m2 := a0.length) (c2 := cp0) (cs := nums .u8 (List.replicate 0 0)) (ys := nums .u8 a0) (k2 := (pin Go.Proofs.Try.f16 [1, 0, 0] 5)) [] [] (by kernel_rfl) (hM.pick [0] rfl rfl) (hr0.mono hM.below) (one_nums _ _) (by omega)
        rw [nums_append] at hM'
        replace hM := hM'; clear h_ hM'
        obtain rfl : ((List.replicate 0 0) ++ a0).length = n7 := by have h_ := (hM.rd 0 rfl).1; simpa only [nums_length, bools_length] using h_
        refine RunF.does hD ?_
        clear hD hS_
        refine RunF.go 10 [3, 4] (k' := (pl Go.Proofs.Try.f16 [1, 0, 1, 1, 1])) (L' := [(3, .slice A6 (((List.replicate 0 0) ++ a0).length) c8), (4, .int .i64 (((List.replicate 0 0) ++ a0).length : Int))]) (w' := W9) (by kernel_rfl) ?_
        have l0 : ∀ (k_ : Nat), k_ ≤ k → ∀ (x3_0 : List Int) (x4_0 : Int) (W : World) (hM : Mem w W [⟨.slice A6 (((List.replicate 0 0) ++ a0).length) c8, 5, 1, nums .u8 x3_0⟩]) (h : words_Inc.l0 k_ a0 x3_0 x4_0 = some r), RunF Go.Proofs.Try.prog (Ret fun v w' => ∃ A0' n0' c0', v = .slice A0' n0' c0' ∧ Mem w w' [⟨.slice A0' n0' c0', 5, 1, nums .u8 r⟩]) 16 (pl Go.Proofs.Try.f16 [1, 0, 1, 1, 1]) 28 [(3, .slice A6 (((List.replicate 0 0) ++ a0).length) c8), (4, .int .i64 x4_0)] W := by
          intro k_
          induction k_ using Nat.strongRecOn with
          | _ k_ ih0 =>
            intro hk x3_0 x4_0 W hM h
            cases k_ with
            | zero => exact absurd h (by simp [words_Inc.l0])
            | succ k =>
              simp only [words_Inc.l0] at h
              replace ih0 : ∀ m, m ≤ k → _ := fun m hm => ih0 m (by omega) (by omega)
              refine RunF.go 6 [3, 4, 13] (k' := (pl Go.Proofs.Try.f16 [1, 0, 1, 1, 1, 0, 1])) (L' := [(3, .slice A6 (((List.replicate 0 0) ++ a0).length) c8), (4, .int .i64 x4_0), (13, .bool (decide (x4_0 > 0)))]) (w' := W) (by kernel_rfl) ?_
              rcases two (decide (x4_0 > 0)) with c12 | c12
              · replace h := of_true h c12
                refine RunF.know 13 (b := true) (by kernel_rfl) c12 ?_
                refine RunF.go 11 [3, 4, 16, 17] (k' := (pin Go.Proofs.Try.f16 [1, 0, 1, 1, 1, 0, 1, 0, 1, 0] 2)) (L' := [(3, .slice A6 (((List.replicate 0 0) ++ a0).length) c8), (4, .int .i64 (I64 (x4_0 - 1))), (16, .slice A6 (((List.replicate 0 0) ++ a0).length) c8), (17, .int .i64 (I64 (x4_0 - 1)))]) (w' := W) (by kernel_rfl) ?_
                rcases two (decide (0 ≤ (I64 (x4_0 - 1)))) with c14 | c14
                · replace h := of_true h c14
                  rcases two (decide ((I64 (x4_0 - 1)) < (((List.replicate 0 0) ++ a0).length : Int))) with c15 | c15
                  · replace h := of_true h c15
                    obtain ⟨q13, hAq13, hcq13, hfq13, hlq13⟩ := hM.num_at 0 rfl (i := I64 (x4_0 - 1)) (of_decide_eq_true c14) (by have h_ := of_decide_eq_true c15; omega)
                    refine RunF.y (idx_own (d := some 18) (A := A6) (m := ((List.replicate 0 0) ++ a0).length) (i := I64 (x4_0 - 1)) (k2 := (pin Go.Proofs.Try.f16 [1, 0, 1, 1, 1, 0, 1, 0, 1, 0] 3)) (by kernel_rfl) (of_decide_eq_true c14) (by have h_ := of_decide_eq_true c15; omega) hAq13) trivial ?_
                    refine RunF.y (ld_y (d := some 19) (p := ⟨q13, (I64 (x4_0 - 1) : Int).toNat, none⟩) (k2 := (pin Go.Proofs.Try.f16 [1, 0, 1, 1, 1, 0, 1, 0, 1, 0] 4)) (.int .u8 (rd x3_0 (I64 (x4_0 - 1)))) (by kernel_rfl)) hcq13 ?_
                    refine RunF.go 1 [3, 4, 16, 17, 20] (k' := (pin Go.Proofs.Try.f16 [1, 0, 1, 1, 1, 0, 1, 0, 1, 0] 5)) (L' := [(3, .slice A6 (((List.replicate 0 0) ++ a0).length) c8), (4, .int .i64 (I64 (x4_0 - 1))), (16, .slice A6 (((List.replicate 0 0) ++ a0).length) c8), (17, .int .i64 (I64 (x4_0 - 1))), (20, .int .u8 (U8 ((rd x3_0 (I64 (x4_0 - 1))) + 1)))]) (w' := W) (by kernel_rfl) ?_
                    rcases two (decide (0 ≤ (I64 (x4_0 - 1)))) with c17 | c17
                    · replace h := of_true h c17
                      rcases two (decide ((I64 (x4_0 - 1)) < (((List.replicate 0 0) ++ a0).length : Int))) with c18 | c18
                      · replace h := of_true h c18
                        obtain ⟨q16, hAq16, hcq16, hfq16, hlq16⟩ := hM.num_at 0 rfl (i := I64 (x4_0 - 1)) (of_decide_eq_true c17) (by have h_ := of_decide_eq_true c18; omega)
                        refine RunF.y (idx_own (d := some 21) (A := A6) (m := ((List.replicate 0 0) ++ a0).length) (i := I64 (x4_0 - 1)) (k2 := (pin Go.Proofs.Try.f16 [1, 0, 1, 1, 1, 0, 1, 0, 1, 0] 6)) (by kernel_rfl) (of_decide_eq_true c17) (by have h_ := of_decide_eq_true c18; omega) hAq16) trivial ?_
                        obtain ⟨g_, hA_, hc_, hf_, hl_⟩ := hM.num_at 0 rfl (i := I64 (x4_0 - 1)) (of_decide_eq_true c17) (by have h_ := of_decide_eq_true c18; omega)
                        obtain rfl : q16 = g_ := by rw [hAq16] at hA_; injection hA_ with hA_; injection hA_
                        refine RunF.doesU (st_u (p := (⟨q16, (I64 (x4_0 - 1) : Int).toNat, none⟩ : Addr)) (v := .int .u8 (U8 ((rd x3_0 (I64 (x4_0 - 1))) + 1))) (k2 := (pin Go.Proofs.Try.f16 [1, 0, 1, 1, 1, 0, 1, 0, 1, 0] 7)) (by kernel_rfl) hc_ hf_) ?_
                        replace hM : Mem w (W.setCell (⟨q16, (I64 (x4_0 - 1) : Int).toNat, none⟩ : Addr) (.int .u8 (U8 ((rd x3_0 (I64 (x4_0 - 1))) + 1)))) [⟨.slice A6 (((List.replicate 0 0) ++ a0).length) c8, 5, 1, nums .u8 (x3_0.set (I64 (x4_0 - 1) : Int).toNat (U8 ((rd x3_0 (I64 (x4_0 - 1))) + 1)))⟩] := Mem.put_num [] [] (hM.pick [0] rfl rfl) hAq16 _ hl_ _
                        generalize W.setCell (⟨q16, (I64 (x4_0 - 1) : Int).toNat, none⟩ : Addr) (.int .u8 (U8 ((rd x3_0 (I64 (x4_0 - 1))) + 1))) = W19 at hM ⊢
                        clear hc_ hf_ hl_ hA_ hcq16
                        refine RunF.go 5 [3, 4, 22, 23] (k' := (pin Go.Proofs.Try.f16 [1, 0, 1, 1, 1, 0, 1, 0, 1, 1, 0] 2)) (L' := [(3, .slice A6 (((List.replicate 0 0) ++ a0).length) c8), (4, .int .i64 (I64 (x4_0 - 1))), (22, .slice A6 (((List.replicate 0 0) ++ a0).length) c8), (23, .int .i64 (I64 (x4_0 - 1)))]) (w' := W19) (by kernel_rfl) ?_
                        rcases two (decide (0 ≤ (I64 (x4_0 - 1)))) with c21 | c21
                        · replace h := of_true h c21
                          rcases two (decide ((I64 (x4_0 - 1)) < (((List.replicate 0 0) ++ a0).length : Int))) with c22 | c22
                          · replace h := of_true h c22
                            obtain ⟨q20, hAq20, hcq20, hfq20, hlq20⟩ := hM.num_at 0 rfl (i := I64 (x4_0 - 1)) (of_decide_eq_true c21) (by have h_ := of_decide_eq_true c22; omega)
                            refine RunF.y (idx_own (d := some 24) (A := A6) (m := ((List.replicate 0 0) ++ a0).length) (i := I64 (x4_0 - 1)) (k2 := (pin Go.Proofs.Try.f16 [1, 0, 1, 1, 1, 0, 1, 0, 1, 1, 0] 3)) (by kernel_rfl) (of_decide_eq_true c21) (by have h_ := of_decide_eq_true c22; omega) hAq20) trivial ?_
                            refine RunF.y (ld_y (d := some 25) (p := ⟨q20, (I64 (x4_0 - 1) : Int).toNat, none⟩) (k2 := (pin Go.Proofs.Try.f16 [1, 0, 1, 1, 1, 0, 1, 0, 1, 1, 0] 4)) (.int .u8 (rd (x3_0.set (I64 (x4_0 - 1) : Int).toNat (U8 ((rd x3_0 (I64 (x4_0 - 1))) + 1))) (I64 (x4_0 - 1)))) (by kernel_rfl)) hcq20 ?_
                            refine RunF.go 2 [3, 4, 26] (k' := (pl Go.Proofs.Try.f16 [1, 0, 1, 1, 1, 0, 1, 0, 1, 1, 1])) (L' := [(3, .slice A6 (((List.replicate 0 0) ++ a0).length) c8), (4, .int .i64 (I64 (x4_0 - 1))), (26, .bool ((rd (x3_0.set (I64 (x4_0 - 1) : Int).toNat (U8 ((rd x3_0 (I64 (x4_0 - 1))) + 1))) (I64 (x4_0 - 1))) == 0))]) (w' := W19) (by kernel_rfl) ?_
                            obtain ⟨y23, hy, h⟩ := Option.bind_eq_some_iff.mp h
                            rw [show (((rd (x3_0.set (I64 (x4_0 - 1) : Int).toNat (U8 ((rd x3_0 (I64 (x4_0 - 1))) + 1))) (I64 (x4_0 - 1))) == 0)) = y23 from Option.some.inj hy]
                            clear hy
                            rcases two (y23) with c24 | c24
                            · replace h := of_true h c24
                              refine RunF.know 26 (b := true) (by kernel_rfl) c24 ?_
                              refine RunF.go 4 [3, 4] (k' := (pl Go.Proofs.Try.f16 [1, 0, 1, 1, 1])) (L' := [(3, .slice A6 (((List.replicate 0 0) ++ a0).length) c8), (4, .int .i64 (I64 (x4_0 - 1)))]) (w' := W19) (by kernel_rfl) ?_
                              exact ih0 k (by omega) (x3_0.set (I64 (x4_0 - 1) : Int).toNat (U8 ((rd x3_0 (I64 (x4_0 - 1))) + 1))) (I64 (x4_0 - 1)) _ (hM.pick [0] rfl rfl) h
                            · replace h := of_false h c24
                              refine RunF.know 26 (b := false) (by kernel_rfl) c24 ?_
                              refine RunF.go 7 [2] (k' := (pl Go.Proofs.Try.f16 [1, 0, 1, 1, 1, 1, 1])) (L' := [(2, .slice A6 (((List.replicate 0 0) ++ a0).length) c8)]) (w' := W19) (by kernel_rfl) ?_
                              obtain rfl := Option.some.inj h
                              exact RunF.ret1 2 (.slice A6 (((List.replicate 0 0) ++ a0).length) c8) (fn := Go.Proofs.Try.f16) Go.Proofs.Try.func16 (by kernel_rfl) (by kernel_rfl) (by kernel_rfl) ⟨_, rfl, A6, ((List.replicate 0 0) ++ a0).length, c8, rfl, (hM.pick [0] rfl rfl)⟩
                          · replace h := of_false h c22
                            cases h
                        · replace h := of_false h c21
                          cases h
                      · replace h := of_false h c18
                        cases h
                    · replace h := of_false h c17
                      cases h
                  · replace h := of_false h c15
                    cases h
                · replace h := of_false h c14
                  cases h
              · replace h := of_false h c12
                refine RunF.know 13 (b := false) (by kernel_rfl) c12 ?_
                refine RunF.go 7 [2] (k' := (pl Go.Proofs.Try.f16 [1, 0, 1, 1, 1, 1, 1])) (L' := [(2, .slice A6 (((List.replicate 0 0) ++ a0).length) c8)]) (w' := W) (by kernel_rfl) ?_
                obtain rfl := Option.some.inj h
                exact RunF.ret1 2 (.slice A6 (((List.replicate 0 0) ++ a0).length) c8) (fn := Go.Proofs.Try.f16) Go.Proofs.Try.func16 (by kernel_rfl) (by kernel_rfl) (by kernel_rfl) ⟨_, rfl, A6, ((List.replicate 0 0) ++ a0).length, c8, rfl, (hM.pick [0] rfl rfl)⟩
        exact l0 k (Nat.le_refl _) ((List.replicate 0 0) ++ a0) (((List.replicate 0 0) ++ a0).length : Int) _ (hM.pick [0] rfl rfl) h
      · replace h := of_false h c10
        cases h
    · replace h := of_false h c4
      cases h
  · replace h := of_false h c3
    cases h

/-! ### scrim/words.load: function 38 -/
def words_load.l0 : Nat → (List Int) → Int → Int → Option (Int)
  | 0, _, _, _ => none
  | k + 1, a0, x3_0, x4_0 => if (decide (x4_0 < (a0.length : Int))) = true then (if (decide (0 ≤ x4_0)) = true then (if (decide (x4_0 < (a0.length : Int))) = true then ((some (bor .u64 (shl .u64 x3_0 8) (U64 (rd a0 x4_0)) : Int)).bind fun y5 => (words_load.l0 k a0 y5 (I64 (x4_0 + 1)))) else (none)) else (none)) else (some x3_0)
def words_load.f (k : Nat) (a0 : List Int) : Option (Int) := words_load.l0 k a0 0 0
set_option maxRecDepth 100000 in
theorem words_load.calls (k : Nat) (Ap0 : Option Addr) (np0 cp0 : Nat) (a0 : List Int) (r : Int) (w : World) (hr0 : Rd w (.slice Ap0 np0 cp0) (nums .u8 a0)) (h : words_load.f k a0 = some r) :
    Calls Go.Proofs.Try.prog 38 #[(.slice Ap0 np0 cp0)] w (Ret fun v w' => v = .int .u64 r ∧ Mem w w' []) := by
  obtain rfl : a0.length = np0 := by have h_ := hr0.1; simpa [nums_length, bools_length] using h_
  unfold words_load.f at h
  refine calls_of [.slice Ap0 a0.length cp0] (fn := Go.Proofs.Try.f38) Go.Proofs.Try.func38 (by kernel_rfl) (by kernel_rfl) ?_
  have hM := Mem.refl w
  refine RunF.go 12 [0, 3, 4] (k' := (pl Go.Proofs.Try.f38 [1, 0, 1, 1])) (L' := [(0, .slice Ap0 a0.length cp0), (3, .int .u64 0), (4, .int .i64 0)]) (w' := w) (by kernel_rfl) ?_
  have l0 : ∀ (k_ : Nat), k_ ≤ k → ∀ (x3_0 : Int) (x4_0 : Int) (W : World) (hM : Mem w W []) (h : words_load.l0 k_ a0 x3_0 x4_0 = some r), RunF Go.Proofs.Try.prog (Ret fun v w' => v = .int .u64 r ∧ Mem w w' []) 38 (pl Go.Proofs.Try.f38 [1, 0, 1, 1]) 20 [(0, .slice Ap0 a0.length cp0), (3, .int .u64 x3_0), (4, .int .i64 x4_0)] W := by
    intro k_
    induction k_ using Nat.strongRecOn with
    | _ k_ ih0 =>
      intro hk x3_0 x4_0 W hM h
      cases k_ with
      | zero => exact absurd h (by simp [words_load.l0])
      | succ k =>
        simp only [words_load.l0] at h
        replace ih0 : ∀ m, m ≤ k → _ := fun m hm => ih0 m (by omega) (by omega)
        refine RunF.go 8 [0, 3, 4, 8] (k' := (pl Go.Proofs.Try.f38 [1, 0, 1, 1, 0, 1])) (L' := [(0, .slice Ap0 a0.length cp0), (3, .int .u64 x3_0), (4, .int .i64 x4_0), (8, .bool (decide (x4_0 < (a0.length : Int))))]) (w' := W) (by kernel_rfl) ?_
        rcases two (decide (x4_0 < (a0.length : Int))) with c1 | c1
        · replace h := of_true h c1
          refine RunF.know 8 (b := true) (by kernel_rfl) c1 ?_
          refine RunF.go 7 [0, 4, 10, 11, 12] (k' := (pin Go.Proofs.Try.f38 [1, 0, 1, 1, 0, 1, 0, 0] 4)) (L' := [(0, .slice Ap0 a0.length cp0), (4, .int .i64 x4_0), (10, .int .u64 (shl .u64 x3_0 8)), (11, .slice Ap0 a0.length cp0), (12, .int .i64 x4_0)]) (w' := W) (by kernel_rfl) ?_
          rcases two (decide (0 ≤ x4_0)) with c3 | c3
          · replace h := of_true h c3
            rcases two (decide (x4_0 < (a0.length : Int))) with c4 | c4
            · replace h := of_true h c4
              obtain ⟨q2, hAq2, hcq2⟩ := Rd.num (hr0.mono hM.below) (i := x4_0) (of_decide_eq_true c3) (by have h_ := of_decide_eq_true c4; omega)
              refine RunF.y (idx_y (d := some 13) (A := Ap0) (m := a0.length) (i := x4_0) (k2 := (pin Go.Proofs.Try.f38 [1, 0, 1, 1, 0, 1, 0, 0] 5)) (by kernel_rfl) (of_decide_eq_true c3) (by have h_ := of_decide_eq_true c4; omega) hAq2) trivial ?_
              refine RunF.y (ld_y (d := some 14) (p := (q2.add (x4_0 : Int).toNat)) (k2 := (pin Go.Proofs.Try.f38 [1, 0, 1, 1, 0, 1, 0, 0] 6)) (.int .u8 (rd a0 x4_0)) (by kernel_rfl)) hcq2 ?_
              refine RunF.go 13 [0, 3, 4] (k' := (pl Go.Proofs.Try.f38 [1, 0, 1, 1])) (L' := [(0, .slice Ap0 a0.length cp0), (3, .int .u64 (bor .u64 (shl .u64 x3_0 8) (U64 (rd a0 x4_0)))), (4, .int .i64 (I64 (x4_0 + 1)))]) (w' := W) (by kernel_rfl) ?_
              obtain ⟨y5, hy, h⟩ := Option.bind_eq_some_iff.mp h
              rw [show (bor .u64 (shl .u64 x3_0 8) (U64 (rd a0 x4_0))) = y5 from Option.some.inj hy]
              clear hy
              exact ih0 k (by omega) y5 (I64 (x4_0 + 1)) _ (hM.pick [] rfl rfl) h
            · replace h := of_false h c4
              cases h
          · replace h := of_false h c3
            cases h
        · replace h := of_false h c1
          refine RunF.know 8 (b := false) (by kernel_rfl) c1 ?_
          refine RunF.go 7 [2] (k' := (pl Go.Proofs.Try.f38 [1, 0, 1, 1, 1, 1])) (L' := [(2, .int .u64 x3_0)]) (w' := W) (by kernel_rfl) ?_
          obtain rfl := Option.some.inj h
          exact RunF.ret1 2 (.int .u64 x3_0) (fn := Go.Proofs.Try.f38) Go.Proofs.Try.func38 (by kernel_rfl) (by kernel_rfl) (by kernel_rfl) ⟨_, rfl, rfl, (hM.pick [] rfl rfl)⟩
  exact l0 k (Nat.le_refl _) 0 0 _ (hM.pick [] rfl rfl) h

/-! ### scrim/words.Be32: function 18 -/
def words_Be32.f (k : Nat) (a0 : List Int) : Option (Int × Bool) := if ((a0.length : Int) != 4) = true then (some (0, false)) else ((words_load.f k a0).bind fun t2 => (some (U32 (t2), true)))
set_option maxRecDepth 100000 in
theorem words_Be32.calls (k : Nat) (Ap0 : Option Addr) (np0 cp0 : Nat) (a0 : List Int) (r : Int × Bool) (w : World) (hr0 : Rd w (.slice Ap0 np0 cp0) (nums .u8 a0)) (h : words_Be32.f k a0 = some r) :
    Calls Go.Proofs.Try.prog 18 #[(.slice Ap0 np0 cp0)] w (Ret fun v w' => v = .tuple #[.int .u32 r.1, .bool r.2] ∧ Mem w w' []) := by
  obtain rfl : a0.length = np0 := by have h_ := hr0.1; simpa [nums_length, bools_length] using h_
  unfold words_Be32.f at h
  refine calls_of [.slice Ap0 a0.length cp0] (fn := Go.Proofs.Try.f18) Go.Proofs.Try.func18 (by kernel_rfl) (by kernel_rfl) ?_
  have hM := Mem.refl w
  refine RunF.go 12 [0, 6] (k' := (pl Go.Proofs.Try.f18 [1, 0, 1])) (L' := [(0, .slice Ap0 a0.length cp0), (6, .bool ((a0.length : Int) != 4))]) (w' := w) (by kernel_rfl) ?_
  rcases two (((a0.length : Int) != 4)) with c1 | c1
  · replace h := of_true h c1
    refine RunF.know 6 (b := true) (by kernel_rfl) c1 ?_
    refine RunF.go 6 [2, 3] (k' := (pl Go.Proofs.Try.f18 [1, 0, 1, 0, 1])) (L' := [(2, .int .u32 0), (3, .bool false)]) (w' := w) (by kernel_rfl) ?_
    obtain rfl := Option.some.inj h
    exact RunF.ret2 2 3 (.int .u32 0) (.bool false) (fn := Go.Proofs.Try.f18) Go.Proofs.Try.func18 (by kernel_rfl) (by kernel_rfl) (by kernel_rfl) (by kernel_rfl) ⟨_, rfl, rfl, (hM.pick [] rfl rfl)⟩
  · replace h := of_false h c1
    refine RunF.know 6 (b := false) (by kernel_rfl) c1 ?_
    refine RunF.go 5 [7] (k' := (pin Go.Proofs.Try.f18 [1, 1, 0] 1)) (L' := [(7, .slice Ap0 a0.length cp0)]) (w' := w) (by kernel_rfl) ?_
    obtain ⟨t2, ht2, h⟩ := Option.bind_eq_some_iff.mp h
    refine RunF.call (d := some 8) (g := 38) (args := #[.slice Ap0 a0.length cp0]) (k2 := (pin Go.Proofs.Try.f18 [1, 1, 0] 2)) (by kernel_rfl) (words_load.calls k Ap0 a0.length cp0 a0 t2 _ (hr0.mono hM.below) ht2) ?_
    rintro _ W3 ⟨rfl, hM_⟩
    replace hM := hM.call hM_
    clear hM_ ht2
    refine RunF.go 4 [2, 3] (k' := (pl Go.Proofs.Try.f18 [1, 1, 1])) (L' := [(2, .int .u32 (U32 (t2))), (3, .bool true)]) (w' := W3) (by kernel_rfl) ?_
    obtain rfl := Option.some.inj h
    exact RunF.ret2 2 3 (.int .u32 (U32 (t2))) (.bool true) (fn := Go.Proofs.Try.f18) Go.Proofs.Try.func18 (by kernel_rfl) (by kernel_rfl) (by kernel_rfl) (by kernel_rfl) ⟨_, rfl, rfl, (hM.pick [] rfl rfl)⟩

/-! ### scrim/words.rest: function 43 -/
def words_rest.f (k : Nat) (a0 : Int) (a1 : Int) : Option (Int) := if (decide (a1 = 0)) = true then (none) else (if (decide (a1 = 0)) = true then (none) else (some (Int.tmod (I64 ((Int.tmod a0 a1) + a1)) a1)))
set_option maxRecDepth 100000 in
theorem words_rest.calls (k : Nat) (a0 : Int) (a1 : Int) (r : Int) (w : World) (h : words_rest.f k a0 a1 = some r) :
    Calls Go.Proofs.Try.prog 43 #[.int .i64 a0, .int .i64 a1] w (Ret fun v w' => v = .int .i64 r ∧ Mem w w' []) := by
  unfold words_rest.f at h
  refine calls_of [.int .i64 a0, .int .i64 a1] (fn := Go.Proofs.Try.f43) Go.Proofs.Try.func43 (by kernel_rfl) (by kernel_rfl) ?_
  have hM := Mem.refl w
  refine RunF.go 8 [1, 5, 6] (k' := (pin Go.Proofs.Try.f43 [1, 0] 2)) (L' := [(1, .int .i64 a1), (5, .int .i64 a0), (6, .int .i64 a1)]) (w' := w) (by kernel_rfl) ?_
  rcases two (decide (a1 = 0)) with c1 | c1
  · replace h := of_true h c1
    cases h
  · replace h := of_false h c1
    refine RunF.y (div_y (d := some 7) (b := false) (kd := .i64) (x := a0) (y := a1) (k2 := (pin Go.Proofs.Try.f43 [1, 0] 3)) (by kernel_rfl) c1) trivial ?_
    refine RunF.go 3 [9, 10] (k' := (pin Go.Proofs.Try.f43 [1, 0] 6)) (L' := [(9, .int .i64 (I64 ((Int.tmod a0 a1) + a1))), (10, .int .i64 a1)]) (w' := w) (by kernel_rfl) ?_
    rcases two (decide (a1 = 0)) with c2 | c2
    · replace h := of_true h c2
      cases h
    · replace h := of_false h c2
      refine RunF.y (div_y (d := some 11) (b := false) (kd := .i64) (x := I64 ((Int.tmod a0 a1) + a1)) (y := a1) (k2 := (pin Go.Proofs.Try.f43 [1, 0] 7)) (by kernel_rfl) c2) trivial ?_
      refine RunF.go 2 [4] (k' := (pl Go.Proofs.Try.f43 [1, 1])) (L' := [(4, .int .i64 (Int.tmod (I64 ((Int.tmod a0 a1) + a1)) a1))]) (w' := w) (by kernel_rfl) ?_
      obtain rfl := Option.some.inj h
      exact RunF.ret1 4 (.int .i64 (Int.tmod (I64 ((Int.tmod a0 a1) + a1)) a1)) (fn := Go.Proofs.Try.f43) Go.Proofs.Try.func43 (by kernel_rfl) (by kernel_rfl) (by kernel_rfl) ⟨_, rfl, rfl, (hM.pick [] rfl rfl)⟩

/-! ### scrim/words.Rol8: function 28 -/
def words_Rol8.f (k : Nat) (a0 : Int) (a1 : Int) : Option (Int) := (words_rest.f k a1 8).bind fun t1 => (if (decide (0 ≤ (U64 (t1)))) = true then (if (decide (0 ≤ (U64 (8 - (U64 (t1)))))) = true then (some (bor .u8 (shlv .u8 a0 (U64 (t1))) (shrv .u8 a0 (U64 (8 - (U64 (t1))))))) else (none)) else (none))
set_option maxRecDepth 100000 in
theorem words_Rol8.calls (k : Nat) (a0 : Int) (a1 : Int) (r : Int) (w : World) (h : words_Rol8.f k a0 a1 = some r) :
    Calls Go.Proofs.Try.prog 28 #[.int .u8 a0, .int .i64 a1] w (Ret fun v w' => v = .int .u8 r ∧ Mem w w' []) := by
  unfold words_Rol8.f at h
  refine calls_of [.int .u8 a0, .int .i64 a1] (fn := Go.Proofs.Try.f28) Go.Proofs.Try.func28 (by kernel_rfl) (by kernel_rfl) ?_
  have hM := Mem.refl w
  refine RunF.go 7 [0, 6] (k' := (pin Go.Proofs.Try.f28 [1, 0] 1)) (L' := [(0, .int .u8 a0), (6, .int .i64 a1)]) (w' := w) (by kernel_rfl) ?_
  obtain ⟨t1, ht1, h⟩ := Option.bind_eq_some_iff.mp h
  refine RunF.call (d := some 7) (g := 43) (args := #[.int .i64 a1, .int .i64 8]) (k2 := (pin Go.Proofs.Try.f28 [1, 0] 2)) (by kernel_rfl) (words_rest.calls k a1 8 t1 _ ht1) ?_
  rintro _ W2 ⟨rfl, hM_⟩
  replace hM := hM.call hM_
  clear hM_ ht1
  refine RunF.go 7 [0, 5, 9, 10] (k' := (pin Go.Proofs.Try.f28 [1, 1, 0] 2)) (L' := [(0, .int .u8 a0), (5, .int .u64 (U64 (t1))), (9, .int .u8 a0), (10, .int .u64 (U64 (t1)))]) (w' := W2) (by kernel_rfl) ?_
  rcases two (decide (0 ≤ (U64 (t1)))) with c3 | c3
  · replace h := of_true h c3
    refine RunF.y (sh_y (d := some 11) (b := true) (kd := .u8) (x := a0) (y := U64 (t1)) (k2 := (pin Go.Proofs.Try.f28 [1, 1, 0] 3)) (by kernel_rfl) c3) trivial ?_
    refine RunF.go 3 [11, 12, 14] (k' := (pin Go.Proofs.Try.f28 [1, 1, 0] 6)) (L' := [(11, .int .u8 (shlv .u8 a0 (U64 (t1)))), (12, .int .u8 a0), (14, .int .u64 (U64 (8 - (U64 (t1)))))]) (w' := W2) (by kernel_rfl) ?_
    rcases two (decide (0 ≤ (U64 (8 - (U64 (t1)))))) with c4 | c4
    · replace h := of_true h c4
      refine RunF.y (sh_y (d := some 15) (b := false) (kd := .u8) (x := a0) (y := U64 (8 - (U64 (t1)))) (k2 := (pin Go.Proofs.Try.f28 [1, 1, 0] 7)) (by kernel_rfl) c4) trivial ?_
      refine RunF.go 3 [4] (k' := (pl Go.Proofs.Try.f28 [1, 1, 1])) (L' := [(4, .int .u8 (bor .u8 (shlv .u8 a0 (U64 (t1))) (shrv .u8 a0 (U64 (8 - (U64 (t1)))))))]) (w' := W2) (by kernel_rfl) ?_
      obtain rfl := Option.some.inj h
      exact RunF.ret1 4 (.int .u8 (bor .u8 (shlv .u8 a0 (U64 (t1))) (shrv .u8 a0 (U64 (8 - (U64 (t1))))))) (fn := Go.Proofs.Try.f28) Go.Proofs.Try.func28 (by kernel_rfl) (by kernel_rfl) (by kernel_rfl) ⟨_, rfl, rfl, (hM.pick [] rfl rfl)⟩
    · replace h := of_false h c4
      cases h
  · replace h := of_false h c3
    cases h

/-! ### scrim/scrimlaw1.known: function 14 -/
def scrimlaw1_known.f (k : Nat)  : Option (Bool) := (words_Inc.f k ([0, 255] : List Int)).bind fun t4 => ((words_Be32.f k ([1, 2, 3, 4] : List Int)).bind fun t13 => ((some (((strOf t4).toList == (⟨#[1, 0]⟩ : ByteArray).toList) : Bool)).bind fun y15 => (if y15 = true then (if t13.2 = true then (if (t13.1 == 16909060) = true then ((words_Rol8.f k 129 1).bind fun t19 => (some (t19 == 3))) else (some false)) else (some false)) else (some false))))
set_option maxRecDepth 100000 in
theorem scrimlaw1_known.calls (k : Nat)  (r : Bool) (w : World) (h : scrimlaw1_known.f k = some r) :
    Calls Go.Proofs.Try.prog 14 #[] w (Ret fun v w' => v = .bool r ∧ Mem w w' []) := by
  unfold scrimlaw1_known.f at h
  refine calls_of [] (fn := Go.Proofs.Try.f14) Go.Proofs.Try.func14 (by kernel_rfl) (by kernel_rfl) ?_
  have hM := Mem.refl w
  refine RunF.go 6 [] (k' := (pin Go.Proofs.Try.f14 [1, 0] 0)) (L' := []) (w' := w) (by kernel_rfl) ?_
  refine RunF.new 5 1 2 (nums .u8 [0, 255]) (d := some 4) (k2 := (pin Go.Proofs.Try.f14 [1, 0] 1)) hM (by simp [nums, bools]) (by kernel_rfl) (by kernel_rfl) ?_
  replace hM := hM
  intro g1 W2 hM
  obtain ⟨t4, ht4, h⟩ := Option.bind_eq_some_iff.mp h
  refine RunF.call (d := some 5) (g := 16) (args := #[.slice (some ⟨g1, 0, none⟩) 2 2]) (k2 := (pin Go.Proofs.Try.f14 [1, 0] 2)) (by kernel_rfl) (words_Inc.calls k (some ⟨g1, 0, none⟩) 2 2 ([0, 255] : List Int) t4 _ (hM.rd 0 rfl) ht4) ?_
  rintro _ W5 ⟨A6, n7, c8, rfl, hM_⟩
  obtain rfl : t4.length = n7 := by have h_ := (hM_.rd 0 rfl).1; simpa [nums_length, bools_length] using h_
  replace hM := hM.call hM_
  clear hM_ ht4
  refine RunF.go 4 [1] (k' := (pin Go.Proofs.Try.f14 [1, 1, 0] 0)) (L' := [(1, .slice A6 t4.length c8)]) (w' := W5) (by kernel_rfl) ?_
  refine RunF.new 5 1 4 (nums .u8 [1, 2, 3, 4]) (d := some 7) (k2 := (pin Go.Proofs.Try.f14 [1, 1, 0] 1)) hM (by simp [nums, bools]) (by kernel_rfl) (by kernel_rfl) ?_
  replace hM := hM
  intro g10 W11 hM
  obtain ⟨t13, ht13, h⟩ := Option.bind_eq_some_iff.mp h
  refine RunF.call (d := some 8) (g := 18) (args := #[.slice (some ⟨g10, 0, none⟩) 4 4]) (k2 := (pin Go.Proofs.Try.f14 [1, 1, 0] 2)) (by kernel_rfl) (words_Be32.calls k (some ⟨g10, 0, none⟩) 4 4 ([1, 2, 3, 4] : List Int) t13 _ (hM.rd 0 rfl) ht13) ?_
  rintro _ W14 ⟨rfl, hM_⟩
  replace hM := hM.call hM_
  clear hM_ ht13
  refine RunF.go 9 [2, 3, 11] (k' := (pin Go.Proofs.Try.f14 [1, 1, 1, 0] 1)) (L' := [(2, .int .u32 t13.1), (3, .bool t13.2), (11, .slice A6 t4.length c8)]) (w' := W14) (by kernel_rfl) ?_
  refine RunF.y (str_y (d := some 12) (A := A6) (m := t4.length) (c := c8) (k2 := (pin Go.Proofs.Try.f14 [1, 1, 1, 0] 2)) t4 (by kernel_rfl)) (hM.rd 1 rfl) ?_
  refine RunF.go 2 [2, 3, 14] (k' := (pin Go.Proofs.Try.f14 [1, 1, 1, 0] 4)) (L' := [(2, .int .u32 t13.1), (3, .bool t13.2), (14, .bool ((strOf t4).toList == (⟨#[1, 0]⟩ : ByteArray).toList))]) (w' := W14) (by kernel_rfl) ?_
  obtain ⟨y15, hy, h⟩ := Option.bind_eq_some_iff.mp h
  rw [show (((strOf t4).toList == (⟨#[1, 0]⟩ : ByteArray).toList)) = y15 from Option.some.inj hy]
  clear hy
  rcases two (y15) with c16 | c16
  · replace h := of_true h c16
    refine RunF.know 14 (b := true) (by kernel_rfl) c16 ?_
    refine RunF.go 3 [2, 17] (k' := (pin Go.Proofs.Try.f14 [1, 1, 1, 0] 7)) (L' := [(2, .int .u32 t13.1), (17, .bool t13.2)]) (w' := W14) (by kernel_rfl) ?_
    rcases two (t13.2) with c17 | c17
    · replace h := of_true h c17
      refine RunF.know 17 (b := true) (by kernel_rfl) c17 ?_
      refine RunF.go 4 [21] (k' := (pin Go.Proofs.Try.f14 [1, 1, 1, 0] 11)) (L' := [(21, .bool (t13.1 == 16909060))]) (w' := W14) (by kernel_rfl) ?_
      rcases two ((t13.1 == 16909060)) with c18 | c18
      · replace h := of_true h c18
        refine RunF.know 21 (b := true) (by kernel_rfl) c18 ?_
        obtain ⟨t19, ht19, h⟩ := Option.bind_eq_some_iff.mp h
        refine RunF.call (d := some 22) (g := 28) (args := #[.int .u8 129, .int .i64 1]) (k2 := (pin Go.Proofs.Try.f14 [1, 1, 1, 0] 12)) (by kernel_rfl) (words_Rol8.calls k 129 1 t19 _ ht19) ?_
        rintro _ W20 ⟨rfl, hM_⟩
        replace hM := hM.call hM_
        clear hM_ ht19
        refine RunF.go 4 [0] (k' := (pl Go.Proofs.Try.f14 [1, 1, 1, 1])) (L' := [(0, .bool (t19 == 3))]) (w' := W20) (by kernel_rfl) ?_
        obtain rfl := Option.some.inj h
        exact RunF.ret1 0 (.bool (t19 == 3)) (fn := Go.Proofs.Try.f14) Go.Proofs.Try.func14 (by kernel_rfl) (by kernel_rfl) (by kernel_rfl) ⟨_, rfl, rfl, (hM.pick [] rfl rfl)⟩
      · replace h := of_false h c18
        refine RunF.know 21 (b := false) (by kernel_rfl) c18 ?_
        refine RunF.go 5 [0] (k' := (pl Go.Proofs.Try.f14 [1, 1, 1, 1])) (L' := [(0, .bool false)]) (w' := W14) (by kernel_rfl) ?_
        obtain rfl := Option.some.inj h
        exact RunF.ret1 0 (.bool false) (fn := Go.Proofs.Try.f14) Go.Proofs.Try.func14 (by kernel_rfl) (by kernel_rfl) (by kernel_rfl) ⟨_, rfl, rfl, (hM.pick [] rfl rfl)⟩
    · replace h := of_false h c17
      refine RunF.know 17 (b := false) (by kernel_rfl) c17 ?_
      refine RunF.go 9 [0] (k' := (pl Go.Proofs.Try.f14 [1, 1, 1, 1])) (L' := [(0, .bool false)]) (w' := W14) (by kernel_rfl) ?_
      obtain rfl := Option.some.inj h
      exact RunF.ret1 0 (.bool false) (fn := Go.Proofs.Try.f14) Go.Proofs.Try.func14 (by kernel_rfl) (by kernel_rfl) (by kernel_rfl) ⟨_, rfl, rfl, (hM.pick [] rfl rfl)⟩
  · replace h := of_false h c16
    refine RunF.know 14 (b := false) (by kernel_rfl) c16 ?_
    refine RunF.go 12 [0] (k' := (pl Go.Proofs.Try.f14 [1, 1, 1, 1])) (L' := [(0, .bool false)]) (w' := W14) (by kernel_rfl) ?_
    obtain rfl := Option.some.inj h
    exact RunF.ret1 0 (.bool false) (fn := Go.Proofs.Try.f14) Go.Proofs.Try.func14 (by kernel_rfl) (by kernel_rfl) (by kernel_rfl) ⟨_, rfl, rfl, (hM.pick [] rfl rfl)⟩

/-! ### scrim/scrimlaw1.within: function 15 -/
def scrimlaw1_within.f (k : Nat) (a0 : Int) (a1 : Int) : Option (Int) := if (decide (a1 = 0)) = true then (none) else (if (decide ((Int.tmod a0 a1) < 0)) = true then (some (I64 ((Int.tmod a0 a1) + a1))) else (some (Int.tmod a0 a1)))
set_option maxRecDepth 100000 in
theorem scrimlaw1_within.calls (k : Nat) (a0 : Int) (a1 : Int) (r : Int) (w : World) (h : scrimlaw1_within.f k a0 a1 = some r) :
    Calls Go.Proofs.Try.prog 15 #[.int .i64 a0, .int .i64 a1] w (Ret fun v w' => v = .int .i64 r ∧ Mem w w' []) := by
  unfold scrimlaw1_within.f at h
  refine calls_of [.int .i64 a0, .int .i64 a1] (fn := Go.Proofs.Try.f15) Go.Proofs.Try.func15 (by kernel_rfl) (by kernel_rfl) ?_
  have hM := Mem.refl w
  refine RunF.go 8 [1, 6, 7] (k' := (pin Go.Proofs.Try.f15 [1, 0] 2)) (L' := [(1, .int .i64 a1), (6, .int .i64 a0), (7, .int .i64 a1)]) (w' := w) (by kernel_rfl) ?_
  rcases two (decide (a1 = 0)) with c1 | c1
  · replace h := of_true h c1
    cases h
  · replace h := of_false h c1
    refine RunF.y (div_y (d := some 8) (b := false) (kd := .i64) (x := a0) (y := a1) (k2 := (pin Go.Proofs.Try.f15 [1, 0] 3)) (by kernel_rfl) c1) trivial ?_
    refine RunF.go 8 [1, 5, 10] (k' := (pl Go.Proofs.Try.f15 [1, 1, 0, 1])) (L' := [(1, .int .i64 a1), (5, .int .i64 (Int.tmod a0 a1)), (10, .bool (decide ((Int.tmod a0 a1) < 0)))]) (w' := w) (by kernel_rfl) ?_
    rcases two (decide ((Int.tmod a0 a1) < 0)) with c2 | c2
    · replace h := of_true h c2
      refine RunF.know 10 (b := true) (by kernel_rfl) c2 ?_
      refine RunF.go 12 [4] (k' := (pl Go.Proofs.Try.f15 [1, 1, 1, 1])) (L' := [(4, .int .i64 (I64 ((Int.tmod a0 a1) + a1)))]) (w' := w) (by kernel_rfl) ?_
      obtain rfl := Option.some.inj h
      exact RunF.ret1 4 (.int .i64 (I64 ((Int.tmod a0 a1) + a1))) (fn := Go.Proofs.Try.f15) Go.Proofs.Try.func15 (by kernel_rfl) (by kernel_rfl) (by kernel_rfl) ⟨_, rfl, rfl, (hM.pick [] rfl rfl)⟩
    · replace h := of_false h c2
      refine RunF.know 10 (b := false) (by kernel_rfl) c2 ?_
      refine RunF.go 7 [4] (k' := (pl Go.Proofs.Try.f15 [1, 1, 1, 1])) (L' := [(4, .int .i64 (Int.tmod a0 a1))]) (w' := w) (by kernel_rfl) ?_
      obtain rfl := Option.some.inj h
      exact RunF.ret1 4 (.int .i64 (Int.tmod a0 a1)) (fn := Go.Proofs.Try.f15) Go.Proofs.Try.func15 (by kernel_rfl) (by kernel_rfl) (by kernel_rfl) ⟨_, rfl, rfl, (hM.pick [] rfl rfl)⟩

/-! ### scrim/scrimref1.Inc: function 17 -/
def scrimref1_Inc.l0 : Nat → (List Int) → (List Int) → Int → Option (List Int)
  | 0, _, _, _ => none
  | k + 1, a0, x3_0, x4_0 => if (decide (x4_0 > 0)) = true then (if (decide (0 ≤ (I64 (x4_0 - 1)))) = true then (if (decide ((I64 (x4_0 - 1)) < ((([] : List Int) ++ a0).length : Int))) = true then (if (decide (0 ≤ (I64 (x4_0 - 1)))) = true then (if (decide ((I64 (x4_0 - 1)) < ((([] : List Int) ++ a0).length : Int))) = true then (if (decide (0 ≤ (I64 (x4_0 - 1)))) = true then (if (decide ((I64 (x4_0 - 1)) < ((([] : List Int) ++ a0).length : Int))) = true then ((some (((rd (x3_0.set (I64 (x4_0 - 1) : Int).toNat (U8 ((rd x3_0 (I64 (x4_0 - 1))) + 1))) (I64 (x4_0 - 1))) != 0) : Bool)).bind fun y21 => (if y21 = true then (some (x3_0.set (I64 (x4_0 - 1) : Int).toNat (U8 ((rd x3_0 (I64 (x4_0 - 1))) + 1)))) else (scrimref1_Inc.l0 k a0 (x3_0.set (I64 (x4_0 - 1) : Int).toNat (U8 ((rd x3_0 (I64 (x4_0 - 1))) + 1))) (I64 (x4_0 - 1))))) else (none)) else (none)) else (none)) else (none)) else (none)) else (none)) else (some x3_0)
def scrimref1_Inc.f (k : Nat) (a0 : List Int) : Option (List Int) := if (decide (([] : List Int).length + a0.length ≤ 1000000000)) = true then (scrimref1_Inc.l0 k a0 (([] : List Int) ++ a0) ((([] : List Int) ++ a0).length : Int)) else (none)
set_option maxRecDepth 100000 in
theorem scrimref1_Inc.calls (k : Nat) (Ap0 : Option Addr) (np0 cp0 : Nat) (a0 : List Int) (r : List Int) (w : World) (hr0 : Rd w (.slice Ap0 np0 cp0) (nums .u8 a0)) (h : scrimref1_Inc.f k a0 = some r) :
    Calls Go.Proofs.Try.prog 17 #[(.slice Ap0 np0 cp0)] w (Ret fun v w' => ∃ A0' n0' c0', v = .slice A0' n0' c0' ∧ Mem w w' [⟨.slice A0' n0' c0', 5, 1, nums .u8 r⟩]) := by
  obtain rfl : a0.length = np0 := by have h_ := hr0.1; simpa [nums_length, bools_length] using h_
  unfold scrimref1_Inc.f at h
  refine calls_of [.slice Ap0 a0.length cp0] (fn := Go.Proofs.Try.f17) Go.Proofs.Try.func17 (by kernel_rfl) (by kernel_rfl) ?_
  have hM := Mem.refl w
  refine RunF.go 6 [0] (k' := (pin Go.Proofs.Try.f17 [1, 0] 0)) (L' := [(0, .slice Ap0 a0.length cp0)]) (w' := w) (by kernel_rfl) ?_
  refine RunF.new 5 1 0 (nums .u8 []) (d := some 5) (k2 := (pin Go.Proofs.Try.f17 [1, 0] 1)) hM (by simp [nums, bools]) (by kernel_rfl) (by kernel_rfl) ?_
  replace hM := hM
  intro g1 W2 hM
  refine RunF.go 1 [5, 6] (k' := (pin Go.Proofs.Try.f17 [1, 0] 2)) (L' := [(5, .slice (some ⟨g1, 0, none⟩) 0 0), (6, .slice Ap0 a0.length cp0)]) (w' := W2) (by kernel_rfl) ?_
  rcases two (decide (([] : List Int).length + a0.length ≤ 1000000000)) with c8 | c8
  · replace h := of_true h c8
    have h_ := of_decide_eq_true c8
    obtain ⟨A4, n5, c6, W7, hD, hM', hS_⟩ := app_does (P := Go.Proofs.Try.prog) (n := 29) (k := (pin Go.Proofs.Try.f17 [1, 0] 2)) (L := [(5, .slice (some ⟨g1, 0, none⟩) 0 0), (6, .slice Ap0 a0.length cp0)]) (d := some 7) (e := 5) (A := (some ⟨g1, 0, none⟩)) (m := 0) (c := 0) (A2 := Ap0) (m2 := a0.length) (c2 := cp0) (cs := nums .u8 ([] : List Int)) (ys := nums .u8 a0) (k2 := (pin Go.Proofs.Try.f17 [1, 0] 3)) [] [] (by kernel_rfl) (hM.pick [0] rfl rfl) (hr0.mono hM.below) (one_nums _ _) (by omega)
    rw [nums_append] at hM'
    replace hM := hM'; clear h_ hM'
    obtain rfl : (([] : List Int) ++ a0).length = n5 := by have h_ := (hM.rd 0 rfl).1; simpa only [nums_length, bools_length] using h_
    refine RunF.does hD ?_
    clear hD hS_
    refine RunF.go 11 [3, 4] (k' := (pl Go.Proofs.Try.f17 [1, 1, 0, 1, 0, 0])) (L' := [(3, .slice A4 ((([] : List Int) ++ a0).length) c6), (4, .int .i64 ((([] : List Int) ++ a0).length : Int))]) (w' := W7) (by kernel_rfl) ?_
    have l0 : ∀ (k_ : Nat), k_ ≤ k → ∀ (x3_0 : List Int) (x4_0 : Int) (W : World) (hM : Mem w W [⟨.slice A4 ((([] : List Int) ++ a0).length) c6, 5, 1, nums .u8 x3_0⟩]) (h : scrimref1_Inc.l0 k_ a0 x3_0 x4_0 = some r), RunF Go.Proofs.Try.prog (Ret fun v w' => ∃ A0' n0' c0', v = .slice A0' n0' c0' ∧ Mem w w' [⟨.slice A0' n0' c0', 5, 1, nums .u8 r⟩]) 17 (pl Go.Proofs.Try.f17 [1, 1, 0, 1, 0, 0]) 29 [(3, .slice A4 ((([] : List Int) ++ a0).length) c6), (4, .int .i64 x4_0)] W := by
      intro k_
      induction k_ using Nat.strongRecOn with
      | _ k_ ih0 =>
        intro hk x3_0 x4_0 W hM h
        cases k_ with
        | zero => exact absurd h (by simp [scrimref1_Inc.l0])
        | succ k =>
          simp only [scrimref1_Inc.l0] at h
          replace ih0 : ∀ m, m ≤ k → _ := fun m hm => ih0 m (by omega) (by omega)
          refine RunF.go 6 [3, 4, 11] (k' := (pl Go.Proofs.Try.f17 [1, 1, 0, 1, 0, 0, 0, 1])) (L' := [(3, .slice A4 ((([] : List Int) ++ a0).length) c6), (4, .int .i64 x4_0), (11, .bool (decide (x4_0 > 0)))]) (w' := W) (by kernel_rfl) ?_
          rcases two (decide (x4_0 > 0)) with c10 | c10
          · replace h := of_true h c10
            refine RunF.know 11 (b := true) (by kernel_rfl) c10 ?_
            refine RunF.go 9 [3, 4, 14, 16] (k' := (pin Go.Proofs.Try.f17 [1, 1, 0, 1, 0, 0, 1, 0, 0, 0] 3)) (L' := [(3, .slice A4 ((([] : List Int) ++ a0).length) c6), (4, .int .i64 x4_0), (14, .slice A4 ((([] : List Int) ++ a0).length) c6), (16, .int .i64 (I64 (x4_0 - 1)))]) (w' := W) (by kernel_rfl) ?_
            rcases two (decide (0 ≤ (I64 (x4_0 - 1)))) with c12 | c12
            · replace h := of_true h c12
              rcases two (decide ((I64 (x4_0 - 1)) < ((([] : List Int) ++ a0).length : Int))) with c13 | c13
              · replace h := of_true h c13
                obtain ⟨q11, hAq11, hcq11, hfq11, hlq11⟩ := hM.num_at 0 rfl (i := I64 (x4_0 - 1)) (of_decide_eq_true c12) (by have h_ := of_decide_eq_true c13; omega)
                refine RunF.y (idx_own (d := some 17) (A := A4) (m := (([] : List Int) ++ a0).length) (i := I64 (x4_0 - 1)) (k2 := (pin Go.Proofs.Try.f17 [1, 1, 0, 1, 0, 0, 1, 0, 0, 0] 4)) (by kernel_rfl) (of_decide_eq_true c12) (by have h_ := of_decide_eq_true c13; omega) hAq11) trivial ?_
                refine RunF.y (ld_y (d := some 18) (p := ⟨q11, (I64 (x4_0 - 1) : Int).toNat, none⟩) (k2 := (pin Go.Proofs.Try.f17 [1, 1, 0, 1, 0, 0, 1, 0, 0, 0] 5)) (.int .u8 (rd x3_0 (I64 (x4_0 - 1)))) (by kernel_rfl)) hcq11 ?_
                refine RunF.go 1 [3, 4, 14, 16, 19] (k' := (pin Go.Proofs.Try.f17 [1, 1, 0, 1, 0, 0, 1, 0, 0, 0] 6)) (L' := [(3, .slice A4 ((([] : List Int) ++ a0).length) c6), (4, .int .i64 x4_0), (14, .slice A4 ((([] : List Int) ++ a0).length) c6), (16, .int .i64 (I64 (x4_0 - 1))), (19, .int .u8 (U8 ((rd x3_0 (I64 (x4_0 - 1))) + 1)))]) (w' := W) (by kernel_rfl) ?_
                rcases two (decide (0 ≤ (I64 (x4_0 - 1)))) with c15 | c15
                · replace h := of_true h c15
                  rcases two (decide ((I64 (x4_0 - 1)) < ((([] : List Int) ++ a0).length : Int))) with c16 | c16
                  · replace h := of_true h c16
                    obtain ⟨q14, hAq14, hcq14, hfq14, hlq14⟩ := hM.num_at 0 rfl (i := I64 (x4_0 - 1)) (of_decide_eq_true c15) (by have h_ := of_decide_eq_true c16; omega)
                    refine RunF.y (idx_own (d := some 20) (A := A4) (m := (([] : List Int) ++ a0).length) (i := I64 (x4_0 - 1)) (k2 := (pin Go.Proofs.Try.f17 [1, 1, 0, 1, 0, 0, 1, 0, 0, 0] 7)) (by kernel_rfl) (of_decide_eq_true c15) (by have h_ := of_decide_eq_true c16; omega) hAq14) trivial ?_
                    obtain ⟨g_, hA_, hc_, hf_, hl_⟩ := hM.num_at 0 rfl (i := I64 (x4_0 - 1)) (of_decide_eq_true c15) (by have h_ := of_decide_eq_true c16; omega)
                    obtain rfl : q14 = g_ := by rw [hAq14] at hA_; injection hA_ with hA_; injection hA_
                    refine RunF.doesU (st_u (p := (⟨q14, (I64 (x4_0 - 1) : Int).toNat, none⟩ : Addr)) (v := .int .u8 (U8 ((rd x3_0 (I64 (x4_0 - 1))) + 1))) (k2 := (pin Go.Proofs.Try.f17 [1, 1, 0, 1, 0, 0, 1, 0, 0, 0] 8)) (by kernel_rfl) hc_ hf_) ?_
                    replace hM : Mem w (W.setCell (⟨q14, (I64 (x4_0 - 1) : Int).toNat, none⟩ : Addr) (.int .u8 (U8 ((rd x3_0 (I64 (x4_0 - 1))) + 1)))) [⟨.slice A4 ((([] : List Int) ++ a0).length) c6, 5, 1, nums .u8 (x3_0.set (I64 (x4_0 - 1) : Int).toNat (U8 ((rd x3_0 (I64 (x4_0 - 1))) + 1)))⟩] := Mem.put_num [] [] (hM.pick [0] rfl rfl) hAq14 _ hl_ _
                    generalize W.setCell (⟨q14, (I64 (x4_0 - 1) : Int).toNat, none⟩ : Addr) (.int .u8 (U8 ((rd x3_0 (I64 (x4_0 - 1))) + 1))) = W17 at hM ⊢
                    clear hc_ hf_ hl_ hA_ hcq14
                    refine RunF.go 6 [3, 4, 21, 23] (k' := (pin Go.Proofs.Try.f17 [1, 1, 0, 1, 0, 0, 1, 0, 0, 1, 0] 3)) (L' := [(3, .slice A4 ((([] : List Int) ++ a0).length) c6), (4, .int .i64 x4_0), (21, .slice A4 ((([] : List Int) ++ a0).length) c6), (23, .int .i64 (I64 (x4_0 - 1)))]) (w' := W17) (by kernel_rfl) ?_
                    rcases two (decide (0 ≤ (I64 (x4_0 - 1)))) with c19 | c19
                    · replace h := of_true h c19
                      rcases two (decide ((I64 (x4_0 - 1)) < ((([] : List Int) ++ a0).length : Int))) with c20 | c20
                      · replace h := of_true h c20
                        obtain ⟨q18, hAq18, hcq18, hfq18, hlq18⟩ := hM.num_at 0 rfl (i := I64 (x4_0 - 1)) (of_decide_eq_true c19) (by have h_ := of_decide_eq_true c20; omega)
                        refine RunF.y (idx_own (d := some 24) (A := A4) (m := (([] : List Int) ++ a0).length) (i := I64 (x4_0 - 1)) (k2 := (pin Go.Proofs.Try.f17 [1, 1, 0, 1, 0, 0, 1, 0, 0, 1, 0] 4)) (by kernel_rfl) (of_decide_eq_true c19) (by have h_ := of_decide_eq_true c20; omega) hAq18) trivial ?_
                        refine RunF.y (ld_y (d := some 25) (p := ⟨q18, (I64 (x4_0 - 1) : Int).toNat, none⟩) (k2 := (pin Go.Proofs.Try.f17 [1, 1, 0, 1, 0, 0, 1, 0, 0, 1, 0] 5)) (.int .u8 (rd (x3_0.set (I64 (x4_0 - 1) : Int).toNat (U8 ((rd x3_0 (I64 (x4_0 - 1))) + 1))) (I64 (x4_0 - 1)))) (by kernel_rfl)) hcq18 ?_
                        refine RunF.go 2 [3, 4, 26] (k' := (pl Go.Proofs.Try.f17 [1, 1, 0, 1, 0, 0, 1, 0, 0, 1, 1])) (L' := [(3, .slice A4 ((([] : List Int) ++ a0).length) c6), (4, .int .i64 x4_0), (26, .bool ((rd (x3_0.set (I64 (x4_0 - 1) : Int).toNat (U8 ((rd x3_0 (I64 (x4_0 - 1))) + 1))) (I64 (x4_0 - 1))) != 0))]) (w' := W17) (by kernel_rfl) ?_
                        obtain ⟨y21, hy, h⟩ := Option.bind_eq_some_iff.mp h
                        rw [show (((rd (x3_0.set (I64 (x4_0 - 1) : Int).toNat (U8 ((rd x3_0 (I64 (x4_0 - 1))) + 1))) (I64 (x4_0 - 1))) != 0)) = y21 from Option.some.inj hy]
                        clear hy
                        rcases two (y21) with c22 | c22
                        · replace h := of_true h c22
                          refine RunF.know 26 (b := true) (by kernel_rfl) c22 ?_
                          refine RunF.go 6 [2] (k' := (pl Go.Proofs.Try.f17 [1, 1, 0, 1, 0, 0, 1, 0, 0, 1, 1, 0, 1])) (L' := [(2, .slice A4 ((([] : List Int) ++ a0).length) c6)]) (w' := W17) (by kernel_rfl) ?_
                          obtain rfl := Option.some.inj h
                          exact RunF.ret1 2 (.slice A4 ((([] : List Int) ++ a0).length) c6) (fn := Go.Proofs.Try.f17) Go.Proofs.Try.func17 (by kernel_rfl) (by kernel_rfl) (by kernel_rfl) ⟨_, rfl, A4, (([] : List Int) ++ a0).length, c6, rfl, (hM.pick [0] rfl rfl)⟩
                        · replace h := of_false h c22
                          refine RunF.know 26 (b := false) (by kernel_rfl) c22 ?_
                          refine RunF.go 9 [3, 4] (k' := (pl Go.Proofs.Try.f17 [1, 1, 0, 1, 0, 0])) (L' := [(3, .slice A4 ((([] : List Int) ++ a0).length) c6), (4, .int .i64 (I64 (x4_0 - 1)))]) (w' := W17) (by kernel_rfl) ?_
                          exact ih0 k (by omega) (x3_0.set (I64 (x4_0 - 1) : Int).toNat (U8 ((rd x3_0 (I64 (x4_0 - 1))) + 1))) (I64 (x4_0 - 1)) _ (hM.pick [0] rfl rfl) h
                      · replace h := of_false h c20
                        cases h
                    · replace h := of_false h c19
                      cases h
                  · replace h := of_false h c16
                    cases h
                · replace h := of_false h c15
                  cases h
              · replace h := of_false h c13
                cases h
            · replace h := of_false h c12
              cases h
          · replace h := of_false h c10
            refine RunF.know 11 (b := false) (by kernel_rfl) c10 ?_
            refine RunF.go 7 [2] (k' := (pl Go.Proofs.Try.f17 [1, 1, 1, 1])) (L' := [(2, .slice A4 ((([] : List Int) ++ a0).length) c6)]) (w' := W) (by kernel_rfl) ?_
            obtain rfl := Option.some.inj h
            exact RunF.ret1 2 (.slice A4 ((([] : List Int) ++ a0).length) c6) (fn := Go.Proofs.Try.f17) Go.Proofs.Try.func17 (by kernel_rfl) (by kernel_rfl) (by kernel_rfl) ⟨_, rfl, A4, (([] : List Int) ++ a0).length, c6, rfl, (hM.pick [0] rfl rfl)⟩
    exact l0 k (Nat.le_refl _) (([] : List Int) ++ a0) ((([] : List Int) ++ a0).length : Int) _ (hM.pick [0] rfl rfl) h
  · replace h := of_false h c8
    cases h

/-! ### scrim/scrimlaw1.WordsInc: function 3 -/
def scrimlaw1_WordsInc.l0 : Nat → (List Int) → Int → (List Int) → Int → Option (Bool)
  | 0, _, _, _, _ => none
  | k + 1, a0, t14, x5_0, x7_0 => if (decide (x7_0 < t14)) = true then ((words_Inc.f k x5_0).bind fun t18 => ((scrimref1_Inc.f k x5_0).bind fun t26 => (if (!((strOf t18).toList == (strOf t26).toList)) = true then (some false) else (if ((t18.length : Int) != (a0.length : Int)) = true then (some false) else (scrimlaw1_WordsInc.l0 k a0 t14 t18 (I64 (x7_0 + 1))))))) else (if (decide ((a0.length : Int) < 4)) = true then (some true) else (if (decide (0 ≤ (I64 ((a0.length : Int) - 4)))) = true then (if (decide ((I64 ((a0.length : Int) - 4)) ≤ (a0.length : Int))) = true then (if (decide (0 ≤ (I64 ((x5_0.length : Int) - 4)))) = true then (if (decide ((I64 ((x5_0.length : Int) - 4)) ≤ (x5_0.length : Int))) = true then ((words_Be32.f k ((a0.take ((a0.length : Int) : Int).toNat).drop (I64 ((a0.length : Int) - 4) : Int).toNat)).bind fun t51 => ((words_Be32.f k ((x5_0.take ((x5_0.length : Int) : Int).toNat).drop (I64 ((x5_0.length : Int) - 4) : Int).toNat)).bind fun t53 => (some (t53.1 == (U32 (t51.1 + (U32 (t14)))))))) else (none)) else (none)) else (none)) else (none)))
def scrimlaw1_WordsInc.f (k : Nat) (a0 : List Int) (a1 : Int) : Option (Bool) := (scrimlaw1_known.f k).bind fun t1 => (if (!t1) = true then (some false) else (if (decide ((a0.length : Int) > 60)) = true then (some true) else (if (decide (([] : List Int).length + a0.length ≤ 1000000000)) = true then ((scrimlaw1_within.f k a1 600).bind fun t14 => (scrimlaw1_WordsInc.l0 k a0 t14 (([] : List Int) ++ a0) 0)) else (none))))
set_option maxRecDepth 100000 in
theorem scrimlaw1_WordsInc.calls (k : Nat) (Ap0 : Option Addr) (np0 cp0 : Nat) (a0 : List Int) (a1 : Int) (r : Bool) (w : World) (hr0 : Rd w (.slice Ap0 np0 cp0) (nums .u8 a0)) (h : scrimlaw1_WordsInc.f k a0 a1 = some r) :
    Calls Go.Proofs.Try.prog 3 #[(.slice Ap0 np0 cp0), .int .i64 a1] w (Ret fun v w' => v = .bool r ∧ Mem w w' []) := by
  obtain rfl : a0.length = np0 := by have h_ := hr0.1; simpa [nums_length, bools_length] using h_
  unfold scrimlaw1_WordsInc.f at h
  refine calls_of [.slice Ap0 a0.length cp0, .int .i64 a1] (fn := Go.Proofs.Try.f3) Go.Proofs.Try.func3 (by kernel_rfl) (by kernel_rfl) ?_
  have hM := Mem.refl w
  refine RunF.go 7 [0, 1] (k' := (pin Go.Proofs.Try.f3 [1, 0, 0] 0)) (L' := [(0, .slice Ap0 a0.length cp0), (1, .int .i64 a1)]) (w' := w) (by kernel_rfl) ?_
  obtain ⟨t1, ht1, h⟩ := Option.bind_eq_some_iff.mp h
  refine RunF.call (d := some 15) (g := 14) (args := #[]) (k2 := (pin Go.Proofs.Try.f3 [1, 0, 0] 1)) (by kernel_rfl) (scrimlaw1_known.calls k t1 _ ht1) ?_
  rintro _ W2 ⟨rfl, hM_⟩
  replace hM := hM.call hM_
  clear hM_ ht1
  refine RunF.go 2 [0, 1, 16] (k' := (pl Go.Proofs.Try.f3 [1, 0, 1])) (L' := [(0, .slice Ap0 a0.length cp0), (1, .int .i64 a1), (16, .bool (!t1))]) (w' := W2) (by kernel_rfl) ?_
  rcases two (!t1) with c3 | c3
  · replace h := of_true h c3
    refine RunF.know 16 (b := true) (by kernel_rfl) c3 ?_
    refine RunF.go 5 [4] (k' := (pl Go.Proofs.Try.f3 [1, 0, 1, 0, 1])) (L' := [(4, .bool false)]) (w' := W2) (by kernel_rfl) ?_
    obtain rfl := Option.some.inj h
    exact RunF.ret1 4 (.bool false) (fn := Go.Proofs.Try.f3) Go.Proofs.Try.func3 (by kernel_rfl) (by kernel_rfl) (by kernel_rfl) ⟨_, rfl, rfl, (hM.pick [] rfl rfl)⟩
  · replace h := of_false h c3
    refine RunF.know 16 (b := false) (by kernel_rfl) c3 ?_
    refine RunF.go 9 [0, 1, 19] (k' := (pl Go.Proofs.Try.f3 [1, 1, 0, 1])) (L' := [(0, .slice Ap0 a0.length cp0), (1, .int .i64 a1), (19, .bool (decide ((a0.length : Int) > 60)))]) (w' := W2) (by kernel_rfl) ?_
    rcases two (decide ((a0.length : Int) > 60)) with c4 | c4
    · replace h := of_true h c4
      refine RunF.know 19 (b := true) (by kernel_rfl) c4 ?_
      refine RunF.go 5 [4] (k' := (pl Go.Proofs.Try.f3 [1, 1, 0, 1, 0, 1])) (L' := [(4, .bool true)]) (w' := W2) (by kernel_rfl) ?_
      obtain rfl := Option.some.inj h
      exact RunF.ret1 4 (.bool true) (fn := Go.Proofs.Try.f3) Go.Proofs.Try.func3 (by kernel_rfl) (by kernel_rfl) (by kernel_rfl) ⟨_, rfl, rfl, (hM.pick [] rfl rfl)⟩
    · replace h := of_false h c4
      refine RunF.know 19 (b := false) (by kernel_rfl) c4 ?_
      refine RunF.go 4 [0, 1] (k' := (pin Go.Proofs.Try.f3 [1, 1, 1, 0] 0)) (L' := [(0, .slice Ap0 a0.length cp0), (1, .int .i64 a1)]) (w' := W2) (by kernel_rfl) ?_
      refine RunF.new 5 1 0 (nums .u8 []) (d := some 20) (k2 := (pin Go.Proofs.Try.f3 [1, 1, 1, 0] 1)) hM (by simp [nums, bools]) (by kernel_rfl) (by kernel_rfl) ?_
      replace hM := hM
      intro g5 W6 hM
      refine RunF.go 1 [0, 1, 20, 21] (k' := (pin Go.Proofs.Try.f3 [1, 1, 1, 0] 2)) (L' := [(0, .slice Ap0 a0.length cp0), (1, .int .i64 a1), (20, .slice (some ⟨g5, 0, none⟩) 0 0), (21, .slice Ap0 a0.length cp0)]) (w' := W6) (by kernel_rfl) ?_
      rcases two (decide (([] : List Int).length + a0.length ≤ 1000000000)) with c12 | c12
      · replace h := of_true h c12
        have h_ := of_decide_eq_true c12
        obtain ⟨A8, n9, c10, W11, hD, hM', hS_⟩ := app_does (P := Go.Proofs.Try.prog) (n := 75) (k := (pin Go.Proofs.Try.f3 [1, 1, 1, 0] 2)) (L := [(0, .slice Ap0 a0.length cp0), (1, .int .i64 a1), (20, .slice (some ⟨g5, 0, none⟩) 0 0), (21, .slice Ap0 a0.length cp0)]) (d := some 22) (e := 5) (A := (some ⟨g5, 0, none⟩)) (m := 0) (c := 0) (A2 := Ap0) (m2 := a0.length) (c2 := cp0) (cs := nums .u8 ([] : List Int)) (ys := nums .u8 a0) (k2 := (pin Go.Proofs.Try.f3 [1, 1, 1, 0] 3)) [] [] (by kernel_rfl) (hM.pick [0] rfl rfl) (hr0.mono hM.below) (one_nums _ _) (by omega)
        rw [nums_append] at hM'
        replace hM := hM'; clear h_ hM'
        obtain rfl : (([] : List Int) ++ a0).length = n9 := by have h_ := (hM.rd 0 rfl).1; simpa only [nums_length, bools_length] using h_
        refine RunF.does hD ?_
        clear hD hS_
        refine RunF.go 5 [0, 5, 23] (k' := (pin Go.Proofs.Try.f3 [1, 1, 1, 1, 0] 1)) (L' := [(0, .slice Ap0 a0.length cp0), (5, .slice A8 ((([] : List Int) ++ a0).length) c10), (23, .int .i64 a1)]) (w' := W11) (by kernel_rfl) ?_
        obtain ⟨t14, ht14, h⟩ := Option.bind_eq_some_iff.mp h
        refine RunF.call (d := some 24) (g := 15) (args := #[.int .i64 a1, .int .i64 600]) (k2 := (pin Go.Proofs.Try.f3 [1, 1, 1, 1, 0] 2)) (by kernel_rfl) (scrimlaw1_within.calls k a1 600 t14 _ ht14) ?_
        rintro _ W15 ⟨rfl, hM_⟩
        replace hM := hM.call hM_
        clear hM_ ht14
        refine RunF.go 9 [0, 5, 6, 7] (k' := (pl Go.Proofs.Try.f3 [1, 1, 1, 1, 1, 0, 1, 0, 0])) (L' := [(0, .slice Ap0 a0.length cp0), (5, .slice A8 ((([] : List Int) ++ a0).length) c10), (6, .int .i64 t14), (7, .int .i64 0)]) (w' := W15) (by kernel_rfl) ?_
        have l0 : ∀ (k_ : Nat), k_ ≤ k → ∀ (A5_0 : Option Addr) (c5_0 : Nat) (x5_0 : List Int) (x7_0 : Int) (W : World) (hM : Mem w W [⟨.slice A5_0 x5_0.length c5_0, 5, 1, nums .u8 x5_0⟩]) (h : scrimlaw1_WordsInc.l0 k_ a0 t14 x5_0 x7_0 = some r), RunF Go.Proofs.Try.prog (Ret fun v w' => v = .bool r ∧ Mem w w' []) 3 (pl Go.Proofs.Try.f3 [1, 1, 1, 1, 1, 0, 1, 0, 0]) 75 [(0, .slice Ap0 a0.length cp0), (5, .slice A5_0 x5_0.length c5_0), (6, .int .i64 t14), (7, .int .i64 x7_0)] W := by
          intro k_
          induction k_ using Nat.strongRecOn with
          | _ k_ ih0 =>
            intro hk A5_0 c5_0 x5_0 x7_0 W hM h
            cases k_ with
            | zero => exact absurd h (by simp [scrimlaw1_WordsInc.l0])
            | succ k =>
              simp only [scrimlaw1_WordsInc.l0] at h
              replace ih0 : ∀ m, m ≤ k → _ := fun m hm => ih0 m (by omega) (by omega)
              refine RunF.go 7 [0, 5, 6, 7, 27] (k' := (pl Go.Proofs.Try.f3 [1, 1, 1, 1, 1, 0, 1, 0, 0, 0, 1])) (L' := [(0, .slice Ap0 a0.length cp0), (5, .slice A5_0 x5_0.length c5_0), (6, .int .i64 t14), (7, .int .i64 x7_0), (27, .bool (decide (x7_0 < t14)))]) (w' := W) (by kernel_rfl) ?_
              rcases two (decide (x7_0 < t14)) with c17 | c17
              · replace h := of_true h c17
                refine RunF.know 27 (b := true) (by kernel_rfl) c17 ?_
                refine RunF.go 7 [0, 5, 6, 7, 30] (k' := (pin Go.Proofs.Try.f3 [1, 1, 1, 1, 1, 0, 1, 0, 0, 1, 0, 0, 0] 1)) (L' := [(0, .slice Ap0 a0.length cp0), (5, .slice A5_0 x5_0.length c5_0), (6, .int .i64 t14), (7, .int .i64 x7_0), (30, .slice A5_0 x5_0.length c5_0)]) (w' := W) (by kernel_rfl) ?_
                obtain ⟨t18, ht18, h⟩ := Option.bind_eq_some_iff.mp h
                refine RunF.call (d := some 31) (g := 16) (args := #[.slice A5_0 x5_0.length c5_0]) (k2 := (pin Go.Proofs.Try.f3 [1, 1, 1, 1, 1, 0, 1, 0, 0, 1, 0, 0, 0] 2)) (by kernel_rfl) (words_Inc.calls k A5_0 x5_0.length c5_0 x5_0 t18 _ (hM.rd 0 rfl) ht18) ?_
                rintro _ W19 ⟨A20, n21, c22, rfl, hM_⟩
                obtain rfl : t18.length = n21 := by have h_ := (hM_.rd 0 rfl).1; simpa [nums_length, bools_length] using h_
                replace hM := hM.call hM_
                clear hM_ ht18
                refine RunF.go 4 [0, 5, 6, 7, 8] (k' := (pl Go.Proofs.Try.f3 [1, 1, 1, 1, 1, 0, 1, 0, 0, 1, 0, 0, 1, 0, 0])) (L' := [(0, .slice Ap0 a0.length cp0), (5, .slice A5_0 x5_0.length c5_0), (6, .int .i64 t14), (7, .int .i64 x7_0), (8, .slice A20 t18.length c22)]) (w' := W19) (by kernel_rfl) ?_
                refine RunF.draw (Still ({ W19 with drawn := W19.drawn + 1 } : World) []) (by kernel_rfl) (by kernel_rfl) ?_
                have hMd25 := hM.drew
                have hS := Still.refl ({ W19 with drawn := W19.drawn + 1 } : World) []
                generalize ({ W19 with drawn := W19.drawn + 1 } : World) = W24 at hMd25 hS ⊢
                replace hM := hMd25
                refine RunAny.y 0 (by kernel_rfl) (yl_pure (d := some 32) (v := .slice A20 t18.length c22) (k2 := [.inRegion (opsOf (pl Go.Proofs.Try.f3 [1, 1, 1, 1, 1, 0, 1, 0, 0, 1, 0, 0, 1, 0, 0])) []]) fun w => by kernel_rfl) (fun _ _ => trivial) hS ?_
                refine RunAny.y 1 (by kernel_rfl) (str_y (d := some 33) (A := A20) (m := t18.length) (c := c22) (k2 := [.inRegion (opsOf (pl Go.Proofs.Try.f3 [1, 1, 1, 1, 1, 0, 1, 0, 0, 1, 0, 0, 1, 0, 0])) []]) t18 (by kernel_rfl)) (fun _ hs => ((hM.rd 0 rfl).still hs (by simp))) hS ?_
                refine RunAny.y 2 (by kernel_rfl) (yl_pure (d := some 34) (v := .slice A5_0 x5_0.length c5_0) (k2 := [.inRegion (opsOf (pl Go.Proofs.Try.f3 [1, 1, 1, 1, 1, 0, 1, 0, 0, 1, 0, 0, 1, 0, 0])) []]) fun w => by kernel_rfl) (fun _ _ => trivial) hS ?_
                obtain ⟨t26, ht26, h⟩ := Option.bind_eq_some_iff.mp h
                refine RunAny.call 3 (d := some 35) (g := 17) (args := #[.slice A5_0 x5_0.length c5_0]) (by kernel_rfl) (by kernel_rfl) (scrimref1_Inc.calls k A5_0 x5_0.length c5_0 x5_0 t26 _ (hM.rd 1 rfl) ht26) (by rintro _ _ ⟨_, _, _, rfl, hM_⟩; exact hS.below hM_.below) ?_
                rintro _ W27 ⟨A28, n29, c30, rfl, hM_⟩
                obtain rfl : t26.length = n29 := by have h_ := (hM_.rd 0 rfl).1; simpa [nums_length, bools_length] using h_
                replace hS := hS.below hM_.below
                replace hM := hM.call hM_
                clear hM_ ht26
                refine RunAny.rebase hS ?_
                replace hS := Still.refl W27 []
                refine RunAny.y 4 (by kernel_rfl) (str_y (d := some 36) (A := A28) (m := t26.length) (c := c30) (k2 := [.inRegion (opsOf (pl Go.Proofs.Try.f3 [1, 1, 1, 1, 1, 0, 1, 0, 0, 1, 0, 0, 1, 0, 0])) []]) t26 (by kernel_rfl)) (fun _ hs => ((hM.rd 0 rfl).still hs (by simp))) hS ?_
                refine RunAny.y 5 (by kernel_rfl) (yl_pure (d := some 37) (v := .bool (!((strOf t18).toList == (strOf t26).toList))) (k2 := [.inRegion (opsOf (pl Go.Proofs.Try.f3 [1, 1, 1, 1, 1, 0, 1, 0, 0, 1, 0, 0, 1, 0, 0])) []]) fun w => by kernel_rfl) (fun _ _ => trivial) hS ?_
                refine RunAny.y 6 (by kernel_rfl) (yl_pure (d := some 38) (v := .bool (!((strOf t18).toList == (strOf t26).toList))) (k2 := [.inRegion (opsOf (pl Go.Proofs.Try.f3 [1, 1, 1, 1, 1, 0, 1, 0, 0, 1, 0, 0, 1, 0, 0])) []]) fun w => by kernel_rfl) (fun _ _ => trivial) hS ?_
                rcases two (!((strOf t18).toList == (strOf t26).toList)) with c32 | c32
                · replace h := of_true h c32
                  refine RunAny.know 38 (b := true) (by kernel_rfl) c32 ?_
                  refine RunAny.off 7 (d := some 39) (by kernel_rfl) (by kernel_rfl) hS ?_
                  refine RunAny.off 8 (d := some 40) (by kernel_rfl) (by kernel_rfl) hS ?_
                  refine RunAny.off 9 (d := some 41) (by kernel_rfl) (by kernel_rfl) hS ?_
                  refine RunAny.off 10 (d := some 42) (by kernel_rfl) (by kernel_rfl) hS ?_
                  refine RunAny.off 11 (d := some 43) (by kernel_rfl) (by kernel_rfl) hS ?_
                  refine RunAny.y 12 (by kernel_rfl) (yl_pure (d := some 44) (v := .bool true) (k2 := [.inRegion (opsOf (pl Go.Proofs.Try.f3 [1, 1, 1, 1, 1, 0, 1, 0, 0, 1, 0, 0, 1, 0, 0])) []]) fun w => by kernel_rfl) (fun _ _ => trivial) hS ?_
                  refine RunAny.done (by kernel_rfl) ?_
                  clear hS
                  refine RunF.go 5 [4] (k' := (pl Go.Proofs.Try.f3 [1, 1, 1, 1, 1, 0, 1, 0, 0, 1, 0, 0, 1, 0, 1, 0, 1])) (L' := [(4, .bool false)]) (w' := W27) (by kernel_rfl) ?_
                  obtain rfl := Option.some.inj h
                  exact RunF.ret1 4 (.bool false) (fn := Go.Proofs.Try.f3) Go.Proofs.Try.func3 (by kernel_rfl) (by kernel_rfl) (by kernel_rfl) ⟨_, rfl, rfl, (hM.pick [] rfl rfl)⟩
                · replace h := of_false h c32
                  refine RunAny.know 38 (b := false) (by kernel_rfl) c32 ?_
                  refine RunAny.y 7 (by kernel_rfl) (yl_pure (d := some 39) (v := .slice A20 t18.length c22) (k2 := [.inRegion (opsOf (pl Go.Proofs.Try.f3 [1, 1, 1, 1, 1, 0, 1, 0, 0, 1, 0, 0, 1, 0, 0])) []]) fun w => by kernel_rfl) (fun _ _ => trivial) hS ?_
                  refine RunAny.y 8 (by kernel_rfl) (yl_pure (d := some 40) (v := .int .i64 (t18.length : Int)) (k2 := [.inRegion (opsOf (pl Go.Proofs.Try.f3 [1, 1, 1, 1, 1, 0, 1, 0, 0, 1, 0, 0, 1, 0, 0])) []]) fun w => by kernel_rfl) (fun _ _ => trivial) hS ?_
                  refine RunAny.y 9 (by kernel_rfl) (yl_pure (d := some 41) (v := .slice Ap0 a0.length cp0) (k2 := [.inRegion (opsOf (pl Go.Proofs.Try.f3 [1, 1, 1, 1, 1, 0, 1, 0, 0, 1, 0, 0, 1, 0, 0])) []]) fun w => by kernel_rfl) (fun _ _ => trivial) hS ?_
                  refine RunAny.y 10 (by kernel_rfl) (yl_pure (d := some 42) (v := .int .i64 (a0.length : Int)) (k2 := [.inRegion (opsOf (pl Go.Proofs.Try.f3 [1, 1, 1, 1, 1, 0, 1, 0, 0, 1, 0, 0, 1, 0, 0])) []]) fun w => by kernel_rfl) (fun _ _ => trivial) hS ?_
                  refine RunAny.y 11 (by kernel_rfl) (yl_pure (d := some 43) (v := .bool ((t18.length : Int) != (a0.length : Int))) (k2 := [.inRegion (opsOf (pl Go.Proofs.Try.f3 [1, 1, 1, 1, 1, 0, 1, 0, 0, 1, 0, 0, 1, 0, 0])) []]) fun w => by kernel_rfl) (fun _ _ => trivial) hS ?_
                  refine RunAny.y 12 (by kernel_rfl) (yl_pure (d := some 44) (v := .bool ((t18.length : Int) != (a0.length : Int))) (k2 := [.inRegion (opsOf (pl Go.Proofs.Try.f3 [1, 1, 1, 1, 1, 0, 1, 0, 0, 1, 0, 0, 1, 0, 0])) []]) fun w => by kernel_rfl) (fun _ _ => trivial) hS ?_
                  refine RunAny.done (by kernel_rfl) ?_
                  clear hS
                  rcases two (((t18.length : Int) != (a0.length : Int))) with c33 | c33
                  · replace h := of_true h c33
                    refine RunF.know 44 (b := true) (by kernel_rfl) c33 ?_
                    refine RunF.go 5 [4] (k' := (pl Go.Proofs.Try.f3 [1, 1, 1, 1, 1, 0, 1, 0, 0, 1, 0, 0, 1, 0, 1, 0, 1])) (L' := [(4, .bool false)]) (w' := W27) (by kernel_rfl) ?_
                    obtain rfl := Option.some.inj h
                    exact RunF.ret1 4 (.bool false) (fn := Go.Proofs.Try.f3) Go.Proofs.Try.func3 (by kernel_rfl) (by kernel_rfl) (by kernel_rfl) ⟨_, rfl, rfl, (hM.pick [] rfl rfl)⟩
                  · replace h := of_false h c33
                    refine RunF.know 44 (b := false) (by kernel_rfl) c33 ?_
                    refine RunF.go 13 [0, 5, 6, 7] (k' := (pl Go.Proofs.Try.f3 [1, 1, 1, 1, 1, 0, 1, 0, 0])) (L' := [(0, .slice Ap0 a0.length cp0), (5, .slice A20 t18.length c22), (6, .int .i64 t14), (7, .int .i64 (I64 (x7_0 + 1)))]) (w' := W27) (by kernel_rfl) ?_
                    exact ih0 k (by omega) A20 c22 t18 (I64 (x7_0 + 1)) _ (hM.pick [1] rfl rfl) h
              · replace h := of_false h c17
                refine RunF.know 27 (b := false) (by kernel_rfl) c17 ?_
                refine RunF.go 9 [0, 5, 6, 48] (k' := (pl Go.Proofs.Try.f3 [1, 1, 1, 1, 1, 1, 0, 1])) (L' := [(0, .slice Ap0 a0.length cp0), (5, .slice A5_0 x5_0.length c5_0), (6, .int .i64 t14), (48, .bool (decide ((a0.length : Int) < 4)))]) (w' := W) (by kernel_rfl) ?_
                rcases two (decide ((a0.length : Int) < 4)) with c34 | c34
                · replace h := of_true h c34
                  refine RunF.know 48 (b := true) (by kernel_rfl) c34 ?_
                  refine RunF.go 5 [4] (k' := (pl Go.Proofs.Try.f3 [1, 1, 1, 1, 1, 1, 0, 1, 0, 1])) (L' := [(4, .bool true)]) (w' := W) (by kernel_rfl) ?_
                  obtain rfl := Option.some.inj h
                  exact RunF.ret1 4 (.bool true) (fn := Go.Proofs.Try.f3) Go.Proofs.Try.func3 (by kernel_rfl) (by kernel_rfl) (by kernel_rfl) ⟨_, rfl, rfl, (hM.pick [] rfl rfl)⟩
                · replace h := of_false h c34
                  refine RunF.know 48 (b := false) (by kernel_rfl) c34 ?_
                  refine RunF.go 3 [0, 5, 6] (k' := (pl Go.Proofs.Try.f3 [1, 1, 1, 1, 1, 1, 1, 0])) (L' := [(0, .slice Ap0 a0.length cp0), (5, .slice A5_0 x5_0.length c5_0), (6, .int .i64 t14)]) (w' := W) (by kernel_rfl) ?_
                  refine RunF.draw (Still ({ W with drawn := W.drawn + 1 } : World) []) (by kernel_rfl) (by kernel_rfl) ?_
                  have hMd36 := hM.drew
                  have hS := Still.refl ({ W with drawn := W.drawn + 1 } : World) []
                  generalize ({ W with drawn := W.drawn + 1 } : World) = W35 at hMd36 hS ⊢
                  replace hM := hMd36
                  refine RunAny.y 0 (by kernel_rfl) (yl_pure (d := some 49) (v := .slice Ap0 a0.length cp0) (k2 := [.inRegion (opsOf (pl Go.Proofs.Try.f3 [1, 1, 1, 1, 1, 1, 1, 0])) []]) fun w => by kernel_rfl) (fun _ _ => trivial) hS ?_
                  refine RunAny.y 1 (by kernel_rfl) (yl_pure (d := some 50) (v := .slice Ap0 a0.length cp0) (k2 := [.inRegion (opsOf (pl Go.Proofs.Try.f3 [1, 1, 1, 1, 1, 1, 1, 0])) []]) fun w => by kernel_rfl) (fun _ _ => trivial) hS ?_
                  refine RunAny.y 2 (by kernel_rfl) (yl_pure (d := some 51) (v := .int .i64 (a0.length : Int)) (k2 := [.inRegion (opsOf (pl Go.Proofs.Try.f3 [1, 1, 1, 1, 1, 1, 1, 0])) []]) fun w => by kernel_rfl) (fun _ _ => trivial) hS ?_
                  refine RunAny.y 3 (by kernel_rfl) (yl_pure (d := some 52) (v := .int .i64 (I64 ((a0.length : Int) - 4))) (k2 := [.inRegion (opsOf (pl Go.Proofs.Try.f3 [1, 1, 1, 1, 1, 1, 1, 0])) []]) fun w => by kernel_rfl) (fun _ _ => trivial) hS ?_
                  rcases two (decide (0 ≤ (I64 ((a0.length : Int) - 4)))) with c37 | c37
                  · replace h := of_true h c37
                    rcases two (decide ((I64 ((a0.length : Int) - 4)) ≤ (a0.length : Int))) with c38 | c38
                    · replace h := of_true h c38
                      have zc37 := of_decide_eq_true c37
                      have zc38 := of_decide_eq_true c38
                      obtain ⟨A39, n40, c41, hy42, rfl, hs43⟩ := cut (P := Go.Proofs.Try.prog) (n := 75) (k := (one (opsOf (pl Go.Proofs.Try.f3 [1, 1, 1, 1, 1, 1, 1, 0])) 4)) (L := (upd (upd (upd (upd [(0, .slice Ap0 a0.length cp0), (5, .slice A5_0 x5_0.length c5_0), (6, .int .i64 t14)] (some 49) (.slice Ap0 a0.length cp0)) (some 50) (.slice Ap0 a0.length cp0)) (some 51) (.int .i64 (a0.length : Int))) (some 52) (.int .i64 (I64 ((a0.length : Int) - 4))))) (d := some 53) (A := Ap0) (m := a0.length) (c := cp0) (l := I64 ((a0.length : Int) - 4)) (h := (a0.length : Int)) (k2 := [.inRegion (opsOf (pl Go.Proofs.Try.f3 [1, 1, 1, 1, 1, 1, 1, 0])) []]) .u8 a0 (by kernel_rfl) (by omega) (by omega) (by omega) (hr0.mono hM.below)
                      clear zc37
                      clear zc38
                      refine RunAny.y 4 (by kernel_rfl) hy42 (fun _ _ => trivial) hS ?_
                      refine RunAny.y 5 (by kernel_rfl) (yl_pure (d := some 54) (v := .slice A5_0 x5_0.length c5_0) (k2 := [.inRegion (opsOf (pl Go.Proofs.Try.f3 [1, 1, 1, 1, 1, 1, 1, 0])) []]) fun w => by kernel_rfl) (fun _ _ => trivial) hS ?_
                      refine RunAny.y 6 (by kernel_rfl) (yl_pure (d := some 55) (v := .slice A5_0 x5_0.length c5_0) (k2 := [.inRegion (opsOf (pl Go.Proofs.Try.f3 [1, 1, 1, 1, 1, 1, 1, 0])) []]) fun w => by kernel_rfl) (fun _ _ => trivial) hS ?_
                      refine RunAny.y 7 (by kernel_rfl) (yl_pure (d := some 56) (v := .int .i64 (x5_0.length : Int)) (k2 := [.inRegion (opsOf (pl Go.Proofs.Try.f3 [1, 1, 1, 1, 1, 1, 1, 0])) []]) fun w => by kernel_rfl) (fun _ _ => trivial) hS ?_
                      refine RunAny.y 8 (by kernel_rfl) (yl_pure (d := some 57) (v := .int .i64 (I64 ((x5_0.length : Int) - 4))) (k2 := [.inRegion (opsOf (pl Go.Proofs.Try.f3 [1, 1, 1, 1, 1, 1, 1, 0])) []]) fun w => by kernel_rfl) (fun _ _ => trivial) hS ?_
                      rcases two (decide (0 ≤ (I64 ((x5_0.length : Int) - 4)))) with c44 | c44
                      · replace h := of_true h c44
                        rcases two (decide ((I64 ((x5_0.length : Int) - 4)) ≤ (x5_0.length : Int))) with c45 | c45
                        · replace h := of_true h c45
                          have zc44 := of_decide_eq_true c44
                          have zc45 := of_decide_eq_true c45
                          obtain ⟨A46, n47, c48, hy49, rfl, hs50⟩ := cut (P := Go.Proofs.Try.prog) (n := 75) (k := (one (opsOf (pl Go.Proofs.Try.f3 [1, 1, 1, 1, 1, 1, 1, 0])) 9)) (L := (upd (upd (upd (upd (upd (upd (upd (upd (upd [(0, .slice Ap0 a0.length cp0), (5, .slice A5_0 x5_0.length c5_0), (6, .int .i64 t14)] (some 49) (.slice Ap0 a0.length cp0)) (some 50) (.slice Ap0 a0.length cp0)) (some 51) (.int .i64 (a0.length : Int))) (some 52) (.int .i64 (I64 ((a0.length : Int) - 4)))) (some 53) (.slice A39 (((a0.take ((a0.length : Int) : Int).toNat).drop (I64 ((a0.length : Int) - 4) : Int).toNat).length) c41)) (some 54) (.slice A5_0 x5_0.length c5_0)) (some 55) (.slice A5_0 x5_0.length c5_0)) (some 56) (.int .i64 (x5_0.length : Int))) (some 57) (.int .i64 (I64 ((x5_0.length : Int) - 4))))) (d := some 58) (A := A5_0) (m := x5_0.length) (c := c5_0) (l := I64 ((x5_0.length : Int) - 4)) (h := (x5_0.length : Int)) (k2 := [.inRegion (opsOf (pl Go.Proofs.Try.f3 [1, 1, 1, 1, 1, 1, 1, 0])) []]) .u8 x5_0 (by kernel_rfl) (by omega) (by omega) (by omega) (hM.rd 0 rfl)
                          clear zc44
                          clear zc45
                          refine RunAny.y 9 (by kernel_rfl) hy49 (fun _ _ => trivial) hS ?_
                          refine RunAny.y 10 (by kernel_rfl) (yl_pure (d := some 9) (v := .slice A39 (((a0.take ((a0.length : Int) : Int).toNat).drop (I64 ((a0.length : Int) - 4) : Int).toNat).length) c41) (k2 := [.inRegion (opsOf (pl Go.Proofs.Try.f3 [1, 1, 1, 1, 1, 1, 1, 0])) []]) fun w => by kernel_rfl) (fun _ _ => trivial) hS ?_
                          refine RunAny.y 11 (by kernel_rfl) (yl_pure (d := some 10) (v := .slice A46 (((x5_0.take ((x5_0.length : Int) : Int).toNat).drop (I64 ((x5_0.length : Int) - 4) : Int).toNat).length) c48) (k2 := [.inRegion (opsOf (pl Go.Proofs.Try.f3 [1, 1, 1, 1, 1, 1, 1, 0])) []]) fun w => by kernel_rfl) (fun _ _ => trivial) hS ?_
                          refine RunAny.done (by kernel_rfl) ?_
                          clear hS
                          refine RunF.go 3 [6, 10, 60] (k' := (pin Go.Proofs.Try.f3 [1, 1, 1, 1, 1, 1, 1, 1, 0] 1)) (L' := [(6, .int .i64 t14), (10, .slice A46 (((x5_0.take ((x5_0.length : Int) : Int).toNat).drop (I64 ((x5_0.length : Int) - 4) : Int).toNat).length) c48), (60, .slice A39 (((a0.take ((a0.length : Int) : Int).toNat).drop (I64 ((a0.length : Int) - 4) : Int).toNat).length) c41)]) (w' := W35) (by kernel_rfl) ?_
                          obtain ⟨t51, ht51, h⟩ := Option.bind_eq_some_iff.mp h
                          refine RunF.call (d := some 61) (g := 18) (args := #[.slice A39 (((a0.take ((a0.length : Int) : Int).toNat).drop (I64 ((a0.length : Int) - 4) : Int).toNat).length) c41]) (k2 := (pin Go.Proofs.Try.f3 [1, 1, 1, 1, 1, 1, 1, 1, 0] 2)) (by kernel_rfl) (words_Be32.calls k A39 (((a0.take ((a0.length : Int) : Int).toNat).drop (I64 ((a0.length : Int) - 4) : Int).toNat).length) c41 ((a0.take ((a0.length : Int) : Int).toNat).drop (I64 ((a0.length : Int) - 4) : Int).toNat) t51 _ (hs43 _ (hr0.mono hM.below)) ht51) ?_
                          rintro _ W52 ⟨rfl, hM_⟩
                          replace hM := hM.call hM_
                          clear hM_ ht51
                          refine RunF.go 9 [6, 11, 65] (k' := (pin Go.Proofs.Try.f3 [1, 1, 1, 1, 1, 1, 1, 1, 1, 0] 1)) (L' := [(6, .int .i64 t14), (11, .int .u32 t51.1), (65, .slice A46 (((x5_0.take ((x5_0.length : Int) : Int).toNat).drop (I64 ((x5_0.length : Int) - 4) : Int).toNat).length) c48)]) (w' := W52) (by kernel_rfl) ?_
                          obtain ⟨t53, ht53, h⟩ := Option.bind_eq_some_iff.mp h
                          refine RunF.call (d := some 66) (g := 18) (args := #[.slice A46 (((x5_0.take ((x5_0.length : Int) : Int).toNat).drop (I64 ((x5_0.length : Int) - 4) : Int).toNat).length) c48]) (k2 := (pin Go.Proofs.Try.f3 [1, 1, 1, 1, 1, 1, 1, 1, 1, 0] 2)) (by kernel_rfl) (words_Be32.calls k A46 (((x5_0.take ((x5_0.length : Int) : Int).toNat).drop (I64 ((x5_0.length : Int) - 4) : Int).toNat).length) c48 ((x5_0.take ((x5_0.length : Int) : Int).toNat).drop (I64 ((x5_0.length : Int) - 4) : Int).toNat) t53 _ (hs50 _ (hM.rd 0 rfl)) ht53) ?_
                          rintro _ W54 ⟨rfl, hM_⟩
                          replace hM := hM.call hM_
                          clear hM_ ht53
                          refine RunF.go 16 [4] (k' := (pl Go.Proofs.Try.f3 [1, 1, 1, 1, 1, 1, 1, 1, 1, 1, 1])) (L' := [(4, .bool (t53.1 == (U32 (t51.1 + (U32 (t14))))))]) (w' := W54) (by kernel_rfl) ?_
                          obtain rfl := Option.some.inj h
                          exact RunF.ret1 4 (.bool (t53.1 == (U32 (t51.1 + (U32 (t14)))))) (fn := Go.Proofs.Try.f3) Go.Proofs.Try.func3 (by kernel_rfl) (by kernel_rfl) (by kernel_rfl) ⟨_, rfl, rfl, (hM.pick [] rfl rfl)⟩
                        · replace h := of_false h c45
                          cases h
                      · replace h := of_false h c44
                        cases h
                    · replace h := of_false h c38
                      cases h
                  · replace h := of_false h c37
                    cases h
        exact l0 k (Nat.le_refl _) A8 c10 (([] : List Int) ++ a0) 0 _ (hM.pick [0] rfl rfl) h
      · replace h := of_false h c12
        cases h


end Go.Scr.S
