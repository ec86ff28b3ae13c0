/- The functions that the law WordsTurns reaches, as plain functions, and that each call answers so. -/
import Derived.Test.YtjhoigcoijinfaaProg
import Derived.Test.YtjhoigcoijinfaaXPure
set_option linter.unusedVariables false
set_option linter.unusedSimpArgs false
set_option linter.unnecessarySimpa false
namespace Go.Scr.S
/-! ### scrim/words.Inc: function 16 -/
def words_Inc.l0 : Nat → (List Int) → (List Int) → Int → Option (List Int)
  | 0, _, _, _ => none
  | k + 1, a0, x3_0, x4_0 => if (decide (x4_0 > 0)) = true then (if (decide (0 ≤ (I64 (x4_0 - 1)))) = true then (if (decide ((I64 (x4_0 - 1)) < (((List.replicate 0 0) ++ a0).length : Int))) = true then (if (decide (0 ≤ (I64 (x4_0 - 1)))) = true then (if (decide ((I64 (x4_0 - 1)) < (((List.replicate 0 0) ++ a0).length : Int))) = true then (if (decide (0 ≤ (I64 (x4_0 - 1)))) = true then (if (decide ((I64 (x4_0 - 1)) < (((List.replicate 0 0) ++ a0).length : Int))) = true then ((some (((rd (x3_0.set (I64 (x4_0 - 1) : Int).toNat (U8 ((rd x3_0 (I64 (x4_0 - 1))) + 1))) (I64 (x4_0 - 1))) == 0) : Bool)).bind fun y23 => (if y23 = true then (words_Inc.l0 k a0 (x3_0.set (I64 (x4_0 - 1) : Int).toNat (U8 ((rd x3_0 (I64 (x4_0 - 1))) + 1))) (I64 (x4_0 - 1))) else (some (x3_0.set (I64 (x4_0 - 1) : Int).toNat (U8 ((rd x3_0 (I64 (x4_0 - 1))) + 1)))))) else (none)) else (none)) else (none)) else (none)) else (none)) else (none)) else (some x3_0)
def words_Inc.f (k : Nat) (a0 : List Int) : Option (List Int) := if (decide (0 ≤ (a0.length : Int))) = true then (if (decide ((a0.length : Int) ≤ 1000000000)) = true then (if (decide ((List.replicate 0 0).length + a0.length ≤ 1000000000)) = true then (words_Inc.l0 k a0 ((List.replicate 0 0) ++ a0) (((List.replicate 0 0) ++ a0).length : Int)) else (none)) else (none)) else (none)
set_option maxRecDepth 100000 in
theorem words_Inc.calls (k : Nat) (Ap0 : Option Addr) (np0 cp0 : Nat) (a0 : List Int) (r : List Int) (w : World) (hr0 : Rd w (.slice Ap0 np0 cp0) (nums .u8 a0)) (h : words_Inc.f k a0 = some r) :
    Calls Go.Proofs.Try.prog 16 #[(.slice Ap0 np0 cp0)] w (Ret fun v w' => ∃ A0' n0' c0', v = .slice A0' n0' c0' ∧ Mem w w' [⟨.slice A0' n0' c0', 5, 1, nums .u8 r⟩]) := by
  obtain rfl : a0.length = np0 := by have h_ := hr0.1; simpa [nums_length, bools_length] using h_
  unfold words_Inc.f at h
  refine calls_of [.slice Ap0 a0.length cp0] (fn := Go.Proofs.Try.f16) Go.Proofs.Try.func16 (by kernel_rfl) (by kernel_rfl) ?_
  have hM := Mem.refl w
  refine RunF.go 9 [0, 6] (k' := (pin Go.Proofs.Try.f16 [1, 0, 0] 2)) (L' := [(0, .slice Ap0 a0.length cp0), (6, .int .i64 (a0.length : Int))]) (w' := w) (by kernel_rfl) ?_
  rcases two (decide (0 ≤ (a0.length : Int))) with c3 | c3
  · replace h := of_true h c3
    rcases two (decide ((a0.length : Int) ≤ 1000000000)) with c4 | c4
    · replace h := of_true h c4
      have := of_decide_eq_true c3
      have := of_decide_eq_true c4
      obtain ⟨W1, hD, hM', hB_⟩ := mk_does (P := Go.Proofs.Try.prog) (n := 28) (k := (pin Go.Proofs.Try.f16 [1, 0, 0] 2)) (L := [(0, .slice Ap0 a0.length cp0), (6, .int .i64 (a0.length : Int))]) (d := some 7) (e := 5) (z := .int .u8 0) (l := 0) (c := (a0.length : Int)) (k2 := (pin Go.Proofs.Try.f16 [1, 0, 0] 3)) (by kernel_rfl) (by omega) (by omega) (by omega) hM
      rw [rep_nums] at hM'
      refine RunF.does hD ?_
      replace hM := hM'; clear hD hM'
      generalize w.heap.size = g2 at hM ⊢
      refine RunF.go 1 [7, 8] (k' := (pin Go.Proofs.Try.f16 [1, 0, 0] 4)) (L' := [(7, .slice (some ⟨g2, 0, none⟩) 0 (((a0.length : Int) : Int).toNat)), (8, .slice Ap0 a0.length cp0)]) (w' := W1) (by kernel_rfl) ?_
      rcases two (decide ((List.replicate 0 0).length + a0.length ≤ 1000000000)) with c10 | c10
      · replace h := of_true h c10
        have h_ := of_decide_eq_true c10
        obtain ⟨A6, n7, c8, W9, hD, hM', hS_⟩ := app_does (P := Go.Proofs.Try.prog) (n := 28) (k := (pin Go.Proofs.Try.f16 [1, 0, 0] 4)) (L := [(7, .slice (some ⟨g2, 0, none⟩) 0 (((a0.length : Int) : Int).toNat)), (8, .slice Ap0 a0.length cp0)]) (d := some 9) (e := 5) (A := (some ⟨g2, 0, none⟩)) (m := 0) (c := ((a0.length : Int) : Int).toNat) (A2 := Ap0) (m2 := a0.length) (c2 := cp0) (cs := nums .u8 (List.replicate 0 0)) (ys := nums .u8 a0) (k2 := (pin Go.Proofs.Try.f16 [1, 0, 0] 5)) [] [] (by kernel_rfl) (hM.pick [0] rfl rfl) (hr0.mono hM.below) (one_nums _ _) (by omega)
        rw [nums_append] at hM'
        replace hM := hM'; clear h_ hM'
        obtain rfl : ((List.replicate 0 0) ++ a0).length = n7 := by have h_ := (hM.rd 0 rfl).1; simpa only [nums_length, bools_length] using h_
        refine RunF.does hD ?_
        clear hD hS_
        refine RunF.go 10 [3, 4] (k' := (pl Go.Proofs.Try.f16 [1, 0, 1, 1, 1])) (L' := [(3, .slice A6 (((List.replicate 0 0) ++ a0).length) c8), (4, .int .i64 (((List.replicate 0 0) ++ a0).length : Int))]) (w' := W9) (by kernel_rfl) ?_
        have l0 : ∀ (k_ : Nat), k_ ≤ k → ∀ (x3_0 : List Int) (x4_0 : Int) (W : World) (hM : Mem w W [⟨.slice A6 (((List.replicate 0 0) ++ a0).length) c8, 5, 1, nums .u8 x3_0⟩]) (h : words_Inc.l0 k_ a0 x3_0 x4_0 = some r), RunF Go.Proofs.Try.prog (Ret fun v w' => ∃ A0' n0' c0', v = .slice A0' n0' c0' ∧ Mem w w' [⟨.slice A0' n0' c0', 5, 1, nums .u8 r⟩]) 16 (pl Go.Proofs.Try.f16 [1, 0, 1, 1, 1]) 28 [(3, .slice A6 (((List.replicate 0 0) ++ a0).length) c8), (4, .int .i64 x4_0)] W := by
          intro k_
          induction k_ using Nat.strongRecOn with
          | _ k_ ih0 =>
            intro hk x3_0 x4_0 W hM h
            cases k_ with
            | zero => exact absurd h (by simp [words_Inc.l0])
            | succ k =>
              simp only [words_Inc.l0] at h
              replace ih0 : ∀ m, m ≤ k → _ := fun m hm => ih0 m (by omega) (by omega)
              refine RunF.go 6 [3, 4, 13] (k' := (pl Go.Proofs.Try.f16 [1, 0, 1, 1, 1, 0, 1])) (L' := [(3, .slice A6 (((List.replicate 0 0) ++ a0).length) c8), (4, .int .i64 x4_0), (13, .bool (decide (x4_0 > 0)))]) (w' := W) (by kernel_rfl) ?_
              rcases two (decide (x4_0 > 0)) with c12 | c12
              · replace h := of_true h c12
                refine RunF.know 13 (b := true) (by kernel_rfl) c12 ?_
                refine RunF.go 11 [3, 4, 16, 17] (k' := (pin Go.Proofs.Try.f16 [1, 0, 1, 1, 1, 0, 1, 0, 1, 0] 2)) (L' := [(3, .slice A6 (((List.replicate 0 0) ++ a0).length) c8), (4, .int .i64 (I64 (x4_0 - 1))), (16, .slice A6 (((List.replicate 0 0) ++ a0).length) c8), (17, .int .i64 (I64 (x4_0 - 1)))]) (w' := W) (by kernel_rfl) ?_
                rcases two (decide (0 ≤ (I64 (x4_0 - 1)))) with c14 | c14
                · replace h := of_true h c14
                  rcases two (decide ((I64 (x4_0 - 1)) < (((List.replicate 0 0) ++ a0).length : Int))) with c15 | c15
                  · replace h := of_true h c15
                    obtain ⟨q13, hAq13, hcq13, hfq13, hlq13⟩ := hM.num_at 0 rfl (i := I64 (x4_0 - 1)) (of_decide_eq_true c14) (by have h_ := of_decide_eq_true c15; omega)
                    refine RunF.y (idx_own (d := some 18) (A := A6) (m := ((List.replicate 0 0) ++ a0).length) (i := I64 (x4_0 - 1)) (k2 := (pin Go.Proofs.Try.f16 [1, 0, 1, 1, 1, 0, 1, 0, 1, 0] 3)) (by kernel_rfl) (of_decide_eq_true c14) (by have h_ := of_decide_eq_true c15; omega) hAq13) trivial ?_
                    refine RunF.y (ld_y (d := some 19) (p := ⟨q13, (I64 (x4_0 - 1) : Int).toNat, none⟩) (k2 := (pin Go.Proofs.Try.f16 [1, 0, 1, 1, 1, 0, 1, 0, 1, 0] 4)) (.int .u8 (rd x3_0 (I64 (x4_0 - 1)))) (by kernel_rfl)) hcq13 ?_
                    refine RunF.go 1 [3, 4, 16, 17, 20] (k' := (pin Go.Proofs.Try.f16 [1, 0, 1, 1, 1, 0, 1, 0, 1, 0] 5)) (L' := [(3, .slice A6 (((List.replicate 0 0) ++ a0).length) c8), (4, .int .i64 (I64 (x4_0 - 1))), (16, .slice A6 (((List.replicate 0 0) ++ a0).length) c8), (17, .int .i64 (I64 (x4_0 - 1))), (20, .int .u8 (U8 ((rd x3_0 (I64 (x4_0 - 1))) + 1)))]) (w' := W) (by kernel_rfl) ?_
                    rcases two (decide (0 ≤ (I64 (x4_0 - 1)))) with c17 | c17
                    · replace h := of_true h c17
                      rcases two (decide ((I64 (x4_0 - 1)) < (((List.replicate 0 0) ++ a0).length : Int))) with c18 | c18
                      · replace h := of_true h c18
                        obtain ⟨q16, hAq16, hcq16, hfq16, hlq16⟩ := hM.num_at 0 rfl (i := I64 (x4_0 - 1)) (of_decide_eq_true c17) (by have h_ := of_decide_eq_true c18; omega)
                        refine RunF.y (idx_own (d := some 21) (A := A6) (m := ((List.replicate 0 0) ++ a0).length) (i := I64 (x4_0 - 1)) (k2 := (pin Go.Proofs.Try.f16 [1, 0, 1, 1, 1, 0, 1, 0, 1, 0] 6)) (by kernel_rfl) (of_decide_eq_true c17) (by have h_ := of_decide_eq_true c18; omega) hAq16) trivial ?_
                        obtain ⟨g_, hA_, hc_, hf_, hl_⟩ := hM.num_at 0 rfl (i := I64 (x4_0 - 1)) (of_decide_eq_true c17) (by have h_ := of_decide_eq_true c18; omega)
                        obtain rfl : q16 = g_ := by rw [hAq16] at hA_; injection hA_ with hA_; injection hA_
                        refine RunF.doesU (st_u (p := (⟨q16, (I64 (x4_0 - 1) : Int).toNat, none⟩ : Addr)) (v := .int .u8 (U8 ((rd x3_0 (I64 (x4_0 - 1))) + 1))) (k2 := (pin Go.Proofs.Try.f16 [1, 0, 1, 1, 1, 0, 1, 0, 1, 0] 7)) (by kernel_rfl) hc_ hf_) ?_
                        replace hM : Mem w (W.setCell (⟨q16, (I64 (x4_0 - 1) : Int).toNat, none⟩ : Addr) (.int .u8 (U8 ((rd x3_0 (I64 (x4_0 - 1))) + 1)))) [⟨.slice A6 (((List.replicate 0 0) ++ a0).length) c8, 5, 1, nums .u8 (x3_0.set (I64 (x4_0 - 1) : Int).toNat (U8 ((rd x3_0 (I64 (x4_0 - 1))) + 1)))⟩] := Mem.put_num [] [] (hM.pick [0] rfl rfl) hAq16 _ hl_ _
                        generalize W.setCell (⟨q16, (I64 (x4_0 - 1) : Int).toNat, none⟩ : Addr) (.int .u8 (U8 ((rd x3_0 (I64 (x4_0 - 1))) + 1))) = W19 at hM ⊢
                        clear hc_ hf_ hl_ hA_ hcq16
                        refine RunF.go 5 [3, 4, 22, 23] (k' := (pin Go.Proofs.Try.f16 [1, 0, 1, 1, 1, 0, 1, 0, 1, 1, 0] 2)) (L' := [(3, .slice A6 (((List.replicate 0 0) ++ a0).length) c8), (4, .int .i64 (I64 (x4_0 - 1))), (22, .slice A6 (((List.replicate 0 0) ++ a0).length) c8), (23, .int .i64 (I64 (x4_0 - 1)))]) (w' := W19) (by kernel_rfl) ?_
                        rcases two (decide (0 ≤ (I64 (x4_0 - 1)))) with c21 | c21
                        · replace h := of_true h c21
                          rcases two (decide ((I64 (x4_0 - 1)) < (((List.replicate 0 0) ++ a0).length : Int))) with c22 | c22
                          · replace h := of_true h c22
                            obtain ⟨q20, hAq20, hcq20, hfq20, hlq20⟩ := hM.num_at 0 rfl (i := I64 (x4_0 - 1)) (of_decide_eq_true c21) (by have h_ := of_decide_eq_true c22; omega)
                            refine RunF.y (idx_own (d := some 24) (A := A6) (m := ((List.replicate 0 0) ++ a0).length) (i := I64 (x4_0 - 1)) (k2 := (pin Go.Proofs.Try.f16 [1, 0, 1, 1, 1, 0, 1, 0, 1, 1, 0] 3)) (by kernel_rfl) (of_decide_eq_true c21) (by have h_ := of_decide_eq_true c22; omega) hAq20) trivial ?_
                            refine RunF.y (ld_y (d := some 25) (p := ⟨q20, (I64 (x4_0 - 1) : Int).toNat, none⟩) (k2 := (pin Go.Proofs.Try.f16 [1, 0, 1, 1, 1, 0, 1, 0, 1, 1, 0] 4)) (.int .u8 (rd (x3_0.set (I64 (x4_0 - 1) : Int).toNat (U8 ((rd x3_0 (I64 (x4_0 - 1))) + 1))) (I64 (x4_0 - 1)))) (by kernel_rfl)) hcq20 ?_
                            refine RunF.go 2 [3, 4, 26] (k' := (pl Go.Proofs.Try.f16 [1, 0, 1, 1, 1, 0, 1, 0, 1, 1, 1])) (L' := [(3, .slice A6 (((List.replicate 0 0) ++ a0).length) c8), (4, .int .i64 (I64 (x4_0 - 1))), (26, .bool ((rd (x3_0.set (I64 (x4_0 - 1) : Int).toNat (U8 ((rd x3_0 (I64 (x4_0 - 1))) + 1))) (I64 (x4_0 - 1))) == 0))]) (w' := W19) (by kernel_rfl) ?_
                            obtain ⟨y23, hy, h⟩ := Option.bind_eq_some_iff.mp h
                            rw [show (((rd (x3_0.set (I64 (x4_0 - 1) : Int).toNat (U8 ((rd x3_0 (I64 (x4_0 - 1))) + 1))) (I64 (x4_0 - 1))) == 0)) = y23 from Option.some.inj hy]
                            clear hy
                            rcases two (y23) with c24 | c24
                            · replace h := of_true h c24
                              refine RunF.know 26 (b := true) (by kernel_rfl) c24 ?_
                              refine RunF.go 4 [3, 4] (k' := (pl Go.Proofs.Try.f16 [1, 0, 1, 1, 1])) (L' := [(3, .slice A6 (((List.replicate 0 0) ++ a0).length) c8), (4, .int .i64 (I64 (x4_0 - 1)))]) (w' := W19) (by kernel_rfl) ?_
                              exact ih0 k (by omega) (x3_0.set (I64 (x4_0 - 1) : Int).toNat (U8 ((rd x3_0 (I64 (x4_0 - 1))) + 1))) (I64 (x4_0 - 1)) _ (hM.pick [0] rfl rfl) h
                            · replace h := of_false h c24
                              refine RunF.know 26 (b := false) (by kernel_rfl) c24 ?_
                              refine RunF.go 7 [2] (k' := (pl Go.Proofs.Try.f16 [1, 0, 1, 1, 1, 1, 1])) (L' := [(2, .slice A6 (((List.replicate 0 0) ++ a0).length) c8)]) (w' := W19) (by kernel_rfl) ?_
                              obtain rfl := Option.some.inj h
                              exact RunF.ret1 2 (.slice A6 (((List.replicate 0 0) ++ a0).length) c8) (fn := Go.Proofs.Try.f16) Go.Proofs.Try.func16 (by kernel_rfl) (by kernel_rfl) (by kernel_rfl) ⟨_, rfl, A6, ((List.replicate 0 0) ++ a0).length, c8, rfl, (hM.pick [0] rfl rfl)⟩
                          · replace h := of_false h c22
                            cases h
                        · replace h := of_false h c21
                          cases h
                      · replace h := of_false h c18
                        cases h
                    · replace h := of_false h c17
                      cases h
                  · replace h := of_false h c15
                    cases h
                · replace h := of_false h c14
                  cases h
              · replace h := of_false h c12
                refine RunF.know 13 (b := false) (by kernel_rfl) c12 ?_
                refine RunF.go 7 [2] (k' := (pl Go.Proofs.Try.f16 [1, 0, 1, 1, 1, 1, 1])) (L' := [(2, .slice A6 (((List.replicate 0 0) ++ a0).length) c8)]) (w' := W) (by kernel_rfl) ?_
                obtain rfl := Option.some.inj h
                exact RunF.ret1 2 (.slice A6 (((List.replicate 0 0) ++ a0).length) c8) (fn := Go.Proofs.Try.f16) Go.Proofs.Try.func16 (by kernel_rfl) (by kernel_rfl) (by kernel_rfl) ⟨_, rfl, A6, ((List.replicate 0 0) ++ a0).length, c8, rfl, (hM.pick [0] rfl rfl)⟩
        exact l0 k (Nat.le_refl _) ((List.replicate 0 0) ++ a0) (((List.replicate 0 0) ++ a0).length : Int) _ (hM.pick [0] rfl rfl) h
      · replace h := of_false h c10
        cases h
    · replace h := of_false h c4
      cases h
  · replace h := of_false h c3
    cases h

/-! ### scrim/words.load: function 38 -/
def words_load.l0 : Nat → (List Int) → Int → Int → Option (Int)
  | 0, _, _, _ => none
  | k + 1, a0, x3_0, x4_0 => if (decide (x4_0 < (a0.length : Int))) = true then (if (decide (0 ≤ x4_0)) = true then (if (decide (x4_0 < (a0.length : Int))) = true then ((some (bor .u64 (shl .u64 x3_0 8) (U64 (rd a0 x4_0)) : Int)).bind fun y5 => (words_load.l0 k a0 y5 (I64 (x4_0 + 1)))) else (none)) else (none)) else (some x3_0)
def words_load.f (k : Nat) (a0 : List Int) : Option (Int) := words_load.l0 k a0 0 0
set_option maxRecDepth 100000 in
theorem words_load.calls (k : Nat) (Ap0 : Option Addr) (np0 cp0 : Nat) (a0 : List Int) (r : Int) (w : World) (hr0 : Rd w (.slice Ap0 np0 cp0) (nums .u8 a0)) (h : words_load.f k a0 = some r) :
    Calls Go.Proofs.Try.prog 38 #[(.slice Ap0 np0 cp0)] w (Ret fun v w' => v = .int .u64 r ∧ Mem w w' []) := by
  obtain rfl : a0.length = np0 := by have h_ := hr0.1; simpa [nums_length, bools_length] using h_
  unfold words_load.f at h
  refine calls_of [.slice Ap0 a0.length cp0] (fn := Go.Proofs.Try.f38) Go.Proofs.Try.func38 (by kernel_rfl) (by kernel_rfl) ?_
  have hM := Mem.refl w
  refine RunF.go 12 [0, 3, 4] (k' := (pl Go.Proofs.Try.f38 [1, 0, 1, 1])) (L' := [(0, .slice Ap0 a0.length cp0), (3, .int .u64 0), (4, .int .i64 0)]) (w' := w) (by kernel_rfl) ?_
  have l0 : ∀ (k_ : Nat), k_ ≤ k → ∀ (x3_0 : Int) (x4_0 : Int) (W : World) (hM : Mem w W []) (h : words_load.l0 k_ a0 x3_0 x4_0 = some r), RunF Go.Proofs.Try.prog (Ret fun v w' => v = .int .u64 r ∧ Mem w w' []) 38 (pl Go.Proofs.Try.f38 [1, 0, 1, 1]) 20 [(0, .slice Ap0 a0.length cp0), (3, .int .u64 x3_0), (4, .int .i64 x4_0)] W := by
    intro k_
    induction k_ using Nat.strongRecOn with
    | _ k_ ih0 =>
      intro hk x3_0 x4_0 W hM h
      cases k_ with
      | zero => exact absurd h (by simp [words_load.l0])
      | succ k =>
        simp only [words_load.l0] at h
        replace ih0 : ∀ m, m ≤ k → _ := fun m hm => ih0 m (by omega) (by omega)
        refine RunF.go 8 [0, 3, 4, 8] (k' := (pl Go.Proofs.Try.f38 [1, 0, 1, 1, 0, 1])) (L' := [(0, .slice Ap0 a0.length cp0), (3, .int .u64 x3_0), (4, .int .i64 x4_0), (8, .bool (decide (x4_0 < (a0.length : Int))))]) (w' := W) (by kernel_rfl) ?_
        rcases two (decide (x4_0 < (a0.length : Int))) with c1 | c1
        · replace h := of_true h c1
          refine RunF.know 8 (b := true) (by kernel_rfl) c1 ?_
          refine RunF.go 7 [0, 4, 10, 11, 12] (k' := (pin Go.Proofs.Try.f38 [1, 0, 1, 1, 0, 1, 0, 0] 4)) (L' := [(0, .slice Ap0 a0.length cp0), (4, .int .i64 x4_0), (10, .int .u64 (shl .u64 x3_0 8)), (11, .slice Ap0 a0.length cp0), (12, .int .i64 x4_0)]) (w' := W) (by kernel_rfl) ?_
          rcases two (decide (0 ≤ x4_0)) with c3 | c3
          · replace h := of_true h c3
            rcases two (decide (x4_0 < (a0.length : Int))) with c4 | c4
            · replace h := of_true h c4
              obtain ⟨q2, hAq2, hcq2⟩ := Rd.num (hr0.mono hM.below) (i := x4_0) (of_decide_eq_true c3) (by have h_ := of_decide_eq_true c4; omega)
              refine RunF.y (idx_y (d := some 13) (A := Ap0) (m := a0.length) (i := x4_0) (k2 := (pin Go.Proofs.Try.f38 [1, 0, 1, 1, 0, 1, 0, 0] 5)) (by kernel_rfl) (of_decide_eq_true c3) (by have h_ := of_decide_eq_true c4; omega) hAq2) trivial ?_
              refine RunF.y (ld_y (d := some 14) (p := (q2.add (x4_0 : Int).toNat)) (k2 := (pin Go.Proofs.Try.f38 [1, 0, 1, 1, 0, 1, 0, 0] 6)) (.int .u8 (rd a0 x4_0)) (by kernel_rfl)) hcq2 ?_
              refine RunF.go 13 [0, 3, 4] (k' := (pl Go.Proofs.Try.f38 [1, 0, 1, 1])) (L' := [(0, .slice Ap0 a0.length cp0), (3, .int .u64 (bor .u64 (shl .u64 x3_0 8) (U64 (rd a0 x4_0)))), (4, .int .i64 (I64 (x4_0 + 1)))]) (w' := W) (by kernel_rfl) ?_
              obtain ⟨y5, hy, h⟩ := Option.bind_eq_some_iff.mp h
              rw [show (bor .u64 (shl .u64 x3_0 8) (U64 (rd a0 x4_0))) = y5 from Option.some.inj hy]
              clear hy
              exact ih0 k (by omega) y5 (I64 (x4_0 + 1)) _ (hM.pick [] rfl rfl) h
            · replace h := of_false h c4
              cases h
          · replace h := of_false h c3
            cases h
        · replace h := of_false h c1
          refine RunF.know 8 (b := false) (by kernel_rfl) c1 ?_
          refine RunF.go 7 [2] (k' := (pl Go.Proofs.Try.f38 [1, 0, 1, 1, 1, 1])) (L' := [(2, .int .u64 x3_0)]) (w' := W) (by kernel_rfl) ?_
          obtain rfl := Option.some.inj h
          exact RunF.ret1 2 (.int .u64 x3_0) (fn := Go.Proofs.Try.f38) Go.Proofs.Try.func38 (by kernel_rfl) (by kernel_rfl) (by kernel_rfl) ⟨_, rfl, rfl, (hM.pick [] rfl rfl)⟩
  exact l0 k (Nat.le_refl _) 0 0 _ (hM.pick [] rfl rfl) h

/-! ### scrim/words.Be32: function 18 -/
def words_Be32.f (k : Nat) (a0 : List Int) : Option (Int × Bool) := if ((a0.length : Int) != 4) = true then (some (0, false)) else ((words_load.f k a0).bind fun t2 => (some (U32 (t2), true)))
set_option maxRecDepth 100000 in
theorem words_Be32.calls (k : Nat) (Ap0 : Option Addr) (np0 cp0 : Nat) (a0 : List Int) (r : Int × Bool) (w : World) (hr0 : Rd w (.slice Ap0 np0 cp0) (nums .u8 a0)) (h : words_Be32.f k a0 = some r) :
    Calls Go.Proofs.Try.prog 18 #[(.slice Ap0 np0 cp0)] w (Ret fun v w' => v = .tuple #[.int .u32 r.1, .bool r.2] ∧ Mem w w' []) := by
  obtain rfl : a0.length = np0 := by have h_ := hr0.1; simpa [nums_length, bools_length] using h_
  unfold words_Be32.f at h
  refine calls_of [.slice Ap0 a0.length cp0] (fn := Go.Proofs.Try.f18) Go.Proofs.Try.func18 (by kernel_rfl) (by kernel_rfl) ?_
  have hM := Mem.refl w
  refine RunF.go 12 [0, 6] (k' := (pl Go.Proofs.Try.f18 [1, 0, 1])) (L' := [(0, .slice Ap0 a0.length cp0), (6, .bool ((a0.length : Int) != 4))]) (w' := w) (by kernel_rfl) ?_
  rcases two (((a0.length : Int) != 4)) with c1 | c1
  · replace h := of_true h c1
    refine RunF.know 6 (b := true) (by kernel_rfl) c1 ?_
    refine RunF.go 6 [2, 3] (k' := (pl Go.Proofs.Try.f18 [1, 0, 1, 0, 1])) (L' := [(2, .int .u32 0), (3, .bool false)]) (w' := w) (by kernel_rfl) ?_
    obtain rfl := Option.some.inj h
    exact RunF.ret2 2 3 (.int .u32 0) (.bool false) (fn := Go.Proofs.Try.f18) Go.Proofs.Try.func18 (by kernel_rfl) (by kernel_rfl) (by kernel_rfl) (by kernel_rfl) ⟨_, rfl, rfl, (hM.pick [] rfl rfl)⟩
  · replace h := of_false h c1
    refine RunF.know 6 (b := false) (by kernel_rfl) c1 ?_
    refine RunF.go 5 [7] (k' := (pin Go.Proofs.Try.f18 [1, 1, 0] 1)) (L' := [(7, .slice Ap0 a0.length cp0)]) (w' := w) (by kernel_rfl) ?_
    obtain ⟨t2, ht2, h⟩ := Option.bind_eq_some_iff.mp h
    refine RunF.call (d := some 8) (g := 38) (args := #[.slice Ap0 a0.length cp0]) (k2 := (pin Go.Proofs.Try.f18 [1, 1, 0] 2)) (by kernel_rfl) (words_load.calls k Ap0 a0.length cp0 a0 t2 _ (hr0.mono hM.below) ht2) ?_
    rintro _ W3 ⟨rfl, hM_⟩
    replace hM := hM.call hM_
    clear hM_ ht2
    refine RunF.go 4 [2, 3] (k' := (pl Go.Proofs.Try.f18 [1, 1, 1])) (L' := [(2, .int .u32 (U32 (t2))), (3, .bool true)]) (w' := W3) (by kernel_rfl) ?_
    obtain rfl := Option.some.inj h
    exact RunF.ret2 2 3 (.int .u32 (U32 (t2))) (.bool true) (fn := Go.Proofs.Try.f18) Go.Proofs.Try.func18 (by kernel_rfl) (by kernel_rfl) (by kernel_rfl) (by kernel_rfl) ⟨_, rfl, rfl, (hM.pick [] rfl rfl)⟩

/-! ### scrim/words.rest: function 43 -/
def words_rest.f (k : Nat) (a0 : Int) (a1 : Int) : Option (Int) := if (decide (a1 = 0)) = true then (none) else (if (decide (a1 = 0)) = true then (none) else (some (Int.tmod (I64 ((Int.tmod a0 a1) + a1)) a1)))
set_option maxRecDepth 100000 in
theorem words_rest.calls (k : Nat) (a0 : Int) (a1 : Int) (r : Int) (w : World) (h : words_rest.f k a0 a1 = some r) :
    Calls Go.Proofs.Try.prog 43 #[.int .i64 a0, .int .i64 a1] w (Ret fun v w' => v = .int .i64 r ∧ Mem w w' []) := by
  unfold words_rest.f at h
  refine calls_of [.int .i64 a0, .int .i64 a1] (fn := Go.Proofs.Try.f43) Go.Proofs.Try.func43 (by kernel_rfl) (by kernel_rfl) ?_
  have hM := Mem.refl w
  refine RunF.go 8 [1, 5, 6] (k' := (pin Go.Proofs.Try.f43 [1, 0] 2)) (L' := [(1, .int .i64 a1), (5, .int .i64 a0), (6, .int .i64 a1)]) (w' := w) (by kernel_rfl) ?_
  rcases two (decide (a1 = 0)) with c1 | c1
  · replace h := of_true h c1
    cases h
  · replace h := of_false h c1
    refine RunF.y (div_y (d := some 7) (b := false) (kd := .i64) (x := a0) (y := a1) (k2 := (pin Go.Proofs.Try.f43 [1, 0] 3)) (by kernel_rfl) c1) trivial ?_
    refine RunF.go 3 [9, 10] (k' := (pin Go.Proofs.Try.f43 [1, 0] 6)) (L' := [(9, .int .i64 (I64 ((Int.tmod a0 a1) + a1))), (10, .int .i64 a1)]) (w' := w) (by kernel_rfl) ?_
    rcases two (decide (a1 = 0)) with c2 | c2
    · replace h := of_true h c2
      cases h
    · replace h := of_false h c2
      refine RunF.y (div_y (d := some 11) (b := false) (kd := .i64) (x := I64 ((Int.tmod a0 a1) + a1)) (y := a1) (k2 := (pin Go.Proofs.Try.f43 [1, 0] 7)) (by kernel_rfl) c2) trivial ?_
      refine RunF.go 2 [4] (k' := (pl Go.Proofs.Try.f43 [1, 1])) (L' := [(4, .int .i64 (Int.tmod (I64 ((Int.tmod a0 a1) + a1)) a1))]) (w' := w) (by kernel_rfl) ?_
      obtain rfl := Option.some.inj h
      exact RunF.ret1 4 (.int .i64 (Int.tmod (I64 ((Int.tmod a0 a1) + a1)) a1)) (fn := Go.Proofs.Try.f43) Go.Proofs.Try.func43 (by kernel_rfl) (by kernel_rfl) (by kernel_rfl) ⟨_, rfl, rfl, (hM.pick [] rfl rfl)⟩

/-! ### scrim/words.Rol8: function 28 -/
def words_Rol8.f (k : Nat) (a0 : Int) (a1 : Int) : Option (Int) := (words_rest.f k a1 8).bind fun t1 => (if (decide (0 ≤ (U64 (t1)))) = true then (if (decide (0 ≤ (U64 (8 - (U64 (t1)))))) = true then (some (bor .u8 (shlv .u8 a0 (U64 (t1))) (shrv .u8 a0 (U64 (8 - (U64 (t1))))))) else (none)) else (none))
set_option maxRecDepth 100000 in
theorem words_Rol8.calls (k : Nat) (a0 : Int) (a1 : Int) (r : Int) (w : World) (h : words_Rol8.f k a0 a1 = some r) :
    Calls Go.Proofs.Try.prog 28 #[.int .u8 a0, .int .i64 a1] w (Ret fun v w' => v = .int .u8 r ∧ Mem w w' []) := by
  unfold words_Rol8.f at h
  refine calls_of [.int .u8 a0, .int .i64 a1] (fn := Go.Proofs.Try.f28) Go.Proofs.Try.func28 (by kernel_rfl) (by kernel_rfl) ?_
  have hM := Mem.refl w
  refine RunF.go 7 [0, 6] (k' := (pin Go.Proofs.Try.f28 [1, 0] 1)) (L' := [(0, .int .u8 a0), (6, .int .i64 a1)]) (w' := w) (by kernel_rfl) ?_
  obtain ⟨t1, ht1, h⟩ := Option.bind_eq_some_iff.mp h
  refine RunF.call (d := some 7) (g := 43) (args := #[.int .i64 a1, .int .i64 8]) (k2 := (pin Go.Proofs.Try.f28 [1, 0] 2)) (by kernel_rfl) (words_rest.calls k a1 8 t1 _ ht1) ?_
  rintro _ W2 ⟨rfl, hM_⟩
  replace hM := hM.call hM_
  clear hM_ ht1
  refine RunF.go 7 [0, 5, 9, 10] (k' := (pin Go.Proofs.Try.f28 [1, 1, 0] 2)) (L' := [(0, .int .u8 a0), (5, .int .u64 (U64 (t1))), (9, .int .u8 a0), (10, .int .u64 (U64 (t1)))]) (w' := W2) (by kernel_rfl) ?_
  rcases two (decide (0 ≤ (U64 (t1)))) with c3 | c3
  · replace h := of_true h c3
    refine RunF.y (sh_y (d := some 11) (b := true) (kd := .u8) (x := a0) (y := U64 (t1)) (k2 := (pin Go.Proofs.Try.f28 [1, 1, 0] 3)) (by kernel_rfl) c3) trivial ?_
    refine RunF.go 3 [11, 12, 14] (k' := (pin Go.Proofs.Try.f28 [1, 1, 0] 6)) (L' := [(11, .int .u8 (shlv .u8 a0 (U64 (t1)))), (12, .int .u8 a0), (14, .int .u64 (U64 (8 - (U64 (t1)))))]) (w' := W2) (by kernel_rfl) ?_
    rcases two (decide (0 ≤ (U64 (8 - (U64 (t1)))))) with c4 | c4
    · replace h := of_true h c4
      refine RunF.y (sh_y (d := some 15) (b := false) (kd := .u8) (x := a0) (y := U64 (8 - (U64 (t1)))) (k2 := (pin Go.Proofs.Try.f28 [1, 1, 0] 7)) (by kernel_rfl) c4) trivial ?_
      refine RunF.go 3 [4] (k' := (pl Go.Proofs.Try.f28 [1, 1, 1])) (L' := [(4, .int .u8 (bor .u8 (shlv .u8 a0 (U64 (t1))) (shrv .u8 a0 (U64 (8 - (U64 (t1)))))))]) (w' := W2) (by kernel_rfl) ?_
      obtain rfl := Option.some.inj h
      exact RunF.ret1 4 (.int .u8 (bor .u8 (shlv .u8 a0 (U64 (t1))) (shrv .u8 a0 (U64 (8 - (U64 (t1))))))) (fn := Go.Proofs.Try.f28) Go.Proofs.Try.func28 (by kernel_rfl) (by kernel_rfl) (by kernel_rfl) ⟨_, rfl, rfl, (hM.pick [] rfl rfl)⟩
    · replace h := of_false h c4
      cases h
  · replace h := of_false h c3
    cases h

/-! ### scrim/scrimlaw1.known: function 14 -/
def scrimlaw1_known.f (k : Nat)  : Option (Bool) := (words_Inc.f k ([0, 255] : List Int)).bind fun t4 => ((words_Be32.f k ([1, 2, 3, 4] : List Int)).bind fun t13 => ((some (((strOf t4).toList == (⟨#[1, 0]⟩ : ByteArray).toList) : Bool)).bind fun y15 => (if y15 = true then (if t13.2 = true then (if (t13.1 == 16909060) = true then ((words_Rol8.f k 129 1).bind fun t19 => (some (t19 == 3))) else (some false)) else (some false)) else (some false))))
set_option maxRecDepth 100000 in
theorem scrimlaw1_known.calls (k : Nat)  (r : Bool) (w : World) (h : scrimlaw1_known.f k = some r) :
    Calls Go.Proofs.Try.prog 14 #[] w (Ret fun v w' => v = .bool r ∧ Mem w w' []) := by
  unfold scrimlaw1_known.f at h
  refine calls_of [] (fn := Go.Proofs.Try.f14) Go.Proofs.Try.func14 (by kernel_rfl) (by kernel_rfl) ?_
  have hM := Mem.refl w
  refine RunF.go 6 [] (k' := (pin Go.Proofs.Try.f14 [1, 0] 0)) (L' := []) (w' := w) (by kernel_rfl) ?_
  refine RunF.new 5 1 2 (nums .u8 [0, 255]) (d := some 4) (k2 := (pin Go.Proofs.Try.f14 [1, 0] 1)) hM (by simp [nums, bools]) (by kernel_rfl) (by kernel_rfl) ?_
  replace hM := hM
  intro g1 W2 hM
  obtain ⟨t4, ht4, h⟩ := Option.bind_eq_some_iff.mp h
  refine RunF.call (d := some 5) (g := 16) (args := #[.slice (some ⟨g1, 0, none⟩) 2 2]) (k2 := (pin Go.Proofs.Try.f14 [1, 0] 2)) (by kernel_rfl) (words_Inc.calls k (some ⟨g1, 0, none⟩) 2 2 ([0, 255] : List Int) t4 _ (hM.rd 0 rfl) ht4) ?_
  rintro _ W5 ⟨A6, n7, c8, rfl, hM_⟩
  obtain rfl : t4.length = n7 := by have h_ := (hM_.rd 0 rfl).1; simpa [nums_length, bools_length] using h_
  replace hM := hM.call hM_
  clear hM_ ht4
  refine RunF.go 4 [1] (k' := (pin Go.Proofs.Try.f14 [1, 1, 0] 0)) (L' := [(1, .slice A6 t4.length c8)]) (w' := W5) (by kernel_rfl) ?_
  refine RunF.new 5 1 4 (nums .u8 [1, 2, 3, 4]) (d := some 7) (k2 := (pin Go.Proofs.Try.f14 [1, 1, 0] 1)) hM (by simp [nums, bools]) (by kernel_rfl) (by kernel_rfl) ?_
  replace hM := hM
  intro g10 W11 hM
  obtain ⟨t13, ht13, h⟩ := Option.bind_eq_some_iff.mp h
  refine RunF.call (d := some 8) (g := 18) (args := #[.slice (some ⟨g10, 0, none⟩) 4 4]) (k2 := (pin Go.Proofs.Try.f14 [1, 1, 0] 2)) (by kernel_rfl) (words_Be32.calls k (some ⟨g10, 0, none⟩) 4 4 ([1, 2, 3, 4] : List Int) t13 _ (hM.rd 0 rfl) ht13) ?_
  rintro _ W14 ⟨rfl, hM_⟩
  replace hM := hM.call hM_
  clear hM_ ht13
  refine RunF.go 9 [2, 3, 11] (k' := (pin Go.Proofs.Try.f14 [1, 1, 1, 0] 1)) (L' := [(2, .int .u32 t13.1), (3, .bool t13.2), (11, .slice A6 t4.length c8)]) (w' := W14) (by kernel_rfl) ?_
  refine RunF.y (str_y (d := some 12) (A := A6) (m := t4.length) (c := c8) (k2 := (pin Go.Proofs.Try.f14 [1, 1, 1, 0] 2)) t4 (by kernel_rfl)) (hM.rd 1 rfl) ?_
  refine RunF.go 2 [2, 3, 14] (k' := (pin Go.Proofs.Try.f14 [1, 1, 1, 0] 4)) (L' := [(2, .int .u32 t13.1), (3, .bool t13.2), (14, .bool ((strOf t4).toList == (⟨#[1, 0]⟩ : ByteArray).toList))]) (w' := W14) (by kernel_rfl) ?_
  obtain ⟨y15, hy, h⟩ := Option.bind_eq_some_iff.mp h
  rw [show (((strOf t4).toList == (⟨#[1, 0]⟩ : ByteArray).toList)) = y15 from Option.some.inj hy]
  clear hy
  rcases two (y15) with c16 | c16
  · replace h := of_true h c16
    refine RunF.know 14 (b := true) (by kernel_rfl) c16 ?_
    refine RunF.go 3 [2, 17] (k' := (pin Go.Proofs.Try.f14 [1, 1, 1, 0] 7)) (L' := [(2, .int .u32 t13.1), (17, .bool t13.2)]) (w' := W14) (by kernel_rfl) ?_
    rcases two (t13.2) with c17 | c17
    · replace h := of_true h c17
      refine RunF.know 17 (b := true) (by kernel_rfl) c17 ?_
      refine RunF.go 4 [21] (k' := (pin Go.Proofs.Try.f14 [1, 1, 1, 0] 11)) (L' := [(21, .bool (t13.1 == 16909060))]) (w' := W14) (by kernel_rfl) ?_
      rcases two ((t13.1 == 16909060)) with c18 | c18
      · replace h := of_true h c18
        refine RunF.know 21 (b := true) (by kernel_rfl) c18 ?_
        obtain ⟨t19, ht19, h⟩ := Option.bind_eq_some_iff.mp h
        refine RunF.call (d := some 22) (g := 28) (args := #[.int .u8 129, .int .i64 1]) (k2 := (pin Go.Proofs.Try.f14 [1, 1, 1, 0] 12)) (by kernel_rfl) (words_Rol8.calls k 129 1 t19 _ ht19) ?_
        rintro _ W20 ⟨rfl, hM_⟩
        replace hM := hM.call hM_
        clear hM_ ht19
        refine RunF.go 4 [0] (k' := (pl Go.Proofs.Try.f14 [1, 1, 1, 1])) (L' := [(0, .bool (t19 == 3))]) (w' := W20) (by kernel_rfl) ?_
        obtain rfl := Option.some.inj h
        exact RunF.ret1 0 (.bool (t19 == 3)) (fn := Go.Proofs.Try.f14) Go.Proofs.Try.func14 (by kernel_rfl) (by kernel_rfl) (by kernel_rfl) ⟨_, rfl, rfl, (hM.pick [] rfl rfl)⟩
      · replace h := of_false h c18
        refine RunF.know 21 (b := false) (by kernel_rfl) c18 ?_
        refine RunF.go 5 [0] (k' := (pl Go.Proofs.Try.f14 [1, 1, 1, 1])) (L' := [(0, .bool false)]) (w' := W14) (by kernel_rfl) ?_
        obtain rfl := Option.some.inj h
        exact RunF.ret1 0 (.bool false) (fn := Go.Proofs.Try.f14) Go.Proofs.Try.func14 (by kernel_rfl) (by kernel_rfl) (by kernel_rfl) ⟨_, rfl, rfl, (hM.pick [] rfl rfl)⟩
    · replace h := of_false h c17
      refine RunF.know 17 (b := false) (by kernel_rfl) c17 ?_
      refine RunF.go 9 [0] (k' := (pl Go.Proofs.Try.f14 [1, 1, 1, 1])) (L' := [(0, .bool false)]) (w' := W14) (by kernel_rfl) ?_
      obtain rfl := Option.some.inj h
      exact RunF.ret1 0 (.bool false) (fn := Go.Proofs.Try.f14) Go.Proofs.Try.func14 (by kernel_rfl) (by kernel_rfl) (by kernel_rfl) ⟨_, rfl, rfl, (hM.pick [] rfl rfl)⟩
  · replace h := of_false h c16
    refine RunF.know 14 (b := false) (by kernel_rfl) c16 ?_
    refine RunF.go 12 [0] (k' := (pl Go.Proofs.Try.f14 [1, 1, 1, 1])) (L' := [(0, .bool false)]) (w' := W14) (by kernel_rfl) ?_
    obtain rfl := Option.some.inj h
    exact RunF.ret1 0 (.bool false) (fn := Go.Proofs.Try.f14) Go.Proofs.Try.func14 (by kernel_rfl) (by kernel_rfl) (by kernel_rfl) ⟨_, rfl, rfl, (hM.pick [] rfl rfl)⟩

/-! ### scrim/scrimlaw1.within: function 15 -/
def scrimlaw1_within.f (k : Nat) (a0 : Int) (a1 : Int) : Option (Int) := if (decide (a1 = 0)) = true then (none) else (if (decide ((Int.tmod a0 a1) < 0)) = true then (some (I64 ((Int.tmod a0 a1) + a1))) else (some (Int.tmod a0 a1)))
set_option maxRecDepth 100000 in
theorem scrimlaw1_within.calls (k : Nat) (a0 : Int) (a1 : Int) (r : Int) (w : World) (h : scrimlaw1_within.f k a0 a1 = some r) :
    Calls Go.Proofs.Try.prog 15 #[.int .i64 a0, .int .i64 a1] w (Ret fun v w' => v = .int .i64 r ∧ Mem w w' []) := by
  unfold scrimlaw1_within.f at h
  refine calls_of [.int .i64 a0, .int .i64 a1] (fn := Go.Proofs.Try.f15) Go.Proofs.Try.func15 (by kernel_rfl) (by kernel_rfl) ?_
  have hM := Mem.refl w
  refine RunF.go 8 [1, 6, 7] (k' := (pin Go.Proofs.Try.f15 [1, 0] 2)) (L' := [(1, .int .i64 a1), (6, .int .i64 a0), (7, .int .i64 a1)]) (w' := w) (by kernel_rfl) ?_
  rcases two (decide (a1 = 0)) with c1 | c1
  · replace h := of_true h c1
    cases h
  · replace h := of_false h c1
    refine RunF.y (div_y (d := some 8) (b := false) (kd := .i64) (x := a0) (y := a1) (k2 := (pin Go.Proofs.Try.f15 [1, 0] 3)) (by kernel_rfl) c1) trivial ?_
    refine RunF.go 8 [1, 5, 10] (k' := (pl Go.Proofs.Try.f15 [1, 1, 0, 1])) (L' := [(1, .int .i64 a1), (5, .int .i64 (Int.tmod a0 a1)), (10, .bool (decide ((Int.tmod a0 a1) < 0)))]) (w' := w) (by kernel_rfl) ?_
    rcases two (decide ((Int.tmod a0 a1) < 0)) with c2 | c2
    · replace h := of_true h c2
      refine RunF.know 10 (b := true) (by kernel_rfl) c2 ?_
      refine RunF.go 12 [4] (k' := (pl Go.Proofs.Try.f15 [1, 1, 1, 1])) (L' := [(4, .int .i64 (I64 ((Int.tmod a0 a1) + a1)))]) (w' := w) (by kernel_rfl) ?_
      obtain rfl := Option.some.inj h
      exact RunF.ret1 4 (.int .i64 (I64 ((Int.tmod a0 a1) + a1))) (fn := Go.Proofs.Try.f15) Go.Proofs.Try.func15 (by kernel_rfl) (by kernel_rfl) (by kernel_rfl) ⟨_, rfl, rfl, (hM.pick [] rfl rfl)⟩
    · replace h := of_false h c2
      refine RunF.know 10 (b := false) (by kernel_rfl) c2 ?_
      refine RunF.go 7 [4] (k' := (pl Go.Proofs.Try.f15 [1, 1, 1, 1])) (L' := [(4, .int .i64 (Int.tmod a0 a1))]) (w' := w) (by kernel_rfl) ?_
      obtain rfl := Option.some.inj h
      exact RunF.ret1 4 (.int .i64 (Int.tmod a0 a1)) (fn := Go.Proofs.Try.f15) Go.Proofs.Try.func15 (by kernel_rfl) (by kernel_rfl) (by kernel_rfl) ⟨_, rfl, rfl, (hM.pick [] rfl rfl)⟩

/-! ### scrim/words.Rol32: function 26 -/
def words_Rol32.f (k : Nat) (a0 : Int) (a1 : Int) : Option (Int) := (words_rest.f k a1 32).bind fun t1 => (if (decide (0 ≤ (U64 (t1)))) = true then (if (decide (0 ≤ (U64 (32 - (U64 (t1)))))) = true then (some (bor .u32 (shlv .u32 a0 (U64 (t1))) (shrv .u32 a0 (U64 (32 - (U64 (t1))))))) else (none)) else (none))
set_option maxRecDepth 100000 in
theorem words_Rol32.calls (k : Nat) (a0 : Int) (a1 : Int) (r : Int) (w : World) (h : words_Rol32.f k a0 a1 = some r) :
    Calls Go.Proofs.Try.prog 26 #[.int .u32 a0, .int .i64 a1] w (Ret fun v w' => v = .int .u32 r ∧ Mem w w' []) := by
  unfold words_Rol32.f at h
  refine calls_of [.int .u32 a0, .int .i64 a1] (fn := Go.Proofs.Try.f26) Go.Proofs.Try.func26 (by kernel_rfl) (by kernel_rfl) ?_
  have hM := Mem.refl w
  refine RunF.go 7 [0, 6] (k' := (pin Go.Proofs.Try.f26 [1, 0] 1)) (L' := [(0, .int .u32 a0), (6, .int .i64 a1)]) (w' := w) (by kernel_rfl) ?_
  obtain ⟨t1, ht1, h⟩ := Option.bind_eq_some_iff.mp h
  refine RunF.call (d := some 7) (g := 43) (args := #[.int .i64 a1, .int .i64 32]) (k2 := (pin Go.Proofs.Try.f26 [1, 0] 2)) (by kernel_rfl) (words_rest.calls k a1 32 t1 _ ht1) ?_
  rintro _ W2 ⟨rfl, hM_⟩
  replace hM := hM.call hM_
  clear hM_ ht1
  refine RunF.go 7 [0, 5, 9, 10] (k' := (pin Go.Proofs.Try.f26 [1, 1, 0] 2)) (L' := [(0, .int .u32 a0), (5, .int .u64 (U64 (t1))), (9, .int .u32 a0), (10, .int .u64 (U64 (t1)))]) (w' := W2) (by kernel_rfl) ?_
  rcases two (decide (0 ≤ (U64 (t1)))) with c3 | c3
  · replace h := of_true h c3
    refine RunF.y (sh_y (d := some 11) (b := true) (kd := .u32) (x := a0) (y := U64 (t1)) (k2 := (pin Go.Proofs.Try.f26 [1, 1, 0] 3)) (by kernel_rfl) c3) trivial ?_
    refine RunF.go 3 [11, 12, 14] (k' := (pin Go.Proofs.Try.f26 [1, 1, 0] 6)) (L' := [(11, .int .u32 (shlv .u32 a0 (U64 (t1)))), (12, .int .u32 a0), (14, .int .u64 (U64 (32 - (U64 (t1)))))]) (w' := W2) (by kernel_rfl) ?_
    rcases two (decide (0 ≤ (U64 (32 - (U64 (t1)))))) with c4 | c4
    · replace h := of_true h c4
      refine RunF.y (sh_y (d := some 15) (b := false) (kd := .u32) (x := a0) (y := U64 (32 - (U64 (t1)))) (k2 := (pin Go.Proofs.Try.f26 [1, 1, 0] 7)) (by kernel_rfl) c4) trivial ?_
      refine RunF.go 3 [4] (k' := (pl Go.Proofs.Try.f26 [1, 1, 1])) (L' := [(4, .int .u32 (bor .u32 (shlv .u32 a0 (U64 (t1))) (shrv .u32 a0 (U64 (32 - (U64 (t1)))))))]) (w' := W2) (by kernel_rfl) ?_
      obtain rfl := Option.some.inj h
      exact RunF.ret1 4 (.int .u32 (bor .u32 (shlv .u32 a0 (U64 (t1))) (shrv .u32 a0 (U64 (32 - (U64 (t1))))))) (fn := Go.Proofs.Try.f26) Go.Proofs.Try.func26 (by kernel_rfl) (by kernel_rfl) (by kernel_rfl) ⟨_, rfl, rfl, (hM.pick [] rfl rfl)⟩
    · replace h := of_false h c4
      cases h
  · replace h := of_false h c3
    cases h

/-! ### scrim/scrimref1.rest: function 44 -/
def scrimref1_rest.f (k : Nat) (a0 : Int) (a1 : Int) : Option (Int) := if (decide (a1 = 0)) = true then (none) else (if (decide (a1 = 0)) = true then (none) else (some (Int.tmod (I64 ((Int.tmod a0 a1) + a1)) a1)))
set_option maxRecDepth 100000 in
theorem scrimref1_rest.calls (k : Nat) (a0 : Int) (a1 : Int) (r : Int) (w : World) (h : scrimref1_rest.f k a0 a1 = some r) :
    Calls Go.Proofs.Try.prog 44 #[.int .i64 a0, .int .i64 a1] w (Ret fun v w' => v = .int .i64 r ∧ Mem w w' []) := by
  unfold scrimref1_rest.f at h
  refine calls_of [.int .i64 a0, .int .i64 a1] (fn := Go.Proofs.Try.f44) Go.Proofs.Try.func44 (by kernel_rfl) (by kernel_rfl) ?_
  have hM := Mem.refl w
  refine RunF.go 8 [1, 5, 6] (k' := (pin Go.Proofs.Try.f44 [1, 0] 2)) (L' := [(1, .int .i64 a1), (5, .int .i64 a0), (6, .int .i64 a1)]) (w' := w) (by kernel_rfl) ?_
  rcases two (decide (a1 = 0)) with c1 | c1
  · replace h := of_true h c1
    cases h
  · replace h := of_false h c1
    refine RunF.y (div_y (d := some 7) (b := false) (kd := .i64) (x := a0) (y := a1) (k2 := (pin Go.Proofs.Try.f44 [1, 0] 3)) (by kernel_rfl) c1) trivial ?_
    refine RunF.go 3 [9, 10] (k' := (pin Go.Proofs.Try.f44 [1, 0] 6)) (L' := [(9, .int .i64 (I64 ((Int.tmod a0 a1) + a1))), (10, .int .i64 a1)]) (w' := w) (by kernel_rfl) ?_
    rcases two (decide (a1 = 0)) with c2 | c2
    · replace h := of_true h c2
      cases h
    · replace h := of_false h c2
      refine RunF.y (div_y (d := some 11) (b := false) (kd := .i64) (x := I64 ((Int.tmod a0 a1) + a1)) (y := a1) (k2 := (pin Go.Proofs.Try.f44 [1, 0] 7)) (by kernel_rfl) c2) trivial ?_
      refine RunF.go 2 [4] (k' := (pl Go.Proofs.Try.f44 [1, 1])) (L' := [(4, .int .i64 (Int.tmod (I64 ((Int.tmod a0 a1) + a1)) a1))]) (w' := w) (by kernel_rfl) ?_
      obtain rfl := Option.some.inj h
      exact RunF.ret1 4 (.int .i64 (Int.tmod (I64 ((Int.tmod a0 a1) + a1)) a1)) (fn := Go.Proofs.Try.f44) Go.Proofs.Try.func44 (by kernel_rfl) (by kernel_rfl) (by kernel_rfl) ⟨_, rfl, rfl, (hM.pick [] rfl rfl)⟩

/-! ### scrim/scrimref1.Rol32: function 27 -/
def scrimref1_Rol32.f (k : Nat) (a0 : Int) (a1 : Int) : Option (Int) := (scrimref1_rest.f k a1 32).bind fun t1 => (if (decide (0 ≤ (U64 (t1)))) = true then (if (decide (0 ≤ (U64 (32 - (U64 (t1)))))) = true then (some (bor .u32 (shlv .u32 a0 (U64 (t1))) (shrv .u32 a0 (U64 (32 - (U64 (t1))))))) else (none)) else (none))
set_option maxRecDepth 100000 in
theorem scrimref1_Rol32.calls (k : Nat) (a0 : Int) (a1 : Int) (r : Int) (w : World) (h : scrimref1_Rol32.f k a0 a1 = some r) :
    Calls Go.Proofs.Try.prog 27 #[.int .u32 a0, .int .i64 a1] w (Ret fun v w' => v = .int .u32 r ∧ Mem w w' []) := by
  unfold scrimref1_Rol32.f at h
  refine calls_of [.int .u32 a0, .int .i64 a1] (fn := Go.Proofs.Try.f27) Go.Proofs.Try.func27 (by kernel_rfl) (by kernel_rfl) ?_
  have hM := Mem.refl w
  refine RunF.go 7 [0, 6] (k' := (pin Go.Proofs.Try.f27 [1, 0] 1)) (L' := [(0, .int .u32 a0), (6, .int .i64 a1)]) (w' := w) (by kernel_rfl) ?_
  obtain ⟨t1, ht1, h⟩ := Option.bind_eq_some_iff.mp h
  refine RunF.call (d := some 7) (g := 44) (args := #[.int .i64 a1, .int .i64 32]) (k2 := (pin Go.Proofs.Try.f27 [1, 0] 2)) (by kernel_rfl) (scrimref1_rest.calls k a1 32 t1 _ ht1) ?_
  rintro _ W2 ⟨rfl, hM_⟩
  replace hM := hM.call hM_
  clear hM_ ht1
  refine RunF.go 7 [0, 5, 9, 10] (k' := (pin Go.Proofs.Try.f27 [1, 1, 0] 2)) (L' := [(0, .int .u32 a0), (5, .int .u64 (U64 (t1))), (9, .int .u32 a0), (10, .int .u64 (U64 (t1)))]) (w' := W2) (by kernel_rfl) ?_
  rcases two (decide (0 ≤ (U64 (t1)))) with c3 | c3
  · replace h := of_true h c3
    refine RunF.y (sh_y (d := some 11) (b := true) (kd := .u32) (x := a0) (y := U64 (t1)) (k2 := (pin Go.Proofs.Try.f27 [1, 1, 0] 3)) (by kernel_rfl) c3) trivial ?_
    refine RunF.go 3 [11, 12, 14] (k' := (pin Go.Proofs.Try.f27 [1, 1, 0] 6)) (L' := [(11, .int .u32 (shlv .u32 a0 (U64 (t1)))), (12, .int .u32 a0), (14, .int .u64 (U64 (32 - (U64 (t1)))))]) (w' := W2) (by kernel_rfl) ?_
    rcases two (decide (0 ≤ (U64 (32 - (U64 (t1)))))) with c4 | c4
    · replace h := of_true h c4
      refine RunF.y (sh_y (d := some 15) (b := false) (kd := .u32) (x := a0) (y := U64 (32 - (U64 (t1)))) (k2 := (pin Go.Proofs.Try.f27 [1, 1, 0] 7)) (by kernel_rfl) c4) trivial ?_
      refine RunF.go 3 [4] (k' := (pl Go.Proofs.Try.f27 [1, 1, 1])) (L' := [(4, .int .u32 (bor .u32 (shlv .u32 a0 (U64 (t1))) (shrv .u32 a0 (U64 (32 - (U64 (t1)))))))]) (w' := W2) (by kernel_rfl) ?_
      obtain rfl := Option.some.inj h
      exact RunF.ret1 4 (.int .u32 (bor .u32 (shlv .u32 a0 (U64 (t1))) (shrv .u32 a0 (U64 (32 - (U64 (t1))))))) (fn := Go.Proofs.Try.f27) Go.Proofs.Try.func27 (by kernel_rfl) (by kernel_rfl) (by kernel_rfl) ⟨_, rfl, rfl, (hM.pick [] rfl rfl)⟩
    · replace h := of_false h c4
      cases h
  · replace h := of_false h c3
    cases h

/-! ### scrim/scrimref1.Rol8: function 29 -/
def scrimref1_Rol8.f (k : Nat) (a0 : Int) (a1 : Int) : Option (Int) := (scrimref1_rest.f k a1 8).bind fun t1 => (if (decide (0 ≤ (U64 (t1)))) = true then (if (decide (0 ≤ (U64 (8 - (U64 (t1)))))) = true then (some (bor .u8 (shlv .u8 a0 (U64 (t1))) (shrv .u8 a0 (U64 (8 - (U64 (t1))))))) else (none)) else (none))
set_option maxRecDepth 100000 in
theorem scrimref1_Rol8.calls (k : Nat) (a0 : Int) (a1 : Int) (r : Int) (w : World) (h : scrimref1_Rol8.f k a0 a1 = some r) :
    Calls Go.Proofs.Try.prog 29 #[.int .u8 a0, .int .i64 a1] w (Ret fun v w' => v = .int .u8 r ∧ Mem w w' []) := by
  unfold scrimref1_Rol8.f at h
  refine calls_of [.int .u8 a0, .int .i64 a1] (fn := Go.Proofs.Try.f29) Go.Proofs.Try.func29 (by kernel_rfl) (by kernel_rfl) ?_
  have hM := Mem.refl w
  refine RunF.go 7 [0, 6] (k' := (pin Go.Proofs.Try.f29 [1, 0] 1)) (L' := [(0, .int .u8 a0), (6, .int .i64 a1)]) (w' := w) (by kernel_rfl) ?_
  obtain ⟨t1, ht1, h⟩ := Option.bind_eq_some_iff.mp h
  refine RunF.call (d := some 7) (g := 44) (args := #[.int .i64 a1, .int .i64 8]) (k2 := (pin Go.Proofs.Try.f29 [1, 0] 2)) (by kernel_rfl) (scrimref1_rest.calls k a1 8 t1 _ ht1) ?_
  rintro _ W2 ⟨rfl, hM_⟩
  replace hM := hM.call hM_
  clear hM_ ht1
  refine RunF.go 7 [0, 5, 9, 10] (k' := (pin Go.Proofs.Try.f29 [1, 1, 0] 2)) (L' := [(0, .int .u8 a0), (5, .int .u64 (U64 (t1))), (9, .int .u8 a0), (10, .int .u64 (U64 (t1)))]) (w' := W2) (by kernel_rfl) ?_
  rcases two (decide (0 ≤ (U64 (t1)))) with c3 | c3
  · replace h := of_true h c3
    refine RunF.y (sh_y (d := some 11) (b := true) (kd := .u8) (x := a0) (y := U64 (t1)) (k2 := (pin Go.Proofs.Try.f29 [1, 1, 0] 3)) (by kernel_rfl) c3) trivial ?_
    refine RunF.go 3 [11, 12, 14] (k' := (pin Go.Proofs.Try.f29 [1, 1, 0] 6)) (L' := [(11, .int .u8 (shlv .u8 a0 (U64 (t1)))), (12, .int .u8 a0), (14, .int .u64 (U64 (8 - (U64 (t1)))))]) (w' := W2) (by kernel_rfl) ?_
    rcases two (decide (0 ≤ (U64 (8 - (U64 (t1)))))) with c4 | c4
    · replace h := of_true h c4
      refine RunF.y (sh_y (d := some 15) (b := false) (kd := .u8) (x := a0) (y := U64 (8 - (U64 (t1)))) (k2 := (pin Go.Proofs.Try.f29 [1, 1, 0] 7)) (by kernel_rfl) c4) trivial ?_
      refine RunF.go 3 [4] (k' := (pl Go.Proofs.Try.f29 [1, 1, 1])) (L' := [(4, .int .u8 (bor .u8 (shlv .u8 a0 (U64 (t1))) (shrv .u8 a0 (U64 (8 - (U64 (t1)))))))]) (w' := W2) (by kernel_rfl) ?_
      obtain rfl := Option.some.inj h
      exact RunF.ret1 4 (.int .u8 (bor .u8 (shlv .u8 a0 (U64 (t1))) (shrv .u8 a0 (U64 (8 - (U64 (t1))))))) (fn := Go.Proofs.Try.f29) Go.Proofs.Try.func29 (by kernel_rfl) (by kernel_rfl) (by kernel_rfl) ⟨_, rfl, rfl, (hM.pick [] rfl rfl)⟩
    · replace h := of_false h c4
      cases h
  · replace h := of_false h c3
    cases h

/-! ### scrim/words.Turn: function 30 -/
def words_Turn.l0 : Nat → (List Int) → Int → (List Int) → Int → Option (List Int)
  | 0, _, _, _, _ => none
  | k + 1, a0, t3, x5_0, x23_0 => (some (decide (x23_0 < (((a0.length : Int)).toNat : Int)) : Bool)).bind fun y10 => (if y10 = true then (if (decide ((a0.length : Int) = 0)) = true then (none) else (if (decide (0 ≤ (Int.tmod (I64 (x23_0 + (I64 (Int.tdiv t3 8)))) (a0.length : Int)))) = true then (if (decide ((Int.tmod (I64 (x23_0 + (I64 (Int.tdiv t3 8)))) (a0.length : Int)) < (a0.length : Int))) = true then (if (decide ((a0.length : Int) = 0)) = true then (none) else (if (decide (0 ≤ (Int.tmod (I64 ((I64 (x23_0 + (I64 (Int.tdiv t3 8)))) + 1)) (a0.length : Int)))) = true then (if (decide ((Int.tmod (I64 ((I64 (x23_0 + (I64 (Int.tdiv t3 8)))) + 1)) (a0.length : Int)) < (a0.length : Int))) = true then ((some (bor .u64 (shl .u64 (U64 (rd a0 (Int.tmod (I64 (x23_0 + (I64 (Int.tdiv t3 8)))) (a0.length : Int)))) 8) (U64 (rd a0 (Int.tmod (I64 ((I64 (x23_0 + (I64 (Int.tdiv t3 8)))) + 1)) (a0.length : Int)))) : Int)).bind fun y22 => (if (decide (0 ≤ (U64 (8 - (U64 (Int.tmod t3 8)))))) = true then ((some (U8 (shrv .u64 y22 (U64 (8 - (U64 (Int.tmod t3 8))))) : Int)).bind fun y24 => (if (decide (0 ≤ x23_0)) = true then (if (decide (x23_0 < (((a0.length : Int)).toNat : Int))) = true then (words_Turn.l0 k a0 t3 (x5_0.set (x23_0 : Int).toNat y24) (I64 (x23_0 + 1))) else (none)) else (none))) else (none))) else (none)) else (none))) else (none)) else (none))) else (some x5_0))
def words_Turn.f (k : Nat) (a0 : List Int) (a1 : Int) : Option (List Int) := if ((a0.length : Int) == 0) = true then (some ([] : List Int)) else ((words_rest.f k a1 (I64 (8 * (a0.length : Int)))).bind fun t3 => (if (decide (0 ≤ (a0.length : Int))) = true then (if (decide ((a0.length : Int) ≤ 1000000000)) = true then (words_Turn.l0 k a0 t3 (List.replicate (((a0.length : Int)).toNat) 0) 0) else (none)) else (none)))
set_option maxRecDepth 100000 in
theorem words_Turn.calls (k : Nat) (Ap0 : Option Addr) (np0 cp0 : Nat) (a0 : List Int) (a1 : Int) (r : List Int) (w : World) (hr0 : Rd w (.slice Ap0 np0 cp0) (nums .u8 a0)) (h : words_Turn.f k a0 a1 = some r) :
    Calls Go.Proofs.Try.prog 30 #[(.slice Ap0 np0 cp0), .int .i64 a1] w (Ret fun v w' => ∃ A0' n0' c0', v = .slice A0' n0' c0' ∧ Mem w w' [⟨.slice A0' n0' c0', 5, 1, nums .u8 r⟩]) := by
  obtain rfl : a0.length = np0 := by have h_ := hr0.1; simpa [nums_length, bools_length] using h_
  unfold words_Turn.f at h
  refine calls_of [.slice Ap0 a0.length cp0, .int .i64 a1] (fn := Go.Proofs.Try.f30) Go.Proofs.Try.func30 (by kernel_rfl) (by kernel_rfl) ?_
  have hM := Mem.refl w
  refine RunF.go 11 [0, 1, 12] (k' := (pl Go.Proofs.Try.f30 [1, 0, 1])) (L' := [(0, .slice Ap0 a0.length cp0), (1, .int .i64 a1), (12, .bool ((a0.length : Int) == 0))]) (w' := w) (by kernel_rfl) ?_
  rcases two (((a0.length : Int) == 0)) with c1 | c1
  · replace h := of_true h c1
    refine RunF.know 12 (b := true) (by kernel_rfl) c1 ?_
    refine RunF.go 5 [4] (k' := (pl Go.Proofs.Try.f30 [1, 0, 1, 0, 1])) (L' := [(4, .slice none 0 0)]) (w' := w) (by kernel_rfl) ?_
    replace hM := hM.nil 5
    obtain rfl := Option.some.inj h
    exact RunF.ret1 4 (.slice none 0 0) (fn := Go.Proofs.Try.f30) Go.Proofs.Try.func30 (by kernel_rfl) (by kernel_rfl) (by kernel_rfl) ⟨_, rfl, none, 0, 0, rfl, (hM.pick [0] rfl rfl)⟩
  · replace h := of_false h c1
    refine RunF.know 12 (b := false) (by kernel_rfl) c1 ?_
    refine RunF.go 8 [0, 13, 16] (k' := (pin Go.Proofs.Try.f30 [1, 1, 0] 4)) (L' := [(0, .slice Ap0 a0.length cp0), (13, .int .i64 a1), (16, .int .i64 (I64 (8 * (a0.length : Int))))]) (w' := w) (by kernel_rfl) ?_
    obtain ⟨t3, ht3, h⟩ := Option.bind_eq_some_iff.mp h
    refine RunF.call (d := some 17) (g := 43) (args := #[.int .i64 a1, .int .i64 (I64 (8 * (a0.length : Int)))]) (k2 := (pin Go.Proofs.Try.f30 [1, 1, 0] 5)) (by kernel_rfl) (words_rest.calls k a1 (I64 (8 * (a0.length : Int))) t3 _ ht3) ?_
    rintro _ W4 ⟨rfl, hM_⟩
    replace hM := hM.call hM_
    clear hM_ ht3
    refine RunF.go 6 [0, 1, 19] (k' := (pin Go.Proofs.Try.f30 [1, 1, 1, 0] 2)) (L' := [(0, .slice Ap0 a0.length cp0), (1, .int .i64 t3), (19, .int .i64 (a0.length : Int))]) (w' := W4) (by kernel_rfl) ?_
    rcases two (decide (0 ≤ (a0.length : Int))) with c7 | c7
    · replace h := of_true h c7
      rcases two (decide ((a0.length : Int) ≤ 1000000000)) with c8 | c8
      · replace h := of_true h c8
        have := of_decide_eq_true c7
        have := of_decide_eq_true c8
        obtain ⟨W5, hD, hM', hB_⟩ := mk_does (P := Go.Proofs.Try.prog) (n := 62) (k := (pin Go.Proofs.Try.f30 [1, 1, 1, 0] 2)) (L := [(0, .slice Ap0 a0.length cp0), (1, .int .i64 t3), (19, .int .i64 (a0.length : Int))]) (d := some 20) (e := 5) (z := .int .u8 0) (l := (a0.length : Int)) (c := (a0.length : Int)) (k2 := (pin Go.Proofs.Try.f30 [1, 1, 1, 0] 3)) (by kernel_rfl) (by omega) (by omega) (by omega) hM
        rw [rep_nums] at hM'
        refine RunF.does hD ?_
        replace hM := hM'; clear hD hM'
        generalize W4.heap.size = g6 at hM ⊢
        refine RunF.go 11 [0, 1, 5, 22, 23] (k' := (pl Go.Proofs.Try.f30 [1, 1, 1, 1, 0, 1, 0, 0])) (L' := [(0, .slice Ap0 a0.length cp0), (1, .int .i64 t3), (5, .slice (some ⟨g6, 0, none⟩) (((a0.length : Int)).toNat) (((a0.length : Int) : Int).toNat)), (22, .int .i64 (((a0.length : Int)).toNat : Int)), (23, .int .i64 0)]) (w' := W5) (by kernel_rfl) ?_
        have l0 : ∀ (k_ : Nat), k_ ≤ k → ∀ (x5_0 : List Int) (x23_0 : Int) (W : World) (hM : Mem w W [⟨.slice (some ⟨g6, 0, none⟩) (((a0.length : Int)).toNat) (((a0.length : Int) : Int).toNat), 5, 1, nums .u8 x5_0⟩]) (h : words_Turn.l0 k_ a0 t3 x5_0 x23_0 = some r), RunF Go.Proofs.Try.prog (Ret fun v w' => ∃ A0' n0' c0', v = .slice A0' n0' c0' ∧ Mem w w' [⟨.slice A0' n0' c0', 5, 1, nums .u8 r⟩]) 30 (pl Go.Proofs.Try.f30 [1, 1, 1, 1, 0, 1, 0, 0]) 62 [(0, .slice Ap0 a0.length cp0), (1, .int .i64 t3), (5, .slice (some ⟨g6, 0, none⟩) (((a0.length : Int)).toNat) (((a0.length : Int) : Int).toNat)), (22, .int .i64 (((a0.length : Int)).toNat : Int)), (23, .int .i64 x23_0)] W := by
          intro k_
          induction k_ using Nat.strongRecOn with
          | _ k_ ih0 =>
            intro hk x5_0 x23_0 W hM h
            cases k_ with
            | zero => exact absurd h (by simp [words_Turn.l0])
            | succ k =>
              simp only [words_Turn.l0] at h
              replace ih0 : ∀ m, m ≤ k → _ := fun m hm => ih0 m (by omega) (by omega)
              refine RunF.go 5 [0, 1, 5, 22, 23, 24] (k' := (pl Go.Proofs.Try.f30 [1, 1, 1, 1, 0, 1, 0, 0, 1, 0])) (L' := [(0, .slice Ap0 a0.length cp0), (1, .int .i64 t3), (5, .slice (some ⟨g6, 0, none⟩) (((a0.length : Int)).toNat) (((a0.length : Int) : Int).toNat)), (22, .int .i64 (((a0.length : Int)).toNat : Int)), (23, .int .i64 x23_0), (24, .bool (decide (x23_0 < (((a0.length : Int)).toNat : Int))))]) (w' := W) (by kernel_rfl) ?_
              obtain ⟨y10, hy, h⟩ := Option.bind_eq_some_iff.mp h
              rw [show (decide (x23_0 < (((a0.length : Int)).toNat : Int))) = y10 from Option.some.inj hy]
              clear hy
              rcases two (y10) with c11 | c11
              · replace h := of_true h c11
                refine RunF.know 24 (b := true) (by kernel_rfl) c11 ?_
                refine RunF.go 18 [0, 1, 5, 6, 7, 22, 23] (k' := (pl Go.Proofs.Try.f30 [1, 1, 1, 1, 0, 1, 0, 0, 1, 1, 0, 0, 1, 1, 0])) (L' := [(0, .slice Ap0 a0.length cp0), (1, .int .i64 t3), (5, .slice (some ⟨g6, 0, none⟩) (((a0.length : Int)).toNat) (((a0.length : Int) : Int).toNat)), (6, .int .i64 x23_0), (7, .int .i64 (I64 (x23_0 + (I64 (Int.tdiv t3 8))))), (22, .int .i64 (((a0.length : Int)).toNat : Int)), (23, .int .i64 x23_0)]) (w' := W) (by kernel_rfl) ?_
                refine RunF.draw (Still ({ W with drawn := W.drawn + 1 } : World) []) (by kernel_rfl) (by kernel_rfl) ?_
                have hMd13 := hM.drew
                have hS := Still.refl ({ W with drawn := W.drawn + 1 } : World) []
                generalize ({ W with drawn := W.drawn + 1 } : World) = W12 at hMd13 hS ⊢
                replace hM := hMd13
                refine RunAny.y 0 (by kernel_rfl) (yl_pure (d := some 30) (v := .slice Ap0 a0.length cp0) (k2 := [.inRegion (opsOf (pl Go.Proofs.Try.f30 [1, 1, 1, 1, 0, 1, 0, 0, 1, 1, 0, 0, 1, 1, 0])) []]) fun w => by kernel_rfl) (fun _ _ => trivial) hS ?_
                refine RunAny.y 1 (by kernel_rfl) (yl_pure (d := some 31) (v := .int .i64 (I64 (x23_0 + (I64 (Int.tdiv t3 8))))) (k2 := [.inRegion (opsOf (pl Go.Proofs.Try.f30 [1, 1, 1, 1, 0, 1, 0, 0, 1, 1, 0, 0, 1, 1, 0])) []]) fun w => by kernel_rfl) (fun _ _ => trivial) hS ?_
                refine RunAny.y 2 (by kernel_rfl) (yl_pure (d := some 32) (v := .slice Ap0 a0.length cp0) (k2 := [.inRegion (opsOf (pl Go.Proofs.Try.f30 [1, 1, 1, 1, 0, 1, 0, 0, 1, 1, 0, 0, 1, 1, 0])) []]) fun w => by kernel_rfl) (fun _ _ => trivial) hS ?_
                refine RunAny.y 3 (by kernel_rfl) (yl_pure (d := some 33) (v := .int .i64 (a0.length : Int)) (k2 := [.inRegion (opsOf (pl Go.Proofs.Try.f30 [1, 1, 1, 1, 0, 1, 0, 0, 1, 1, 0, 0, 1, 1, 0])) []]) fun w => by kernel_rfl) (fun _ _ => trivial) hS ?_
                rcases two (decide ((a0.length : Int) = 0)) with c14 | c14
                · replace h := of_true h c14
                  cases h
                · replace h := of_false h c14
                  refine RunAny.y 4 (by kernel_rfl) (div_y (d := some 34) (b := false) (kd := .i64) (x := I64 (x23_0 + (I64 (Int.tdiv t3 8)))) (y := (a0.length : Int)) (k2 := [.inRegion (opsOf (pl Go.Proofs.Try.f30 [1, 1, 1, 1, 0, 1, 0, 0, 1, 1, 0, 0, 1, 1, 0])) []]) (by kernel_rfl) c14) (fun _ _ => trivial) hS ?_
                  rcases two (decide (0 ≤ (Int.tmod (I64 (x23_0 + (I64 (Int.tdiv t3 8)))) (a0.length : Int)))) with c16 | c16
                  · replace h := of_true h c16
                    rcases two (decide ((Int.tmod (I64 (x23_0 + (I64 (Int.tdiv t3 8)))) (a0.length : Int)) < (a0.length : Int))) with c17 | c17
                    · replace h := of_true h c17
                      obtain ⟨q15, hAq15, hcq15⟩ := Rd.num (hr0.mono hM.below) (i := Int.tmod (I64 (x23_0 + (I64 (Int.tdiv t3 8)))) (a0.length : Int)) (of_decide_eq_true c16) (by have h_ := of_decide_eq_true c17; omega)
                      refine RunAny.y 5 (by kernel_rfl) (idx_y (d := some 35) (A := Ap0) (m := a0.length) (i := Int.tmod (I64 (x23_0 + (I64 (Int.tdiv t3 8)))) (a0.length : Int)) (k2 := [.inRegion (opsOf (pl Go.Proofs.Try.f30 [1, 1, 1, 1, 0, 1, 0, 0, 1, 1, 0, 0, 1, 1, 0])) []]) (by kernel_rfl) (of_decide_eq_true c16) (by have h_ := of_decide_eq_true c17; omega) hAq15) (fun _ _ => trivial) hS ?_
                      refine RunAny.y 6 (by kernel_rfl) (ld_y (d := some 36) (p := (q15.add (Int.tmod (I64 (x23_0 + (I64 (Int.tdiv t3 8)))) (a0.length : Int) : Int).toNat)) (k2 := [.inRegion (opsOf (pl Go.Proofs.Try.f30 [1, 1, 1, 1, 0, 1, 0, 0, 1, 1, 0, 0, 1, 1, 0])) []]) (.int .u8 (rd a0 (Int.tmod (I64 (x23_0 + (I64 (Int.tdiv t3 8)))) (a0.length : Int)))) (by kernel_rfl)) (fun _ hs => hs.cell hcq15 (by simp)) hS ?_
                      refine RunAny.y 7 (by kernel_rfl) (yl_pure (d := some 37) (v := .slice Ap0 a0.length cp0) (k2 := [.inRegion (opsOf (pl Go.Proofs.Try.f30 [1, 1, 1, 1, 0, 1, 0, 0, 1, 1, 0, 0, 1, 1, 0])) []]) fun w => by kernel_rfl) (fun _ _ => trivial) hS ?_
                      refine RunAny.y 8 (by kernel_rfl) (yl_pure (d := some 38) (v := .int .i64 (I64 (x23_0 + (I64 (Int.tdiv t3 8))))) (k2 := [.inRegion (opsOf (pl Go.Proofs.Try.f30 [1, 1, 1, 1, 0, 1, 0, 0, 1, 1, 0, 0, 1, 1, 0])) []]) fun w => by kernel_rfl) (fun _ _ => trivial) hS ?_
                      refine RunAny.y 9 (by kernel_rfl) (yl_pure (d := some 39) (v := .int .i64 (I64 ((I64 (x23_0 + (I64 (Int.tdiv t3 8)))) + 1))) (k2 := [.inRegion (opsOf (pl Go.Proofs.Try.f30 [1, 1, 1, 1, 0, 1, 0, 0, 1, 1, 0, 0, 1, 1, 0])) []]) fun w => by kernel_rfl) (fun _ _ => trivial) hS ?_
                      refine RunAny.y 10 (by kernel_rfl) (yl_pure (d := some 40) (v := .slice Ap0 a0.length cp0) (k2 := [.inRegion (opsOf (pl Go.Proofs.Try.f30 [1, 1, 1, 1, 0, 1, 0, 0, 1, 1, 0, 0, 1, 1, 0])) []]) fun w => by kernel_rfl) (fun _ _ => trivial) hS ?_
                      refine RunAny.y 11 (by kernel_rfl) (yl_pure (d := some 41) (v := .int .i64 (a0.length : Int)) (k2 := [.inRegion (opsOf (pl Go.Proofs.Try.f30 [1, 1, 1, 1, 0, 1, 0, 0, 1, 1, 0, 0, 1, 1, 0])) []]) fun w => by kernel_rfl) (fun _ _ => trivial) hS ?_
                      rcases two (decide ((a0.length : Int) = 0)) with c18 | c18
                      · replace h := of_true h c18
                        cases h
                      · replace h := of_false h c18
                        refine RunAny.y 12 (by kernel_rfl) (div_y (d := some 42) (b := false) (kd := .i64) (x := I64 ((I64 (x23_0 + (I64 (Int.tdiv t3 8)))) + 1)) (y := (a0.length : Int)) (k2 := [.inRegion (opsOf (pl Go.Proofs.Try.f30 [1, 1, 1, 1, 0, 1, 0, 0, 1, 1, 0, 0, 1, 1, 0])) []]) (by kernel_rfl) c18) (fun _ _ => trivial) hS ?_
                        rcases two (decide (0 ≤ (Int.tmod (I64 ((I64 (x23_0 + (I64 (Int.tdiv t3 8)))) + 1)) (a0.length : Int)))) with c20 | c20
                        · replace h := of_true h c20
                          rcases two (decide ((Int.tmod (I64 ((I64 (x23_0 + (I64 (Int.tdiv t3 8)))) + 1)) (a0.length : Int)) < (a0.length : Int))) with c21 | c21
                          · replace h := of_true h c21
                            obtain ⟨q19, hAq19, hcq19⟩ := Rd.num (hr0.mono hM.below) (i := Int.tmod (I64 ((I64 (x23_0 + (I64 (Int.tdiv t3 8)))) + 1)) (a0.length : Int)) (of_decide_eq_true c20) (by have h_ := of_decide_eq_true c21; omega)
                            refine RunAny.y 13 (by kernel_rfl) (idx_y (d := some 43) (A := Ap0) (m := a0.length) (i := Int.tmod (I64 ((I64 (x23_0 + (I64 (Int.tdiv t3 8)))) + 1)) (a0.length : Int)) (k2 := [.inRegion (opsOf (pl Go.Proofs.Try.f30 [1, 1, 1, 1, 0, 1, 0, 0, 1, 1, 0, 0, 1, 1, 0])) []]) (by kernel_rfl) (of_decide_eq_true c20) (by have h_ := of_decide_eq_true c21; omega) hAq19) (fun _ _ => trivial) hS ?_
                            refine RunAny.y 14 (by kernel_rfl) (ld_y (d := some 44) (p := (q19.add (Int.tmod (I64 ((I64 (x23_0 + (I64 (Int.tdiv t3 8)))) + 1)) (a0.length : Int) : Int).toNat)) (k2 := [.inRegion (opsOf (pl Go.Proofs.Try.f30 [1, 1, 1, 1, 0, 1, 0, 0, 1, 1, 0, 0, 1, 1, 0])) []]) (.int .u8 (rd a0 (Int.tmod (I64 ((I64 (x23_0 + (I64 (Int.tdiv t3 8)))) + 1)) (a0.length : Int)))) (by kernel_rfl)) (fun _ hs => hs.cell hcq19 (by simp)) hS ?_
                            refine RunAny.y 15 (by kernel_rfl) (yl_pure (d := some 8) (v := .int .u8 (rd a0 (Int.tmod (I64 (x23_0 + (I64 (Int.tdiv t3 8)))) (a0.length : Int)))) (k2 := [.inRegion (opsOf (pl Go.Proofs.Try.f30 [1, 1, 1, 1, 0, 1, 0, 0, 1, 1, 0, 0, 1, 1, 0])) []]) fun w => by kernel_rfl) (fun _ _ => trivial) hS ?_
                            refine RunAny.y 16 (by kernel_rfl) (yl_pure (d := some 9) (v := .int .u8 (rd a0 (Int.tmod (I64 ((I64 (x23_0 + (I64 (Int.tdiv t3 8)))) + 1)) (a0.length : Int)))) (k2 := [.inRegion (opsOf (pl Go.Proofs.Try.f30 [1, 1, 1, 1, 0, 1, 0, 0, 1, 1, 0, 0, 1, 1, 0])) []]) fun w => by kernel_rfl) (fun _ _ => trivial) hS ?_
                            refine RunAny.done (by kernel_rfl) ?_
                            clear hS
                            refine RunF.go 13 [0, 1, 5, 22, 23, 45, 46, 52, 56] (k' := (pin Go.Proofs.Try.f30 [1, 1, 1, 1, 0, 1, 0, 0, 1, 1, 0, 0, 1, 1, 1] 12)) (L' := [(0, .slice Ap0 a0.length cp0), (1, .int .i64 t3), (5, .slice (some ⟨g6, 0, none⟩) (((a0.length : Int)).toNat) (((a0.length : Int) : Int).toNat)), (22, .int .i64 (((a0.length : Int)).toNat : Int)), (23, .int .i64 x23_0), (45, .slice (some ⟨g6, 0, none⟩) (((a0.length : Int)).toNat) (((a0.length : Int) : Int).toNat)), (46, .int .i64 x23_0), (52, .int .u64 (bor .u64 (shl .u64 (U64 (rd a0 (Int.tmod (I64 (x23_0 + (I64 (Int.tdiv t3 8)))) (a0.length : Int)))) 8) (U64 (rd a0 (Int.tmod (I64 ((I64 (x23_0 + (I64 (Int.tdiv t3 8)))) + 1)) (a0.length : Int)))))), (56, .int .u64 (U64 (8 - (U64 (Int.tmod t3 8)))))]) (w' := W12) (by kernel_rfl) ?_
                            obtain ⟨y22, hy, h⟩ := Option.bind_eq_some_iff.mp h
                            rw [show (bor .u64 (shl .u64 (U64 (rd a0 (Int.tmod (I64 (x23_0 + (I64 (Int.tdiv t3 8)))) (a0.length : Int)))) 8) (U64 (rd a0 (Int.tmod (I64 ((I64 (x23_0 + (I64 (Int.tdiv t3 8)))) + 1)) (a0.length : Int))))) = y22 from Option.some.inj hy]
                            clear hy
                            rcases two (decide (0 ≤ (U64 (8 - (U64 (Int.tmod t3 8)))))) with c23 | c23
                            · replace h := of_true h c23
                              refine RunF.y (sh_y (d := some 57) (b := false) (kd := .u64) (x := y22) (y := U64 (8 - (U64 (Int.tmod t3 8)))) (k2 := (pin Go.Proofs.Try.f30 [1, 1, 1, 1, 0, 1, 0, 0, 1, 1, 0, 0, 1, 1, 1] 13)) (by kernel_rfl) c23) trivial ?_
                              refine RunF.go 1 [0, 1, 5, 22, 23, 45, 46, 58] (k' := (pin Go.Proofs.Try.f30 [1, 1, 1, 1, 0, 1, 0, 0, 1, 1, 0, 0, 1, 1, 1] 14)) (L' := [(0, .slice Ap0 a0.length cp0), (1, .int .i64 t3), (5, .slice (some ⟨g6, 0, none⟩) (((a0.length : Int)).toNat) (((a0.length : Int) : Int).toNat)), (22, .int .i64 (((a0.length : Int)).toNat : Int)), (23, .int .i64 x23_0), (45, .slice (some ⟨g6, 0, none⟩) (((a0.length : Int)).toNat) (((a0.length : Int) : Int).toNat)), (46, .int .i64 x23_0), (58, .int .u8 (U8 (shrv .u64 y22 (U64 (8 - (U64 (Int.tmod t3 8)))))))]) (w' := W12) (by kernel_rfl) ?_
                              obtain ⟨y24, hy, h⟩ := Option.bind_eq_some_iff.mp h
                              rw [show (U8 (shrv .u64 y22 (U64 (8 - (U64 (Int.tmod t3 8)))))) = y24 from Option.some.inj hy]
                              clear hy
                              rcases two (decide (0 ≤ x23_0)) with c26 | c26
                              · replace h := of_true h c26
                                rcases two (decide (x23_0 < (((a0.length : Int)).toNat : Int))) with c27 | c27
                                · replace h := of_true h c27
                                  obtain ⟨q25, hAq25, hcq25, hfq25, hlq25⟩ := hM.num_at 0 rfl (i := x23_0) (of_decide_eq_true c26) (by have h_ := of_decide_eq_true c27; omega)
                                  refine RunF.y (idx_own (d := some 59) (A := (some ⟨g6, 0, none⟩)) (m := ((a0.length : Int)).toNat) (i := x23_0) (k2 := (pin Go.Proofs.Try.f30 [1, 1, 1, 1, 0, 1, 0, 0, 1, 1, 0, 0, 1, 1, 1] 15)) (by kernel_rfl) (of_decide_eq_true c26) (by have h_ := of_decide_eq_true c27; omega) hAq25) trivial ?_
                                  obtain ⟨g_, hA_, hc_, hf_, hl_⟩ := hM.num_at 0 rfl (i := x23_0) (of_decide_eq_true c26) (by have h_ := of_decide_eq_true c27; omega)
                                  obtain rfl : q25 = g_ := by rw [hAq25] at hA_; injection hA_ with hA_; injection hA_
                                  refine RunF.doesU (st_u (p := (⟨q25, (x23_0 : Int).toNat, none⟩ : Addr)) (v := .int .u8 y24) (k2 := (pin Go.Proofs.Try.f30 [1, 1, 1, 1, 0, 1, 0, 0, 1, 1, 0, 0, 1, 1, 1] 16)) (by kernel_rfl) hc_ hf_) ?_
                                  replace hM : Mem w (W12.setCell (⟨q25, (x23_0 : Int).toNat, none⟩ : Addr) (.int .u8 y24)) [⟨.slice (some ⟨g6, 0, none⟩) (((a0.length : Int)).toNat) (((a0.length : Int) : Int).toNat), 5, 1, nums .u8 (x5_0.set (x23_0 : Int).toNat y24)⟩] := Mem.put_num [] [] (hM.pick [0] rfl rfl) hAq25 _ hl_ _
                                  generalize W12.setCell (⟨q25, (x23_0 : Int).toNat, none⟩ : Addr) (.int .u8 y24) = W28 at hM ⊢
                                  clear hc_ hf_ hl_ hA_ hcq25
                                  refine RunF.go 7 [0, 1, 5, 22, 23] (k' := (pl Go.Proofs.Try.f30 [1, 1, 1, 1, 0, 1, 0, 0])) (L' := [(0, .slice Ap0 a0.length cp0), (1, .int .i64 t3), (5, .slice (some ⟨g6, 0, none⟩) (((a0.length : Int)).toNat) (((a0.length : Int) : Int).toNat)), (22, .int .i64 (((a0.length : Int)).toNat : Int)), (23, .int .i64 (I64 (x23_0 + 1)))]) (w' := W28) (by kernel_rfl) ?_
                                  exact ih0 k (by omega) (x5_0.set (x23_0 : Int).toNat y24) (I64 (x23_0 + 1)) _ (hM.pick [0] rfl rfl) h
                                · replace h := of_false h c27
                                  cases h
                              · replace h := of_false h c26
                                cases h
                            · replace h := of_false h c23
                              cases h
                          · replace h := of_false h c21
                            cases h
                        · replace h := of_false h c20
                          cases h
                    · replace h := of_false h c17
                      cases h
                  · replace h := of_false h c16
                    cases h
              · replace h := of_false h c11
                refine RunF.know 24 (b := false) (by kernel_rfl) c11 ?_
                refine RunF.go 7 [4] (k' := (pl Go.Proofs.Try.f30 [1, 1, 1, 1, 1, 1])) (L' := [(4, .slice (some ⟨g6, 0, none⟩) (((a0.length : Int)).toNat) (((a0.length : Int) : Int).toNat))]) (w' := W) (by kernel_rfl) ?_
                obtain rfl := Option.some.inj h
                exact RunF.ret1 4 (.slice (some ⟨g6, 0, none⟩) (((a0.length : Int)).toNat) (((a0.length : Int) : Int).toNat)) (fn := Go.Proofs.Try.f30) Go.Proofs.Try.func30 (by kernel_rfl) (by kernel_rfl) (by kernel_rfl) ⟨_, rfl, (some ⟨g6, 0, none⟩), ((a0.length : Int)).toNat, ((a0.length : Int) : Int).toNat, rfl, (hM.pick [0] rfl rfl)⟩
        exact l0 k (Nat.le_refl _) (List.replicate (((a0.length : Int)).toNat) 0) 0 _ (hM.pick [0] rfl rfl) h
      · replace h := of_false h c8
        cases h
    · replace h := of_false h c7
      cases h

/-! ### scrim/scrimref1.Turn: function 31 -/
def scrimref1_Turn.l0 : Nat → (List Int) → Int → (List Int) → Int → Option (List Int)
  | 0, _, _, _, _ => none
  | k + 1, a0, t7, x5_0, x7_0 => if (decide (x7_0 < (a0.length : Int))) = true then (if (decide ((a0.length : Int) = 0)) = true then (none) else (if (decide (0 ≤ (Int.tmod (I64 (x7_0 + (I64 (Int.tdiv t7 8)))) (a0.length : Int)))) = true then (if (decide ((Int.tmod (I64 (x7_0 + (I64 (Int.tdiv t7 8)))) (a0.length : Int)) < (a0.length : Int))) = true then (if (decide ((a0.length : Int) = 0)) = true then (none) else (if (decide (0 ≤ (Int.tmod (I64 ((I64 (x7_0 + (I64 (Int.tdiv t7 8)))) + 1)) (a0.length : Int)))) = true then (if (decide ((Int.tmod (I64 ((I64 (x7_0 + (I64 (Int.tdiv t7 8)))) + 1)) (a0.length : Int)) < (a0.length : Int))) = true then ((some (rd a0 (Int.tmod (I64 (x7_0 + (I64 (Int.tdiv t7 8)))) (a0.length : Int)) : Int)).bind fun y20 => ((some (rd a0 (Int.tmod (I64 ((I64 (x7_0 + (I64 (Int.tdiv t7 8)))) + 1)) (a0.length : Int)) : Int)).bind fun y21 => (if (decide (0 ≤ (U64 (Int.tmod t7 8)))) = true then (if (decide (0 ≤ (U64 (I64 (8 - (Int.tmod t7 8)))))) = true then ((some (bor .u8 (shlv .u8 y20 (U64 (Int.tmod t7 8))) (shrv .u8 y21 (U64 (I64 (8 - (Int.tmod t7 8))))) : Int)).bind fun y24 => (if (decide (0 ≤ x7_0)) = true then (if (decide (x7_0 < (((a0.length : Int)).toNat : Int))) = true then (scrimref1_Turn.l0 k a0 t7 (x5_0.set (x7_0 : Int).toNat y24) (I64 (x7_0 + 1))) else (none)) else (none))) else (none)) else (none)))) else (none)) else (none))) else (none)) else (none))) else (some x5_0)
def scrimref1_Turn.f (k : Nat) (a0 : List Int) (a1 : Int) : Option (List Int) := if (decide (0 ≤ (a0.length : Int))) = true then (if (decide ((a0.length : Int) ≤ 1000000000)) = true then (if ((a0.length : Int) == 0) = true then (some (List.replicate (((a0.length : Int)).toNat) 0)) else ((scrimref1_rest.f k a1 (I64 (8 * (a0.length : Int)))).bind fun t7 => (scrimref1_Turn.l0 k a0 t7 (List.replicate (((a0.length : Int)).toNat) 0) 0))) else (none)) else (none)
set_option maxRecDepth 100000 in
theorem scrimref1_Turn.calls (k : Nat) (Ap0 : Option Addr) (np0 cp0 : Nat) (a0 : List Int) (a1 : Int) (r : List Int) (w : World) (hr0 : Rd w (.slice Ap0 np0 cp0) (nums .u8 a0)) (h : scrimref1_Turn.f k a0 a1 = some r) :
    Calls Go.Proofs.Try.prog 31 #[(.slice Ap0 np0 cp0), .int .i64 a1] w (Ret fun v w' => ∃ A0' n0' c0', v = .slice A0' n0' c0' ∧ Mem w w' [⟨.slice A0' n0' c0', 5, 1, nums .u8 r⟩]) := by
  obtain rfl : a0.length = np0 := by have h_ := hr0.1; simpa [nums_length, bools_length] using h_
  unfold scrimref1_Turn.f at h
  refine calls_of [.slice Ap0 a0.length cp0, .int .i64 a1] (fn := Go.Proofs.Try.f31) Go.Proofs.Try.func31 (by kernel_rfl) (by kernel_rfl) ?_
  have hM := Mem.refl w
  refine RunF.go 8 [0, 1, 11] (k' := (pin Go.Proofs.Try.f31 [1, 0] 2)) (L' := [(0, .slice Ap0 a0.length cp0), (1, .int .i64 a1), (11, .int .i64 (a0.length : Int))]) (w' := w) (by kernel_rfl) ?_
  rcases two (decide (0 ≤ (a0.length : Int))) with c3 | c3
  · replace h := of_true h c3
    rcases two (decide ((a0.length : Int) ≤ 1000000000)) with c4 | c4
    · replace h := of_true h c4
      have := of_decide_eq_true c3
      have := of_decide_eq_true c4
      obtain ⟨W1, hD, hM', hB_⟩ := mk_does (P := Go.Proofs.Try.prog) (n := 65) (k := (pin Go.Proofs.Try.f31 [1, 0] 2)) (L := [(0, .slice Ap0 a0.length cp0), (1, .int .i64 a1), (11, .int .i64 (a0.length : Int))]) (d := some 12) (e := 5) (z := .int .u8 0) (l := (a0.length : Int)) (c := (a0.length : Int)) (k2 := (pin Go.Proofs.Try.f31 [1, 0] 3)) (by kernel_rfl) (by omega) (by omega) (by omega) hM
      rw [rep_nums] at hM'
      refine RunF.does hD ?_
      replace hM := hM'; clear hD hM'
      generalize w.heap.size = g2 at hM ⊢
      refine RunF.go 9 [0, 1, 5, 15] (k' := (pl Go.Proofs.Try.f31 [1, 1, 0, 1])) (L' := [(0, .slice Ap0 a0.length cp0), (1, .int .i64 a1), (5, .slice (some ⟨g2, 0, none⟩) (((a0.length : Int)).toNat) (((a0.length : Int) : Int).toNat)), (15, .bool ((a0.length : Int) == 0))]) (w' := W1) (by kernel_rfl) ?_
      rcases two (((a0.length : Int) == 0)) with c6 | c6
      · replace h := of_true h c6
        refine RunF.know 15 (b := true) (by kernel_rfl) c6 ?_
        refine RunF.go 6 [4] (k' := (pl Go.Proofs.Try.f31 [1, 1, 0, 1, 0, 1])) (L' := [(4, .slice (some ⟨g2, 0, none⟩) (((a0.length : Int)).toNat) (((a0.length : Int) : Int).toNat))]) (w' := W1) (by kernel_rfl) ?_
        obtain rfl := Option.some.inj h
        exact RunF.ret1 4 (.slice (some ⟨g2, 0, none⟩) (((a0.length : Int)).toNat) (((a0.length : Int) : Int).toNat)) (fn := Go.Proofs.Try.f31) Go.Proofs.Try.func31 (by kernel_rfl) (by kernel_rfl) (by kernel_rfl) ⟨_, rfl, (some ⟨g2, 0, none⟩), ((a0.length : Int)).toNat, ((a0.length : Int) : Int).toNat, rfl, (hM.pick [0] rfl rfl)⟩
      · replace h := of_false h c6
        refine RunF.know 15 (b := false) (by kernel_rfl) c6 ?_
        refine RunF.go 8 [0, 5, 17, 20] (k' := (pin Go.Proofs.Try.f31 [1, 1, 1, 0] 4)) (L' := [(0, .slice Ap0 a0.length cp0), (5, .slice (some ⟨g2, 0, none⟩) (((a0.length : Int)).toNat) (((a0.length : Int) : Int).toNat)), (17, .int .i64 a1), (20, .int .i64 (I64 (8 * (a0.length : Int))))]) (w' := W1) (by kernel_rfl) ?_
        obtain ⟨t7, ht7, h⟩ := Option.bind_eq_some_iff.mp h
        refine RunF.call (d := some 21) (g := 44) (args := #[.int .i64 a1, .int .i64 (I64 (8 * (a0.length : Int)))]) (k2 := (pin Go.Proofs.Try.f31 [1, 1, 1, 0] 5)) (by kernel_rfl) (scrimref1_rest.calls k a1 (I64 (8 * (a0.length : Int))) t7 _ ht7) ?_
        rintro _ W8 ⟨rfl, hM_⟩
        replace hM := hM.call hM_
        clear hM_ ht7
        refine RunF.go 9 [0, 5, 6, 7] (k' := (pl Go.Proofs.Try.f31 [1, 1, 1, 1, 0, 1, 0, 0])) (L' := [(0, .slice Ap0 a0.length cp0), (5, .slice (some ⟨g2, 0, none⟩) (((a0.length : Int)).toNat) (((a0.length : Int) : Int).toNat)), (6, .int .i64 t7), (7, .int .i64 0)]) (w' := W8) (by kernel_rfl) ?_
        have l0 : ∀ (k_ : Nat), k_ ≤ k → ∀ (x5_0 : List Int) (x7_0 : Int) (W : World) (hM : Mem w W [⟨.slice (some ⟨g2, 0, none⟩) (((a0.length : Int)).toNat) (((a0.length : Int) : Int).toNat), 5, 1, nums .u8 x5_0⟩]) (h : scrimref1_Turn.l0 k_ a0 t7 x5_0 x7_0 = some r), RunF Go.Proofs.Try.prog (Ret fun v w' => ∃ A0' n0' c0', v = .slice A0' n0' c0' ∧ Mem w w' [⟨.slice A0' n0' c0', 5, 1, nums .u8 r⟩]) 31 (pl Go.Proofs.Try.f31 [1, 1, 1, 1, 0, 1, 0, 0]) 65 [(0, .slice Ap0 a0.length cp0), (5, .slice (some ⟨g2, 0, none⟩) (((a0.length : Int)).toNat) (((a0.length : Int) : Int).toNat)), (6, .int .i64 t7), (7, .int .i64 x7_0)] W := by
          intro k_
          induction k_ using Nat.strongRecOn with
          | _ k_ ih0 =>
            intro hk x5_0 x7_0 W hM h
            cases k_ with
            | zero => exact absurd h (by simp [scrimref1_Turn.l0])
            | succ k =>
              simp only [scrimref1_Turn.l0] at h
              replace ih0 : ∀ m, m ≤ k → _ := fun m hm => ih0 m (by omega) (by omega)
              refine RunF.go 8 [0, 5, 6, 7, 25] (k' := (pl Go.Proofs.Try.f31 [1, 1, 1, 1, 0, 1, 0, 0, 0, 1])) (L' := [(0, .slice Ap0 a0.length cp0), (5, .slice (some ⟨g2, 0, none⟩) (((a0.length : Int)).toNat) (((a0.length : Int) : Int).toNat)), (6, .int .i64 t7), (7, .int .i64 x7_0), (25, .bool (decide (x7_0 < (a0.length : Int))))]) (w' := W) (by kernel_rfl) ?_
              rcases two (decide (x7_0 < (a0.length : Int))) with c9 | c9
              · replace h := of_true h c9
                refine RunF.know 25 (b := true) (by kernel_rfl) c9 ?_
                refine RunF.go 5 [0, 5, 6, 7] (k' := (pl Go.Proofs.Try.f31 [1, 1, 1, 1, 0, 1, 0, 0, 1, 0, 0, 0])) (L' := [(0, .slice Ap0 a0.length cp0), (5, .slice (some ⟨g2, 0, none⟩) (((a0.length : Int)).toNat) (((a0.length : Int) : Int).toNat)), (6, .int .i64 t7), (7, .int .i64 x7_0)]) (w' := W) (by kernel_rfl) ?_
                refine RunF.draw (Still ({ W with drawn := W.drawn + 1 } : World) []) (by kernel_rfl) (by kernel_rfl) ?_
                have hMd11 := hM.drew
                have hS := Still.refl ({ W with drawn := W.drawn + 1 } : World) []
                generalize ({ W with drawn := W.drawn + 1 } : World) = W10 at hMd11 hS ⊢
                replace hM := hMd11
                refine RunAny.y 0 (by kernel_rfl) (yl_pure (d := some 28) (v := .slice Ap0 a0.length cp0) (k2 := [.inRegion (opsOf (pl Go.Proofs.Try.f31 [1, 1, 1, 1, 0, 1, 0, 0, 1, 0, 0, 0])) []]) fun w => by kernel_rfl) (fun _ _ => trivial) hS ?_
                refine RunAny.y 1 (by kernel_rfl) (yl_pure (d := some 29) (v := .int .i64 x7_0) (k2 := [.inRegion (opsOf (pl Go.Proofs.Try.f31 [1, 1, 1, 1, 0, 1, 0, 0, 1, 0, 0, 0])) []]) fun w => by kernel_rfl) (fun _ _ => trivial) hS ?_
                refine RunAny.y 2 (by kernel_rfl) (yl_pure (d := some 30) (v := .int .i64 t7) (k2 := [.inRegion (opsOf (pl Go.Proofs.Try.f31 [1, 1, 1, 1, 0, 1, 0, 0, 1, 0, 0, 0])) []]) fun w => by kernel_rfl) (fun _ _ => trivial) hS ?_
                refine RunAny.y 3 (by kernel_rfl) (yl_pure (d := some 31) (v := .int .i64 (I64 (Int.tdiv t7 8))) (k2 := [.inRegion (opsOf (pl Go.Proofs.Try.f31 [1, 1, 1, 1, 0, 1, 0, 0, 1, 0, 0, 0])) []]) fun w => by kernel_rfl) (fun _ _ => trivial) hS ?_
                refine RunAny.y 4 (by kernel_rfl) (yl_pure (d := some 32) (v := .int .i64 (I64 (x7_0 + (I64 (Int.tdiv t7 8))))) (k2 := [.inRegion (opsOf (pl Go.Proofs.Try.f31 [1, 1, 1, 1, 0, 1, 0, 0, 1, 0, 0, 0])) []]) fun w => by kernel_rfl) (fun _ _ => trivial) hS ?_
                refine RunAny.y 5 (by kernel_rfl) (yl_pure (d := some 33) (v := .slice Ap0 a0.length cp0) (k2 := [.inRegion (opsOf (pl Go.Proofs.Try.f31 [1, 1, 1, 1, 0, 1, 0, 0, 1, 0, 0, 0])) []]) fun w => by kernel_rfl) (fun _ _ => trivial) hS ?_
                refine RunAny.y 6 (by kernel_rfl) (yl_pure (d := some 34) (v := .int .i64 (a0.length : Int)) (k2 := [.inRegion (opsOf (pl Go.Proofs.Try.f31 [1, 1, 1, 1, 0, 1, 0, 0, 1, 0, 0, 0])) []]) fun w => by kernel_rfl) (fun _ _ => trivial) hS ?_
                rcases two (decide ((a0.length : Int) = 0)) with c12 | c12
                · replace h := of_true h c12
                  cases h
                · replace h := of_false h c12
                  refine RunAny.y 7 (by kernel_rfl) (div_y (d := some 35) (b := false) (kd := .i64) (x := I64 (x7_0 + (I64 (Int.tdiv t7 8)))) (y := (a0.length : Int)) (k2 := [.inRegion (opsOf (pl Go.Proofs.Try.f31 [1, 1, 1, 1, 0, 1, 0, 0, 1, 0, 0, 0])) []]) (by kernel_rfl) c12) (fun _ _ => trivial) hS ?_
                  rcases two (decide (0 ≤ (Int.tmod (I64 (x7_0 + (I64 (Int.tdiv t7 8)))) (a0.length : Int)))) with c14 | c14
                  · replace h := of_true h c14
                    rcases two (decide ((Int.tmod (I64 (x7_0 + (I64 (Int.tdiv t7 8)))) (a0.length : Int)) < (a0.length : Int))) with c15 | c15
                    · replace h := of_true h c15
                      obtain ⟨q13, hAq13, hcq13⟩ := Rd.num (hr0.mono hM.below) (i := Int.tmod (I64 (x7_0 + (I64 (Int.tdiv t7 8)))) (a0.length : Int)) (of_decide_eq_true c14) (by have h_ := of_decide_eq_true c15; omega)
                      refine RunAny.y 8 (by kernel_rfl) (idx_y (d := some 36) (A := Ap0) (m := a0.length) (i := Int.tmod (I64 (x7_0 + (I64 (Int.tdiv t7 8)))) (a0.length : Int)) (k2 := [.inRegion (opsOf (pl Go.Proofs.Try.f31 [1, 1, 1, 1, 0, 1, 0, 0, 1, 0, 0, 0])) []]) (by kernel_rfl) (of_decide_eq_true c14) (by have h_ := of_decide_eq_true c15; omega) hAq13) (fun _ _ => trivial) hS ?_
                      refine RunAny.y 9 (by kernel_rfl) (ld_y (d := some 37) (p := (q13.add (Int.tmod (I64 (x7_0 + (I64 (Int.tdiv t7 8)))) (a0.length : Int) : Int).toNat)) (k2 := [.inRegion (opsOf (pl Go.Proofs.Try.f31 [1, 1, 1, 1, 0, 1, 0, 0, 1, 0, 0, 0])) []]) (.int .u8 (rd a0 (Int.tmod (I64 (x7_0 + (I64 (Int.tdiv t7 8)))) (a0.length : Int)))) (by kernel_rfl)) (fun _ hs => hs.cell hcq13 (by simp)) hS ?_
                      refine RunAny.y 10 (by kernel_rfl) (yl_pure (d := some 38) (v := .slice Ap0 a0.length cp0) (k2 := [.inRegion (opsOf (pl Go.Proofs.Try.f31 [1, 1, 1, 1, 0, 1, 0, 0, 1, 0, 0, 0])) []]) fun w => by kernel_rfl) (fun _ _ => trivial) hS ?_
                      refine RunAny.y 11 (by kernel_rfl) (yl_pure (d := some 39) (v := .int .i64 x7_0) (k2 := [.inRegion (opsOf (pl Go.Proofs.Try.f31 [1, 1, 1, 1, 0, 1, 0, 0, 1, 0, 0, 0])) []]) fun w => by kernel_rfl) (fun _ _ => trivial) hS ?_
                      refine RunAny.y 12 (by kernel_rfl) (yl_pure (d := some 40) (v := .int .i64 t7) (k2 := [.inRegion (opsOf (pl Go.Proofs.Try.f31 [1, 1, 1, 1, 0, 1, 0, 0, 1, 0, 0, 0])) []]) fun w => by kernel_rfl) (fun _ _ => trivial) hS ?_
                      refine RunAny.y 13 (by kernel_rfl) (yl_pure (d := some 41) (v := .int .i64 (I64 (Int.tdiv t7 8))) (k2 := [.inRegion (opsOf (pl Go.Proofs.Try.f31 [1, 1, 1, 1, 0, 1, 0, 0, 1, 0, 0, 0])) []]) fun w => by kernel_rfl) (fun _ _ => trivial) hS ?_
                      refine RunAny.y 14 (by kernel_rfl) (yl_pure (d := some 42) (v := .int .i64 (I64 (x7_0 + (I64 (Int.tdiv t7 8))))) (k2 := [.inRegion (opsOf (pl Go.Proofs.Try.f31 [1, 1, 1, 1, 0, 1, 0, 0, 1, 0, 0, 0])) []]) fun w => by kernel_rfl) (fun _ _ => trivial) hS ?_
                      refine RunAny.y 15 (by kernel_rfl) (yl_pure (d := some 43) (v := .int .i64 (I64 ((I64 (x7_0 + (I64 (Int.tdiv t7 8)))) + 1))) (k2 := [.inRegion (opsOf (pl Go.Proofs.Try.f31 [1, 1, 1, 1, 0, 1, 0, 0, 1, 0, 0, 0])) []]) fun w => by kernel_rfl) (fun _ _ => trivial) hS ?_
                      refine RunAny.y 16 (by kernel_rfl) (yl_pure (d := some 44) (v := .slice Ap0 a0.length cp0) (k2 := [.inRegion (opsOf (pl Go.Proofs.Try.f31 [1, 1, 1, 1, 0, 1, 0, 0, 1, 0, 0, 0])) []]) fun w => by kernel_rfl) (fun _ _ => trivial) hS ?_
                      refine RunAny.y 17 (by kernel_rfl) (yl_pure (d := some 45) (v := .int .i64 (a0.length : Int)) (k2 := [.inRegion (opsOf (pl Go.Proofs.Try.f31 [1, 1, 1, 1, 0, 1, 0, 0, 1, 0, 0, 0])) []]) fun w => by kernel_rfl) (fun _ _ => trivial) hS ?_
                      rcases two (decide ((a0.length : Int) = 0)) with c16 | c16
                      · replace h := of_true h c16
                        cases h
                      · replace h := of_false h c16
                        refine RunAny.y 18 (by kernel_rfl) (div_y (d := some 46) (b := false) (kd := .i64) (x := I64 ((I64 (x7_0 + (I64 (Int.tdiv t7 8)))) + 1)) (y := (a0.length : Int)) (k2 := [.inRegion (opsOf (pl Go.Proofs.Try.f31 [1, 1, 1, 1, 0, 1, 0, 0, 1, 0, 0, 0])) []]) (by kernel_rfl) c16) (fun _ _ => trivial) hS ?_
                        rcases two (decide (0 ≤ (Int.tmod (I64 ((I64 (x7_0 + (I64 (Int.tdiv t7 8)))) + 1)) (a0.length : Int)))) with c18 | c18
                        · replace h := of_true h c18
                          rcases two (decide ((Int.tmod (I64 ((I64 (x7_0 + (I64 (Int.tdiv t7 8)))) + 1)) (a0.length : Int)) < (a0.length : Int))) with c19 | c19
                          · replace h := of_true h c19
                            obtain ⟨q17, hAq17, hcq17⟩ := Rd.num (hr0.mono hM.below) (i := Int.tmod (I64 ((I64 (x7_0 + (I64 (Int.tdiv t7 8)))) + 1)) (a0.length : Int)) (of_decide_eq_true c18) (by have h_ := of_decide_eq_true c19; omega)
                            refine RunAny.y 19 (by kernel_rfl) (idx_y (d := some 47) (A := Ap0) (m := a0.length) (i := Int.tmod (I64 ((I64 (x7_0 + (I64 (Int.tdiv t7 8)))) + 1)) (a0.length : Int)) (k2 := [.inRegion (opsOf (pl Go.Proofs.Try.f31 [1, 1, 1, 1, 0, 1, 0, 0, 1, 0, 0, 0])) []]) (by kernel_rfl) (of_decide_eq_true c18) (by have h_ := of_decide_eq_true c19; omega) hAq17) (fun _ _ => trivial) hS ?_
                            refine RunAny.y 20 (by kernel_rfl) (ld_y (d := some 48) (p := (q17.add (Int.tmod (I64 ((I64 (x7_0 + (I64 (Int.tdiv t7 8)))) + 1)) (a0.length : Int) : Int).toNat)) (k2 := [.inRegion (opsOf (pl Go.Proofs.Try.f31 [1, 1, 1, 1, 0, 1, 0, 0, 1, 0, 0, 0])) []]) (.int .u8 (rd a0 (Int.tmod (I64 ((I64 (x7_0 + (I64 (Int.tdiv t7 8)))) + 1)) (a0.length : Int)))) (by kernel_rfl)) (fun _ hs => hs.cell hcq17 (by simp)) hS ?_
                            refine RunAny.y 21 (by kernel_rfl) (yl_pure (d := some 8) (v := .int .u8 (rd a0 (Int.tmod (I64 (x7_0 + (I64 (Int.tdiv t7 8)))) (a0.length : Int)))) (k2 := [.inRegion (opsOf (pl Go.Proofs.Try.f31 [1, 1, 1, 1, 0, 1, 0, 0, 1, 0, 0, 0])) []]) fun w => by kernel_rfl) (fun _ _ => trivial) hS ?_
                            refine RunAny.y 22 (by kernel_rfl) (yl_pure (d := some 9) (v := .int .u8 (rd a0 (Int.tmod (I64 ((I64 (x7_0 + (I64 (Int.tdiv t7 8)))) + 1)) (a0.length : Int)))) (k2 := [.inRegion (opsOf (pl Go.Proofs.Try.f31 [1, 1, 1, 1, 0, 1, 0, 0, 1, 0, 0, 0])) []]) fun w => by kernel_rfl) (fun _ _ => trivial) hS ?_
                            refine RunAny.done (by kernel_rfl) ?_
                            clear hS
                            refine RunF.go 7 [0, 5, 6, 7, 9, 49, 50, 51, 54] (k' := (pin Go.Proofs.Try.f31 [1, 1, 1, 1, 0, 1, 0, 0, 1, 0, 0, 1] 6)) (L' := [(0, .slice Ap0 a0.length cp0), (5, .slice (some ⟨g2, 0, none⟩) (((a0.length : Int)).toNat) (((a0.length : Int) : Int).toNat)), (6, .int .i64 t7), (7, .int .i64 x7_0), (9, .int .u8 (rd a0 (Int.tmod (I64 ((I64 (x7_0 + (I64 (Int.tdiv t7 8)))) + 1)) (a0.length : Int)))), (49, .slice (some ⟨g2, 0, none⟩) (((a0.length : Int)).toNat) (((a0.length : Int) : Int).toNat)), (50, .int .i64 x7_0), (51, .int .u8 (rd a0 (Int.tmod (I64 (x7_0 + (I64 (Int.tdiv t7 8)))) (a0.length : Int)))), (54, .int .u64 (U64 (Int.tmod t7 8)))]) (w' := W10) (by kernel_rfl) ?_
                            obtain ⟨y20, hy, h⟩ := Option.bind_eq_some_iff.mp h
                            rw [show (rd a0 (Int.tmod (I64 (x7_0 + (I64 (Int.tdiv t7 8)))) (a0.length : Int))) = y20 from Option.some.inj hy]
                            clear hy
                            obtain ⟨y21, hy, h⟩ := Option.bind_eq_some_iff.mp h
                            rw [show (rd a0 (Int.tmod (I64 ((I64 (x7_0 + (I64 (Int.tdiv t7 8)))) + 1)) (a0.length : Int))) = y21 from Option.some.inj hy]
                            clear hy
                            rcases two (decide (0 ≤ (U64 (Int.tmod t7 8)))) with c22 | c22
                            · replace h := of_true h c22
                              refine RunF.y (sh_y (d := some 55) (b := true) (kd := .u8) (x := y20) (y := U64 (Int.tmod t7 8)) (k2 := (pin Go.Proofs.Try.f31 [1, 1, 1, 1, 0, 1, 0, 0, 1, 0, 0, 1] 7)) (by kernel_rfl) c22) trivial ?_
                              refine RunF.go 5 [0, 5, 6, 7, 49, 50, 55, 56, 60] (k' := (pin Go.Proofs.Try.f31 [1, 1, 1, 1, 0, 1, 0, 0, 1, 0, 0, 1] 12)) (L' := [(0, .slice Ap0 a0.length cp0), (5, .slice (some ⟨g2, 0, none⟩) (((a0.length : Int)).toNat) (((a0.length : Int) : Int).toNat)), (6, .int .i64 t7), (7, .int .i64 x7_0), (49, .slice (some ⟨g2, 0, none⟩) (((a0.length : Int)).toNat) (((a0.length : Int) : Int).toNat)), (50, .int .i64 x7_0), (55, .int .u8 (shlv .u8 y20 (U64 (Int.tmod t7 8)))), (56, .int .u8 y21), (60, .int .u64 (U64 (I64 (8 - (Int.tmod t7 8)))))]) (w' := W10) (by kernel_rfl) ?_
                              rcases two (decide (0 ≤ (U64 (I64 (8 - (Int.tmod t7 8)))))) with c23 | c23
                              · replace h := of_true h c23
                                refine RunF.y (sh_y (d := some 61) (b := false) (kd := .u8) (x := y21) (y := U64 (I64 (8 - (Int.tmod t7 8)))) (k2 := (pin Go.Proofs.Try.f31 [1, 1, 1, 1, 0, 1, 0, 0, 1, 0, 0, 1] 13)) (by kernel_rfl) c23) trivial ?_
                                refine RunF.go 1 [0, 5, 6, 7, 49, 50, 62] (k' := (pin Go.Proofs.Try.f31 [1, 1, 1, 1, 0, 1, 0, 0, 1, 0, 0, 1] 14)) (L' := [(0, .slice Ap0 a0.length cp0), (5, .slice (some ⟨g2, 0, none⟩) (((a0.length : Int)).toNat) (((a0.length : Int) : Int).toNat)), (6, .int .i64 t7), (7, .int .i64 x7_0), (49, .slice (some ⟨g2, 0, none⟩) (((a0.length : Int)).toNat) (((a0.length : Int) : Int).toNat)), (50, .int .i64 x7_0), (62, .int .u8 (bor .u8 (shlv .u8 y20 (U64 (Int.tmod t7 8))) (shrv .u8 y21 (U64 (I64 (8 - (Int.tmod t7 8)))))))]) (w' := W10) (by kernel_rfl) ?_
                                obtain ⟨y24, hy, h⟩ := Option.bind_eq_some_iff.mp h
                                rw [show (bor .u8 (shlv .u8 y20 (U64 (Int.tmod t7 8))) (shrv .u8 y21 (U64 (I64 (8 - (Int.tmod t7 8)))))) = y24 from Option.some.inj hy]
                                clear hy
                                rcases two (decide (0 ≤ x7_0)) with c26 | c26
                                · replace h := of_true h c26
                                  rcases two (decide (x7_0 < (((a0.length : Int)).toNat : Int))) with c27 | c27
                                  · replace h := of_true h c27
                                    obtain ⟨q25, hAq25, hcq25, hfq25, hlq25⟩ := hM.num_at 0 rfl (i := x7_0) (of_decide_eq_true c26) (by have h_ := of_decide_eq_true c27; omega)
                                    refine RunF.y (idx_own (d := some 63) (A := (some ⟨g2, 0, none⟩)) (m := ((a0.length : Int)).toNat) (i := x7_0) (k2 := (pin Go.Proofs.Try.f31 [1, 1, 1, 1, 0, 1, 0, 0, 1, 0, 0, 1] 15)) (by kernel_rfl) (of_decide_eq_true c26) (by have h_ := of_decide_eq_true c27; omega) hAq25) trivial ?_
                                    obtain ⟨g_, hA_, hc_, hf_, hl_⟩ := hM.num_at 0 rfl (i := x7_0) (of_decide_eq_true c26) (by have h_ := of_decide_eq_true c27; omega)
                                    obtain rfl : q25 = g_ := by rw [hAq25] at hA_; injection hA_ with hA_; injection hA_
                                    refine RunF.doesU (st_u (p := (⟨q25, (x7_0 : Int).toNat, none⟩ : Addr)) (v := .int .u8 y24) (k2 := (pin Go.Proofs.Try.f31 [1, 1, 1, 1, 0, 1, 0, 0, 1, 0, 0, 1] 16)) (by kernel_rfl) hc_ hf_) ?_
                                    replace hM : Mem w (W10.setCell (⟨q25, (x7_0 : Int).toNat, none⟩ : Addr) (.int .u8 y24)) [⟨.slice (some ⟨g2, 0, none⟩) (((a0.length : Int)).toNat) (((a0.length : Int) : Int).toNat), 5, 1, nums .u8 (x5_0.set (x7_0 : Int).toNat y24)⟩] := Mem.put_num [] [] (hM.pick [0] rfl rfl) hAq25 _ hl_ _
                                    generalize W10.setCell (⟨q25, (x7_0 : Int).toNat, none⟩ : Addr) (.int .u8 y24) = W28 at hM ⊢
                                    clear hc_ hf_ hl_ hA_ hcq25
                                    refine RunF.go 8 [0, 5, 6, 7] (k' := (pl Go.Proofs.Try.f31 [1, 1, 1, 1, 0, 1, 0, 0])) (L' := [(0, .slice Ap0 a0.length cp0), (5, .slice (some ⟨g2, 0, none⟩) (((a0.length : Int)).toNat) (((a0.length : Int) : Int).toNat)), (6, .int .i64 t7), (7, .int .i64 (I64 (x7_0 + 1)))]) (w' := W28) (by kernel_rfl) ?_
                                    exact ih0 k (by omega) (x5_0.set (x7_0 : Int).toNat y24) (I64 (x7_0 + 1)) _ (hM.pick [0] rfl rfl) h
                                  · replace h := of_false h c27
                                    cases h
                                · replace h := of_false h c26
                                  cases h
                              · replace h := of_false h c23
                                cases h
                            · replace h := of_false h c22
                              cases h
                          · replace h := of_false h c19
                            cases h
                        · replace h := of_false h c18
                          cases h
                    · replace h := of_false h c15
                      cases h
                  · replace h := of_false h c14
                    cases h
              · replace h := of_false h c9
                refine RunF.know 25 (b := false) (by kernel_rfl) c9 ?_
                refine RunF.go 7 [4] (k' := (pl Go.Proofs.Try.f31 [1, 1, 1, 1, 1, 1])) (L' := [(4, .slice (some ⟨g2, 0, none⟩) (((a0.length : Int)).toNat) (((a0.length : Int) : Int).toNat))]) (w' := W) (by kernel_rfl) ?_
                obtain rfl := Option.some.inj h
                exact RunF.ret1 4 (.slice (some ⟨g2, 0, none⟩) (((a0.length : Int)).toNat) (((a0.length : Int) : Int).toNat)) (fn := Go.Proofs.Try.f31) Go.Proofs.Try.func31 (by kernel_rfl) (by kernel_rfl) (by kernel_rfl) ⟨_, rfl, (some ⟨g2, 0, none⟩), ((a0.length : Int)).toNat, ((a0.length : Int) : Int).toNat, rfl, (hM.pick [0] rfl rfl)⟩
        exact l0 k (Nat.le_refl _) (List.replicate (((a0.length : Int)).toNat) 0) 0 _ (hM.pick [0] rfl rfl) h
    · replace h := of_false h c4
      cases h
  · replace h := of_false h c3
    cases h

/-! ### scrim/scrimlaw1.WordsTurns: function 7 -/
def scrimlaw1_WordsTurns.l0 : Nat → Int → Int → (List Int) → Int → Int → Int → Int → Option (Bool)
  | 0, _, _, _, _, _, _, _ => none
  | k + 1, a0, a1, a2, a3, a4, t5, x12_0 => if (decide (x12_0 < 10)) = true then (if (decide (0 ≤ x12_0)) = true then (if (decide (x12_0 < (10 : Int))) = true then (if (decide (0 ≤ x12_0)) = true then (if (decide (x12_0 < (10 : Int))) = true then ((words_Rol32.f k a0 (rd ([a3, I64 (t5 - 150), Int.tmod a4 64, 0, 1, 8, 25, 31, 32, (-1)] : List Int) x12_0)).bind fun t19 => ((scrimref1_Rol32.f k a0 (rd ([a3, I64 (t5 - 150), Int.tmod a4 64, 0, 1, 8, 25, 31, 32, (-1)] : List Int) x12_0)).bind fun t21 => (if (t19 != t21) = true then (some false) else (if (decide (0 ≤ x12_0)) = true then (if (decide (x12_0 < (10 : Int))) = true then (if (decide (0 ≤ x12_0)) = true then (if (decide (x12_0 < (10 : Int))) = true then ((words_Rol8.f k a1 (rd ([a3, I64 (t5 - 150), Int.tmod a4 64, 0, 1, 8, 25, 31, 32, (-1)] : List Int) x12_0)).bind fun t30 => ((scrimref1_Rol8.f k a1 (rd ([a3, I64 (t5 - 150), Int.tmod a4 64, 0, 1, 8, 25, 31, 32, (-1)] : List Int) x12_0)).bind fun t32 => (if (t30 != t32) = true then (some false) else (if (decide (0 ≤ x12_0)) = true then (if (decide (x12_0 < (10 : Int))) = true then (if (decide (0 ≤ x12_0)) = true then (if (decide (x12_0 < (10 : Int))) = true then ((words_Turn.f k a2 (rd ([a3, I64 (t5 - 150), Int.tmod a4 64, 0, 1, 8, 25, 31, 32, (-1)] : List Int) x12_0)).bind fun t41 => ((scrimref1_Turn.f k a2 (rd ([a3, I64 (t5 - 150), Int.tmod a4 64, 0, 1, 8, 25, 31, 32, (-1)] : List Int) x12_0)).bind fun t47 => ((some (rd ([a3, I64 (t5 - 150), Int.tmod a4 64, 0, 1, 8, 25, 31, 32, (-1)] : List Int) x12_0 : Int)).bind fun y53 => (if (!((strOf t41).toList == (strOf t47).toList)) = true then (some false) else (scrimlaw1_WordsTurns.l0 k a0 a1 a2 a3 a4 t5 (I64 (x12_0 + 1))))))) else (none)) else (none)) else (none)) else (none))))) else (none)) else (none)) else (none)) else (none))))) else (none)) else (none)) else (none)) else (none)) else (some true)
def scrimlaw1_WordsTurns.f (k : Nat) (a0 : Int) (a1 : Int) (a2 : List Int) (a3 : Int) (a4 : Int) : Option (Bool) := (scrimlaw1_known.f k).bind fun t1 => (if (!t1) = true then (some false) else (if (decide ((a2.length : Int) > 100)) = true then (some true) else ((scrimlaw1_within.f k a3 300).bind fun t5 => (scrimlaw1_WordsTurns.l0 k a0 a1 a2 a3 a4 t5 0))))
set_option maxRecDepth 100000 in
theorem scrimlaw1_WordsTurns.calls (k : Nat) (a0 : Int) (a1 : Int) (Ap2 : Option Addr) (np2 cp2 : Nat) (a2 : List Int) (a3 : Int) (a4 : Int) (r : Bool) (w : World) (hr2 : Rd w (.slice Ap2 np2 cp2) (nums .u8 a2)) (h : scrimlaw1_WordsTurns.f k a0 a1 a2 a3 a4 = some r) :
    Calls Go.Proofs.Try.prog 7 #[.int .u32 a0, .int .u8 a1, (.slice Ap2 np2 cp2), .int .i64 a3, .int .i64 a4] w (Ret fun v w' => v = .bool r ∧ Mem w w' []) := by
  obtain rfl : a2.length = np2 := by have h_ := hr2.1; simpa [nums_length, bools_length] using h_
  unfold scrimlaw1_WordsTurns.f at h
  refine calls_of [.int .u32 a0, .int .u8 a1, .slice Ap2 a2.length cp2, .int .i64 a3, .int .i64 a4] (fn := Go.Proofs.Try.f7) Go.Proofs.Try.func7 (by kernel_rfl) (by kernel_rfl) ?_
  have hM := Mem.refl w
  refine RunF.go 7 [0, 1, 2, 3, 4] (k' := (pin Go.Proofs.Try.f7 [1, 0, 0] 0)) (L' := [(0, .int .u32 a0), (1, .int .u8 a1), (2, .slice Ap2 a2.length cp2), (3, .int .i64 a3), (4, .int .i64 a4)]) (w' := w) (by kernel_rfl) ?_
  obtain ⟨t1, ht1, h⟩ := Option.bind_eq_some_iff.mp h
  refine RunF.call (d := some 13) (g := 14) (args := #[]) (k2 := (pin Go.Proofs.Try.f7 [1, 0, 0] 1)) (by kernel_rfl) (scrimlaw1_known.calls k t1 _ ht1) ?_
  rintro _ W2 ⟨rfl, hM_⟩
  replace hM := hM.call hM_
  clear hM_ ht1
  refine RunF.go 2 [0, 1, 2, 3, 4, 14] (k' := (pl Go.Proofs.Try.f7 [1, 0, 1])) (L' := [(0, .int .u32 a0), (1, .int .u8 a1), (2, .slice Ap2 a2.length cp2), (3, .int .i64 a3), (4, .int .i64 a4), (14, .bool (!t1))]) (w' := W2) (by kernel_rfl) ?_
  rcases two (!t1) with c3 | c3
  · replace h := of_true h c3
    refine RunF.know 14 (b := true) (by kernel_rfl) c3 ?_
    refine RunF.go 5 [10] (k' := (pl Go.Proofs.Try.f7 [1, 0, 1, 0, 1])) (L' := [(10, .bool false)]) (w' := W2) (by kernel_rfl) ?_
    obtain rfl := Option.some.inj h
    exact RunF.ret1 10 (.bool false) (fn := Go.Proofs.Try.f7) Go.Proofs.Try.func7 (by kernel_rfl) (by kernel_rfl) (by kernel_rfl) ⟨_, rfl, rfl, (hM.pick [] rfl rfl)⟩
  · replace h := of_false h c3
    refine RunF.know 14 (b := false) (by kernel_rfl) c3 ?_
    refine RunF.go 9 [0, 1, 2, 3, 4, 17] (k' := (pl Go.Proofs.Try.f7 [1, 1, 0, 1])) (L' := [(0, .int .u32 a0), (1, .int .u8 a1), (2, .slice Ap2 a2.length cp2), (3, .int .i64 a3), (4, .int .i64 a4), (17, .bool (decide ((a2.length : Int) > 100)))]) (w' := W2) (by kernel_rfl) ?_
    rcases two (decide ((a2.length : Int) > 100)) with c4 | c4
    · replace h := of_true h c4
      refine RunF.know 17 (b := true) (by kernel_rfl) c4 ?_
      refine RunF.go 5 [10] (k' := (pl Go.Proofs.Try.f7 [1, 1, 0, 1, 0, 1])) (L' := [(10, .bool true)]) (w' := W2) (by kernel_rfl) ?_
      obtain rfl := Option.some.inj h
      exact RunF.ret1 10 (.bool true) (fn := Go.Proofs.Try.f7) Go.Proofs.Try.func7 (by kernel_rfl) (by kernel_rfl) (by kernel_rfl) ⟨_, rfl, rfl, (hM.pick [] rfl rfl)⟩
    · replace h := of_false h c4
      refine RunF.know 17 (b := false) (by kernel_rfl) c4 ?_
      refine RunF.go 6 [0, 1, 2, 4, 18, 19] (k' := (pin Go.Proofs.Try.f7 [1, 1, 1, 0] 2)) (L' := [(0, .int .u32 a0), (1, .int .u8 a1), (2, .slice Ap2 a2.length cp2), (4, .int .i64 a4), (18, .int .i64 a3), (19, .int .i64 a3)]) (w' := W2) (by kernel_rfl) ?_
      obtain ⟨t5, ht5, h⟩ := Option.bind_eq_some_iff.mp h
      refine RunF.call (d := some 20) (g := 15) (args := #[.int .i64 a3, .int .i64 300]) (k2 := (pin Go.Proofs.Try.f7 [1, 1, 1, 0] 3)) (by kernel_rfl) (scrimlaw1_within.calls k a3 300 t5 _ ht5) ?_
      rintro _ W6 ⟨rfl, hM_⟩
      replace hM := hM.call hM_
      clear hM_ ht5
      refine RunF.go 3 [0, 1, 2, 18, 21, 23] (k' := (pin Go.Proofs.Try.f7 [1, 1, 1, 0] 6)) (L' := [(0, .int .u32 a0), (1, .int .u8 a1), (2, .slice Ap2 a2.length cp2), (18, .int .i64 a3), (21, .int .i64 (I64 (t5 - 150))), (23, .int .i64 (Int.tmod a4 64))]) (w' := W6) (by kernel_rfl) ?_
      refine RunF.new 3 1 10 (nums .i64 [a3, I64 (t5 - 150), Int.tmod a4 64, 0, 1, 8, 25, 31, 32, (-1)]) (d := some 24) (k2 := (pin Go.Proofs.Try.f7 [1, 1, 1, 0] 7)) hM (by simp [nums, bools]) (by kernel_rfl) (by kernel_rfl) ?_
      replace hM := hM
      intro g7 W8 hM
      refine RunF.go 9 [0, 1, 2, 11, 12] (k' := (pl Go.Proofs.Try.f7 [1, 1, 1, 1, 0, 1, 0, 0])) (L' := [(0, .int .u32 a0), (1, .int .u8 a1), (2, .slice Ap2 a2.length cp2), (11, .slice (some ⟨g7, 0, none⟩) 10 10), (12, .int .i64 0)]) (w' := W8) (by kernel_rfl) ?_
      have l0 : ∀ (k_ : Nat), k_ ≤ k → ∀ (x12_0 : Int) (W : World) (hM : Mem w W [⟨.slice (some ⟨g7, 0, none⟩) 10 10, 3, 1, nums .i64 [a3, I64 (t5 - 150), Int.tmod a4 64, 0, 1, 8, 25, 31, 32, (-1)]⟩]) (h : scrimlaw1_WordsTurns.l0 k_ a0 a1 a2 a3 a4 t5 x12_0 = some r), RunF Go.Proofs.Try.prog (Ret fun v w' => v = .bool r ∧ Mem w w' []) 7 (pl Go.Proofs.Try.f7 [1, 1, 1, 1, 0, 1, 0, 0]) 76 [(0, .int .u32 a0), (1, .int .u8 a1), (2, .slice Ap2 a2.length cp2), (11, .slice (some ⟨g7, 0, none⟩) 10 10), (12, .int .i64 x12_0)] W := by
        intro k_
        induction k_ using Nat.strongRecOn with
        | _ k_ ih0 =>
          intro hk x12_0 W hM h
          cases k_ with
          | zero => exact absurd h (by simp [scrimlaw1_WordsTurns.l0])
          | succ k =>
            simp only [scrimlaw1_WordsTurns.l0] at h
            replace ih0 : ∀ m, m ≤ k → _ := fun m hm => ih0 m (by omega) (by omega)
            refine RunF.go 8 [0, 1, 2, 11, 12, 28] (k' := (pl Go.Proofs.Try.f7 [1, 1, 1, 1, 0, 1, 0, 0, 0, 1])) (L' := [(0, .int .u32 a0), (1, .int .u8 a1), (2, .slice Ap2 a2.length cp2), (11, .slice (some ⟨g7, 0, none⟩) 10 10), (12, .int .i64 x12_0), (28, .bool (decide (x12_0 < 10)))]) (w' := W) (by kernel_rfl) ?_
            rcases two (decide (x12_0 < 10)) with c10 | c10
            · replace h := of_true h c10
              refine RunF.know 28 (b := true) (by kernel_rfl) c10 ?_
              refine RunF.go 5 [0, 1, 2, 11, 12] (k' := (pl Go.Proofs.Try.f7 [1, 1, 1, 1, 0, 1, 0, 0, 1, 0, 0, 0])) (L' := [(0, .int .u32 a0), (1, .int .u8 a1), (2, .slice Ap2 a2.length cp2), (11, .slice (some ⟨g7, 0, none⟩) 10 10), (12, .int .i64 x12_0)]) (w' := W) (by kernel_rfl) ?_
              refine RunF.draw (Still ({ W with drawn := W.drawn + 1 } : World) []) (by kernel_rfl) (by kernel_rfl) ?_
              have hMd12 := hM.drew
              have hS := Still.refl ({ W with drawn := W.drawn + 1 } : World) []
              generalize ({ W with drawn := W.drawn + 1 } : World) = W11 at hMd12 hS ⊢
              replace hM := hMd12
              refine RunAny.y 0 (by kernel_rfl) (yl_pure (d := some 31) (v := .int .u32 a0) (k2 := [.inRegion (opsOf (pl Go.Proofs.Try.f7 [1, 1, 1, 1, 0, 1, 0, 0, 1, 0, 0, 0])) []]) fun w => by kernel_rfl) (fun _ _ => trivial) hS ?_
              refine RunAny.y 1 (by kernel_rfl) (yl_pure (d := some 32) (v := .slice (some ⟨g7, 0, none⟩) 10 10) (k2 := [.inRegion (opsOf (pl Go.Proofs.Try.f7 [1, 1, 1, 1, 0, 1, 0, 0, 1, 0, 0, 0])) []]) fun w => by kernel_rfl) (fun _ _ => trivial) hS ?_
              refine RunAny.y 2 (by kernel_rfl) (yl_pure (d := some 33) (v := .int .i64 x12_0) (k2 := [.inRegion (opsOf (pl Go.Proofs.Try.f7 [1, 1, 1, 1, 0, 1, 0, 0, 1, 0, 0, 0])) []]) fun w => by kernel_rfl) (fun _ _ => trivial) hS ?_
              rcases two (decide (0 ≤ x12_0)) with c14 | c14
              · replace h := of_true h c14
                rcases two (decide (x12_0 < (10 : Int))) with c15 | c15
                · replace h := of_true h c15
                  obtain ⟨q13, hAq13, hcq13, hfq13, hlq13⟩ := hM.num_at 0 rfl (i := x12_0) (of_decide_eq_true c14) (by have h_ := of_decide_eq_true c15; omega)
                  refine RunAny.y 3 (by kernel_rfl) (idx_own (d := some 34) (A := (some ⟨g7, 0, none⟩)) (m := 10) (i := x12_0) (k2 := [.inRegion (opsOf (pl Go.Proofs.Try.f7 [1, 1, 1, 1, 0, 1, 0, 0, 1, 0, 0, 0])) []]) (by kernel_rfl) (of_decide_eq_true c14) (by have h_ := of_decide_eq_true c15; omega) hAq13) (fun _ _ => trivial) hS ?_
                  refine RunAny.y 4 (by kernel_rfl) (ld_y (d := some 35) (p := ⟨q13, (x12_0 : Int).toNat, none⟩) (k2 := [.inRegion (opsOf (pl Go.Proofs.Try.f7 [1, 1, 1, 1, 0, 1, 0, 0, 1, 0, 0, 0])) []]) (.int .i64 (rd ([a3, I64 (t5 - 150), Int.tmod a4 64, 0, 1, 8, 25, 31, 32, (-1)] : List Int) x12_0)) (by kernel_rfl)) (fun _ hs => hs.cell hcq13 (by simp)) hS ?_
                  refine RunAny.y 6 (by kernel_rfl) (yl_pure (d := some 37) (v := .int .u32 a0) (k2 := [.inRegion (opsOf (pl Go.Proofs.Try.f7 [1, 1, 1, 1, 0, 1, 0, 0, 1, 0, 0, 0])) []]) fun w => by kernel_rfl) (fun _ _ => trivial) hS ?_
                  refine RunAny.y 7 (by kernel_rfl) (yl_pure (d := some 38) (v := .slice (some ⟨g7, 0, none⟩) 10 10) (k2 := [.inRegion (opsOf (pl Go.Proofs.Try.f7 [1, 1, 1, 1, 0, 1, 0, 0, 1, 0, 0, 0])) []]) fun w => by kernel_rfl) (fun _ _ => trivial) hS ?_
                  refine RunAny.y 8 (by kernel_rfl) (yl_pure (d := some 39) (v := .int .i64 x12_0) (k2 := [.inRegion (opsOf (pl Go.Proofs.Try.f7 [1, 1, 1, 1, 0, 1, 0, 0, 1, 0, 0, 0])) []]) fun w => by kernel_rfl) (fun _ _ => trivial) hS ?_
                  rcases two (decide (0 ≤ x12_0)) with c17 | c17
                  · replace h := of_true h c17
                    rcases two (decide (x12_0 < (10 : Int))) with c18 | c18
                    · replace h := of_true h c18
                      obtain ⟨q16, hAq16, hcq16, hfq16, hlq16⟩ := hM.num_at 0 rfl (i := x12_0) (of_decide_eq_true c17) (by have h_ := of_decide_eq_true c18; omega)
                      refine RunAny.y 9 (by kernel_rfl) (idx_own (d := some 40) (A := (some ⟨g7, 0, none⟩)) (m := 10) (i := x12_0) (k2 := [.inRegion (opsOf (pl Go.Proofs.Try.f7 [1, 1, 1, 1, 0, 1, 0, 0, 1, 0, 0, 0])) []]) (by kernel_rfl) (of_decide_eq_true c17) (by have h_ := of_decide_eq_true c18; omega) hAq16) (fun _ _ => trivial) hS ?_
                      refine RunAny.y 10 (by kernel_rfl) (ld_y (d := some 41) (p := ⟨q16, (x12_0 : Int).toNat, none⟩) (k2 := [.inRegion (opsOf (pl Go.Proofs.Try.f7 [1, 1, 1, 1, 0, 1, 0, 0, 1, 0, 0, 0])) []]) (.int .i64 (rd ([a3, I64 (t5 - 150), Int.tmod a4 64, 0, 1, 8, 25, 31, 32, (-1)] : List Int) x12_0)) (by kernel_rfl)) (fun _ hs => hs.cell hcq16 (by simp)) hS ?_
                      obtain ⟨t19, ht19, h⟩ := Option.bind_eq_some_iff.mp h
                      refine RunAny.call 5 (d := some 36) (g := 26) (args := #[.int .u32 a0, .int .i64 (rd ([a3, I64 (t5 - 150), Int.tmod a4 64, 0, 1, 8, 25, 31, 32, (-1)] : List Int) x12_0)]) (by kernel_rfl) (by kernel_rfl) (words_Rol32.calls k a0 (rd ([a3, I64 (t5 - 150), Int.tmod a4 64, 0, 1, 8, 25, 31, 32, (-1)] : List Int) x12_0) t19 _ ht19) (by rintro _ _ ⟨rfl, hM_⟩; exact hS.below hM_.below) ?_
                      rintro _ W20 ⟨rfl, hM_⟩
                      replace hS := hS.below hM_.below
                      replace hM := hM.call hM_
                      clear hM_ ht19
                      refine RunAny.rebase hS ?_
                      replace hS := Still.refl W20 []
                      obtain ⟨t21, ht21, h⟩ := Option.bind_eq_some_iff.mp h
                      refine RunAny.call 11 (d := some 42) (g := 27) (args := #[.int .u32 a0, .int .i64 (rd ([a3, I64 (t5 - 150), Int.tmod a4 64, 0, 1, 8, 25, 31, 32, (-1)] : List Int) x12_0)]) (by kernel_rfl) (by kernel_rfl) (scrimref1_Rol32.calls k a0 (rd ([a3, I64 (t5 - 150), Int.tmod a4 64, 0, 1, 8, 25, 31, 32, (-1)] : List Int) x12_0) t21 _ ht21) (by rintro _ _ ⟨rfl, hM_⟩; exact hS.below hM_.below) ?_
                      rintro _ W22 ⟨rfl, hM_⟩
                      replace hS := hS.below hM_.below
                      replace hM := hM.call hM_
                      clear hM_ ht21
                      refine RunAny.rebase hS ?_
                      replace hS := Still.refl W22 []
                      refine RunAny.y 12 (by kernel_rfl) (yl_pure (d := some 43) (v := .bool (t19 != t21)) (k2 := [.inRegion (opsOf (pl Go.Proofs.Try.f7 [1, 1, 1, 1, 0, 1, 0, 0, 1, 0, 0, 0])) []]) fun w => by kernel_rfl) (fun _ _ => trivial) hS ?_
                      refine RunAny.y 13 (by kernel_rfl) (yl_pure (d := some 44) (v := .bool (t19 != t21)) (k2 := [.inRegion (opsOf (pl Go.Proofs.Try.f7 [1, 1, 1, 1, 0, 1, 0, 0, 1, 0, 0, 0])) []]) fun w => by kernel_rfl) (fun _ _ => trivial) hS ?_
                      rcases two ((t19 != t21)) with c23 | c23
                      · replace h := of_true h c23
                        refine RunAny.know 44 (b := true) (by kernel_rfl) c23 ?_
                        refine RunAny.off 14 (d := some 45) (by kernel_rfl) (by kernel_rfl) hS ?_
                        refine RunAny.off 15 (d := some 46) (by kernel_rfl) (by kernel_rfl) hS ?_
                        refine RunAny.off 16 (d := some 47) (by kernel_rfl) (by kernel_rfl) hS ?_
                        refine RunAny.off 17 (d := some 48) (by kernel_rfl) (by kernel_rfl) hS ?_
                        refine RunAny.off 18 (d := some 49) (by kernel_rfl) (by kernel_rfl) hS ?_
                        refine RunAny.off 19 (d := some 50) (by kernel_rfl) (by kernel_rfl) hS ?_
                        refine RunAny.off 20 (d := some 51) (by kernel_rfl) (by kernel_rfl) hS ?_
                        refine RunAny.off 21 (d := some 52) (by kernel_rfl) (by kernel_rfl) hS ?_
                        refine RunAny.off 22 (d := some 53) (by kernel_rfl) (by kernel_rfl) hS ?_
                        refine RunAny.off 23 (d := some 54) (by kernel_rfl) (by kernel_rfl) hS ?_
                        refine RunAny.off 24 (d := some 55) (by kernel_rfl) (by kernel_rfl) hS ?_
                        refine RunAny.off 25 (d := some 56) (by kernel_rfl) (by kernel_rfl) hS ?_
                        refine RunAny.off 26 (d := some 57) (by kernel_rfl) (by kernel_rfl) hS ?_
                        refine RunAny.y 27 (by kernel_rfl) (yl_pure (d := some 58) (v := .bool true) (k2 := [.inRegion (opsOf (pl Go.Proofs.Try.f7 [1, 1, 1, 1, 0, 1, 0, 0, 1, 0, 0, 0])) []]) fun w => by kernel_rfl) (fun _ _ => trivial) hS ?_
                        refine RunAny.y 28 (by kernel_rfl) (yl_pure (d := some 59) (v := .bool true) (k2 := [.inRegion (opsOf (pl Go.Proofs.Try.f7 [1, 1, 1, 1, 0, 1, 0, 0, 1, 0, 0, 0])) []]) fun w => by kernel_rfl) (fun _ _ => trivial) hS ?_
                        refine RunAny.off 29 (d := some 60) (by kernel_rfl) (by kernel_rfl) hS ?_
                        refine RunAny.off 30 (d := some 61) (by kernel_rfl) (by kernel_rfl) hS ?_
                        refine RunAny.off 31 (d := some 62) (by kernel_rfl) (by kernel_rfl) hS ?_
                        refine RunAny.off 32 (d := some 63) (by kernel_rfl) (by kernel_rfl) hS ?_
                        refine RunAny.off 33 (d := some 64) (by kernel_rfl) (by kernel_rfl) hS ?_
                        refine RunAny.off 34 (d := some 65) (by kernel_rfl) (by kernel_rfl) hS ?_
                        refine RunAny.off 35 (d := some 66) (by kernel_rfl) (by kernel_rfl) hS ?_
                        refine RunAny.off 36 (d := some 67) (by kernel_rfl) (by kernel_rfl) hS ?_
                        refine RunAny.off 37 (d := some 68) (by kernel_rfl) (by kernel_rfl) hS ?_
                        refine RunAny.off 38 (d := some 69) (by kernel_rfl) (by kernel_rfl) hS ?_
                        refine RunAny.off 39 (d := some 70) (by kernel_rfl) (by kernel_rfl) hS ?_
                        refine RunAny.off 40 (d := some 71) (by kernel_rfl) (by kernel_rfl) hS ?_
                        refine RunAny.off 41 (d := some 72) (by kernel_rfl) (by kernel_rfl) hS ?_
                        refine RunAny.off 42 (d := some 73) (by kernel_rfl) (by kernel_rfl) hS ?_
                        refine RunAny.off 43 (d := some 74) (by kernel_rfl) (by kernel_rfl) hS ?_
                        refine RunAny.y 44 (by kernel_rfl) (yl_pure (d := some 75) (v := .bool true) (k2 := [.inRegion (opsOf (pl Go.Proofs.Try.f7 [1, 1, 1, 1, 0, 1, 0, 0, 1, 0, 0, 0])) []]) fun w => by kernel_rfl) (fun _ _ => trivial) hS ?_
                        refine RunAny.done (by kernel_rfl) ?_
                        clear hS
                        refine RunF.go 5 [10] (k' := (pl Go.Proofs.Try.f7 [1, 1, 1, 1, 0, 1, 0, 0, 1, 0, 0, 1, 0, 1])) (L' := [(10, .bool false)]) (w' := W22) (by kernel_rfl) ?_
                        obtain rfl := Option.some.inj h
                        exact RunF.ret1 10 (.bool false) (fn := Go.Proofs.Try.f7) Go.Proofs.Try.func7 (by kernel_rfl) (by kernel_rfl) (by kernel_rfl) ⟨_, rfl, rfl, (hM.pick [] rfl rfl)⟩
                      · replace h := of_false h c23
                        refine RunAny.know 44 (b := false) (by kernel_rfl) c23 ?_
                        refine RunAny.y 14 (by kernel_rfl) (yl_pure (d := some 45) (v := .int .u8 a1) (k2 := [.inRegion (opsOf (pl Go.Proofs.Try.f7 [1, 1, 1, 1, 0, 1, 0, 0, 1, 0, 0, 0])) []]) fun w => by kernel_rfl) (fun _ _ => trivial) hS ?_
                        refine RunAny.y 15 (by kernel_rfl) (yl_pure (d := some 46) (v := .slice (some ⟨g7, 0, none⟩) 10 10) (k2 := [.inRegion (opsOf (pl Go.Proofs.Try.f7 [1, 1, 1, 1, 0, 1, 0, 0, 1, 0, 0, 0])) []]) fun w => by kernel_rfl) (fun _ _ => trivial) hS ?_
                        refine RunAny.y 16 (by kernel_rfl) (yl_pure (d := some 47) (v := .int .i64 x12_0) (k2 := [.inRegion (opsOf (pl Go.Proofs.Try.f7 [1, 1, 1, 1, 0, 1, 0, 0, 1, 0, 0, 0])) []]) fun w => by kernel_rfl) (fun _ _ => trivial) hS ?_
                        rcases two (decide (0 ≤ x12_0)) with c25 | c25
                        · replace h := of_true h c25
                          rcases two (decide (x12_0 < (10 : Int))) with c26 | c26
                          · replace h := of_true h c26
                            obtain ⟨q24, hAq24, hcq24, hfq24, hlq24⟩ := hM.num_at 0 rfl (i := x12_0) (of_decide_eq_true c25) (by have h_ := of_decide_eq_true c26; omega)
                            refine RunAny.y 17 (by kernel_rfl) (idx_own (d := some 48) (A := (some ⟨g7, 0, none⟩)) (m := 10) (i := x12_0) (k2 := [.inRegion (opsOf (pl Go.Proofs.Try.f7 [1, 1, 1, 1, 0, 1, 0, 0, 1, 0, 0, 0])) []]) (by kernel_rfl) (of_decide_eq_true c25) (by have h_ := of_decide_eq_true c26; omega) hAq24) (fun _ _ => trivial) hS ?_
                            refine RunAny.y 18 (by kernel_rfl) (ld_y (d := some 49) (p := ⟨q24, (x12_0 : Int).toNat, none⟩) (k2 := [.inRegion (opsOf (pl Go.Proofs.Try.f7 [1, 1, 1, 1, 0, 1, 0, 0, 1, 0, 0, 0])) []]) (.int .i64 (rd ([a3, I64 (t5 - 150), Int.tmod a4 64, 0, 1, 8, 25, 31, 32, (-1)] : List Int) x12_0)) (by kernel_rfl)) (fun _ hs => hs.cell hcq24 (by simp)) hS ?_
                            refine RunAny.y 20 (by kernel_rfl) (yl_pure (d := some 51) (v := .int .u8 a1) (k2 := [.inRegion (opsOf (pl Go.Proofs.Try.f7 [1, 1, 1, 1, 0, 1, 0, 0, 1, 0, 0, 0])) []]) fun w => by kernel_rfl) (fun _ _ => trivial) hS ?_
                            refine RunAny.y 21 (by kernel_rfl) (yl_pure (d := some 52) (v := .slice (some ⟨g7, 0, none⟩) 10 10) (k2 := [.inRegion (opsOf (pl Go.Proofs.Try.f7 [1, 1, 1, 1, 0, 1, 0, 0, 1, 0, 0, 0])) []]) fun w => by kernel_rfl) (fun _ _ => trivial) hS ?_
                            refine RunAny.y 22 (by kernel_rfl) (yl_pure (d := some 53) (v := .int .i64 x12_0) (k2 := [.inRegion (opsOf (pl Go.Proofs.Try.f7 [1, 1, 1, 1, 0, 1, 0, 0, 1, 0, 0, 0])) []]) fun w => by kernel_rfl) (fun _ _ => trivial) hS ?_
                            rcases two (decide (0 ≤ x12_0)) with c28 | c28
                            · replace h := of_true h c28
                              rcases two (decide (x12_0 < (10 : Int))) with c29 | c29
                              · replace h := of_true h c29
                                obtain ⟨q27, hAq27, hcq27, hfq27, hlq27⟩ := hM.num_at 0 rfl (i := x12_0) (of_decide_eq_true c28) (by have h_ := of_decide_eq_true c29; omega)
                                refine RunAny.y 23 (by kernel_rfl) (idx_own (d := some 54) (A := (some ⟨g7, 0, none⟩)) (m := 10) (i := x12_0) (k2 := [.inRegion (opsOf (pl Go.Proofs.Try.f7 [1, 1, 1, 1, 0, 1, 0, 0, 1, 0, 0, 0])) []]) (by kernel_rfl) (of_decide_eq_true c28) (by have h_ := of_decide_eq_true c29; omega) hAq27) (fun _ _ => trivial) hS ?_
                                refine RunAny.y 24 (by kernel_rfl) (ld_y (d := some 55) (p := ⟨q27, (x12_0 : Int).toNat, none⟩) (k2 := [.inRegion (opsOf (pl Go.Proofs.Try.f7 [1, 1, 1, 1, 0, 1, 0, 0, 1, 0, 0, 0])) []]) (.int .i64 (rd ([a3, I64 (t5 - 150), Int.tmod a4 64, 0, 1, 8, 25, 31, 32, (-1)] : List Int) x12_0)) (by kernel_rfl)) (fun _ hs => hs.cell hcq27 (by simp)) hS ?_
                                obtain ⟨t30, ht30, h⟩ := Option.bind_eq_some_iff.mp h
                                refine RunAny.call 19 (d := some 50) (g := 28) (args := #[.int .u8 a1, .int .i64 (rd ([a3, I64 (t5 - 150), Int.tmod a4 64, 0, 1, 8, 25, 31, 32, (-1)] : List Int) x12_0)]) (by kernel_rfl) (by kernel_rfl) (words_Rol8.calls k a1 (rd ([a3, I64 (t5 - 150), Int.tmod a4 64, 0, 1, 8, 25, 31, 32, (-1)] : List Int) x12_0) t30 _ ht30) (by rintro _ _ ⟨rfl, hM_⟩; exact hS.below hM_.below) ?_
                                rintro _ W31 ⟨rfl, hM_⟩
                                replace hS := hS.below hM_.below
                                replace hM := hM.call hM_
                                clear hM_ ht30
                                refine RunAny.rebase hS ?_
                                replace hS := Still.refl W31 []
                                obtain ⟨t32, ht32, h⟩ := Option.bind_eq_some_iff.mp h
                                refine RunAny.call 25 (d := some 56) (g := 29) (args := #[.int .u8 a1, .int .i64 (rd ([a3, I64 (t5 - 150), Int.tmod a4 64, 0, 1, 8, 25, 31, 32, (-1)] : List Int) x12_0)]) (by kernel_rfl) (by kernel_rfl) (scrimref1_Rol8.calls k a1 (rd ([a3, I64 (t5 - 150), Int.tmod a4 64, 0, 1, 8, 25, 31, 32, (-1)] : List Int) x12_0) t32 _ ht32) (by rintro _ _ ⟨rfl, hM_⟩; exact hS.below hM_.below) ?_
                                rintro _ W33 ⟨rfl, hM_⟩
                                replace hS := hS.below hM_.below
                                replace hM := hM.call hM_
                                clear hM_ ht32
                                refine RunAny.rebase hS ?_
                                replace hS := Still.refl W33 []
                                refine RunAny.y 26 (by kernel_rfl) (yl_pure (d := some 57) (v := .bool (t30 != t32)) (k2 := [.inRegion (opsOf (pl Go.Proofs.Try.f7 [1, 1, 1, 1, 0, 1, 0, 0, 1, 0, 0, 0])) []]) fun w => by kernel_rfl) (fun _ _ => trivial) hS ?_
                                refine RunAny.y 27 (by kernel_rfl) (yl_pure (d := some 58) (v := .bool (t30 != t32)) (k2 := [.inRegion (opsOf (pl Go.Proofs.Try.f7 [1, 1, 1, 1, 0, 1, 0, 0, 1, 0, 0, 0])) []]) fun w => by kernel_rfl) (fun _ _ => trivial) hS ?_
                                refine RunAny.y 28 (by kernel_rfl) (yl_pure (d := some 59) (v := .bool (t30 != t32)) (k2 := [.inRegion (opsOf (pl Go.Proofs.Try.f7 [1, 1, 1, 1, 0, 1, 0, 0, 1, 0, 0, 0])) []]) fun w => by kernel_rfl) (fun _ _ => trivial) hS ?_
                                rcases two ((t30 != t32)) with c34 | c34
                                · replace h := of_true h c34
                                  refine RunAny.know 59 (b := true) (by kernel_rfl) c34 ?_
                                  refine RunAny.off 29 (d := some 60) (by kernel_rfl) (by kernel_rfl) hS ?_
                                  refine RunAny.off 30 (d := some 61) (by kernel_rfl) (by kernel_rfl) hS ?_
                                  refine RunAny.off 31 (d := some 62) (by kernel_rfl) (by kernel_rfl) hS ?_
                                  refine RunAny.off 32 (d := some 63) (by kernel_rfl) (by kernel_rfl) hS ?_
                                  refine RunAny.off 33 (d := some 64) (by kernel_rfl) (by kernel_rfl) hS ?_
                                  refine RunAny.off 34 (d := some 65) (by kernel_rfl) (by kernel_rfl) hS ?_
                                  refine RunAny.off 35 (d := some 66) (by kernel_rfl) (by kernel_rfl) hS ?_
                                  refine RunAny.off 36 (d := some 67) (by kernel_rfl) (by kernel_rfl) hS ?_
                                  refine RunAny.off 37 (d := some 68) (by kernel_rfl) (by kernel_rfl) hS ?_
                                  refine RunAny.off 38 (d := some 69) (by kernel_rfl) (by kernel_rfl) hS ?_
                                  refine RunAny.off 39 (d := some 70) (by kernel_rfl) (by kernel_rfl) hS ?_
                                  refine RunAny.off 40 (d := some 71) (by kernel_rfl) (by kernel_rfl) hS ?_
                                  refine RunAny.off 41 (d := some 72) (by kernel_rfl) (by kernel_rfl) hS ?_
                                  refine RunAny.off 42 (d := some 73) (by kernel_rfl) (by kernel_rfl) hS ?_
                                  refine RunAny.off 43 (d := some 74) (by kernel_rfl) (by kernel_rfl) hS ?_
                                  refine RunAny.y 44 (by kernel_rfl) (yl_pure (d := some 75) (v := .bool true) (k2 := [.inRegion (opsOf (pl Go.Proofs.Try.f7 [1, 1, 1, 1, 0, 1, 0, 0, 1, 0, 0, 0])) []]) fun w => by kernel_rfl) (fun _ _ => trivial) hS ?_
                                  refine RunAny.done (by kernel_rfl) ?_
                                  clear hS
                                  refine RunF.go 5 [10] (k' := (pl Go.Proofs.Try.f7 [1, 1, 1, 1, 0, 1, 0, 0, 1, 0, 0, 1, 0, 1])) (L' := [(10, .bool false)]) (w' := W33) (by kernel_rfl) ?_
                                  obtain rfl := Option.some.inj h
                                  exact RunF.ret1 10 (.bool false) (fn := Go.Proofs.Try.f7) Go.Proofs.Try.func7 (by kernel_rfl) (by kernel_rfl) (by kernel_rfl) ⟨_, rfl, rfl, (hM.pick [] rfl rfl)⟩
                                · replace h := of_false h c34
                                  refine RunAny.know 59 (b := false) (by kernel_rfl) c34 ?_
                                  refine RunAny.y 29 (by kernel_rfl) (yl_pure (d := some 60) (v := .slice Ap2 a2.length cp2) (k2 := [.inRegion (opsOf (pl Go.Proofs.Try.f7 [1, 1, 1, 1, 0, 1, 0, 0, 1, 0, 0, 0])) []]) fun w => by kernel_rfl) (fun _ _ => trivial) hS ?_
                                  refine RunAny.y 30 (by kernel_rfl) (yl_pure (d := some 61) (v := .slice (some ⟨g7, 0, none⟩) 10 10) (k2 := [.inRegion (opsOf (pl Go.Proofs.Try.f7 [1, 1, 1, 1, 0, 1, 0, 0, 1, 0, 0, 0])) []]) fun w => by kernel_rfl) (fun _ _ => trivial) hS ?_
                                  refine RunAny.y 31 (by kernel_rfl) (yl_pure (d := some 62) (v := .int .i64 x12_0) (k2 := [.inRegion (opsOf (pl Go.Proofs.Try.f7 [1, 1, 1, 1, 0, 1, 0, 0, 1, 0, 0, 0])) []]) fun w => by kernel_rfl) (fun _ _ => trivial) hS ?_
                                  rcases two (decide (0 ≤ x12_0)) with c36 | c36
                                  · replace h := of_true h c36
                                    rcases two (decide (x12_0 < (10 : Int))) with c37 | c37
                                    · replace h := of_true h c37
                                      obtain ⟨q35, hAq35, hcq35, hfq35, hlq35⟩ := hM.num_at 0 rfl (i := x12_0) (of_decide_eq_true c36) (by have h_ := of_decide_eq_true c37; omega)
                                      refine RunAny.y 32 (by kernel_rfl) (idx_own (d := some 63) (A := (some ⟨g7, 0, none⟩)) (m := 10) (i := x12_0) (k2 := [.inRegion (opsOf (pl Go.Proofs.Try.f7 [1, 1, 1, 1, 0, 1, 0, 0, 1, 0, 0, 0])) []]) (by kernel_rfl) (of_decide_eq_true c36) (by have h_ := of_decide_eq_true c37; omega) hAq35) (fun _ _ => trivial) hS ?_
                                      refine RunAny.y 33 (by kernel_rfl) (ld_y (d := some 64) (p := ⟨q35, (x12_0 : Int).toNat, none⟩) (k2 := [.inRegion (opsOf (pl Go.Proofs.Try.f7 [1, 1, 1, 1, 0, 1, 0, 0, 1, 0, 0, 0])) []]) (.int .i64 (rd ([a3, I64 (t5 - 150), Int.tmod a4 64, 0, 1, 8, 25, 31, 32, (-1)] : List Int) x12_0)) (by kernel_rfl)) (fun _ hs => hs.cell hcq35 (by simp)) hS ?_
                                      refine RunAny.y 36 (by kernel_rfl) (yl_pure (d := some 67) (v := .slice Ap2 a2.length cp2) (k2 := [.inRegion (opsOf (pl Go.Proofs.Try.f7 [1, 1, 1, 1, 0, 1, 0, 0, 1, 0, 0, 0])) []]) fun w => by kernel_rfl) (fun _ _ => trivial) hS ?_
                                      refine RunAny.y 37 (by kernel_rfl) (yl_pure (d := some 68) (v := .slice (some ⟨g7, 0, none⟩) 10 10) (k2 := [.inRegion (opsOf (pl Go.Proofs.Try.f7 [1, 1, 1, 1, 0, 1, 0, 0, 1, 0, 0, 0])) []]) fun w => by kernel_rfl) (fun _ _ => trivial) hS ?_
                                      refine RunAny.y 38 (by kernel_rfl) (yl_pure (d := some 69) (v := .int .i64 x12_0) (k2 := [.inRegion (opsOf (pl Go.Proofs.Try.f7 [1, 1, 1, 1, 0, 1, 0, 0, 1, 0, 0, 0])) []]) fun w => by kernel_rfl) (fun _ _ => trivial) hS ?_
                                      rcases two (decide (0 ≤ x12_0)) with c39 | c39
                                      · replace h := of_true h c39
                                        rcases two (decide (x12_0 < (10 : Int))) with c40 | c40
                                        · replace h := of_true h c40
                                          obtain ⟨q38, hAq38, hcq38, hfq38, hlq38⟩ := hM.num_at 0 rfl (i := x12_0) (of_decide_eq_true c39) (by have h_ := of_decide_eq_true c40; omega)
                                          refine RunAny.y 39 (by kernel_rfl) (idx_own (d := some 70) (A := (some ⟨g7, 0, none⟩)) (m := 10) (i := x12_0) (k2 := [.inRegion (opsOf (pl Go.Proofs.Try.f7 [1, 1, 1, 1, 0, 1, 0, 0, 1, 0, 0, 0])) []]) (by kernel_rfl) (of_decide_eq_true c39) (by have h_ := of_decide_eq_true c40; omega) hAq38) (fun _ _ => trivial) hS ?_
                                          refine RunAny.y 40 (by kernel_rfl) (ld_y (d := some 71) (p := ⟨q38, (x12_0 : Int).toNat, none⟩) (k2 := [.inRegion (opsOf (pl Go.Proofs.Try.f7 [1, 1, 1, 1, 0, 1, 0, 0, 1, 0, 0, 0])) []]) (.int .i64 (rd ([a3, I64 (t5 - 150), Int.tmod a4 64, 0, 1, 8, 25, 31, 32, (-1)] : List Int) x12_0)) (by kernel_rfl)) (fun _ hs => hs.cell hcq38 (by simp)) hS ?_
                                          obtain ⟨t41, ht41, h⟩ := Option.bind_eq_some_iff.mp h
                                          refine RunAny.call 34 (d := some 65) (g := 30) (args := #[.slice Ap2 a2.length cp2, .int .i64 (rd ([a3, I64 (t5 - 150), Int.tmod a4 64, 0, 1, 8, 25, 31, 32, (-1)] : List Int) x12_0)]) (by kernel_rfl) (by kernel_rfl) (words_Turn.calls k Ap2 a2.length cp2 a2 (rd ([a3, I64 (t5 - 150), Int.tmod a4 64, 0, 1, 8, 25, 31, 32, (-1)] : List Int) x12_0) t41 _ (hr2.mono hM.below) ht41) (by rintro _ _ ⟨_, _, _, rfl, hM_⟩; exact hS.below hM_.below) ?_
                                          rintro _ W42 ⟨A43, n44, c45, rfl, hM_⟩
                                          obtain rfl : t41.length = n44 := by have h_ := (hM_.rd 0 rfl).1; simpa [nums_length, bools_length] using h_
                                          replace hS := hS.below hM_.below
                                          replace hM := hM.call hM_
                                          clear hM_ ht41
                                          refine RunAny.rebase hS ?_
                                          replace hS := Still.refl W42 []
                                          refine RunAny.y 35 (by kernel_rfl) (str_y (d := some 66) (A := A43) (m := t41.length) (c := c45) (k2 := [.inRegion (opsOf (pl Go.Proofs.Try.f7 [1, 1, 1, 1, 0, 1, 0, 0, 1, 0, 0, 0])) []]) t41 (by kernel_rfl)) (fun _ hs => ((hM.rd 0 rfl).still hs (by simp))) hS ?_
                                          obtain ⟨t47, ht47, h⟩ := Option.bind_eq_some_iff.mp h
                                          refine RunAny.call 41 (d := some 72) (g := 31) (args := #[.slice Ap2 a2.length cp2, .int .i64 (rd ([a3, I64 (t5 - 150), Int.tmod a4 64, 0, 1, 8, 25, 31, 32, (-1)] : List Int) x12_0)]) (by kernel_rfl) (by kernel_rfl) (scrimref1_Turn.calls k Ap2 a2.length cp2 a2 (rd ([a3, I64 (t5 - 150), Int.tmod a4 64, 0, 1, 8, 25, 31, 32, (-1)] : List Int) x12_0) t47 _ (hr2.mono hM.below) ht47) (by rintro _ _ ⟨_, _, _, rfl, hM_⟩; exact hS.below hM_.below) ?_
                                          rintro _ W48 ⟨A49, n50, c51, rfl, hM_⟩
                                          obtain rfl : t47.length = n50 := by have h_ := (hM_.rd 0 rfl).1; simpa [nums_length, bools_length] using h_
                                          replace hS := hS.below hM_.below
                                          replace hM := hM.call hM_
                                          clear hM_ ht47
                                          refine RunAny.rebase hS ?_
                                          replace hS := Still.refl W48 []
                                          refine RunAny.y 42 (by kernel_rfl) (str_y (d := some 73) (A := A49) (m := t47.length) (c := c51) (k2 := [.inRegion (opsOf (pl Go.Proofs.Try.f7 [1, 1, 1, 1, 0, 1, 0, 0, 1, 0, 0, 0])) []]) t47 (by kernel_rfl)) (fun _ hs => ((hM.rd 0 rfl).still hs (by simp))) hS ?_
                                          refine RunAny.y 43 (by kernel_rfl) (yl_pure (d := some 74) (v := .bool (!((strOf t41).toList == (strOf t47).toList))) (k2 := [.inRegion (opsOf (pl Go.Proofs.Try.f7 [1, 1, 1, 1, 0, 1, 0, 0, 1, 0, 0, 0])) []]) fun w => by kernel_rfl) (fun _ _ => trivial) hS ?_
                                          refine RunAny.y 44 (by kernel_rfl) (yl_pure (d := some 75) (v := .bool (!((strOf t41).toList == (strOf t47).toList))) (k2 := [.inRegion (opsOf (pl Go.Proofs.Try.f7 [1, 1, 1, 1, 0, 1, 0, 0, 1, 0, 0, 0])) []]) fun w => by kernel_rfl) (fun _ _ => trivial) hS ?_
                                          refine RunAny.done (by kernel_rfl) ?_
                                          clear hS
                                          obtain ⟨y53, hy, h⟩ := Option.bind_eq_some_iff.mp h
                                          rw [show (rd ([a3, I64 (t5 - 150), Int.tmod a4 64, 0, 1, 8, 25, 31, 32, (-1)] : List Int) x12_0) = y53 from Option.some.inj hy]
                                          clear hy
                                          rcases two (!((strOf t41).toList == (strOf t47).toList)) with c54 | c54
                                          · replace h := of_true h c54
                                            refine RunF.know 75 (b := true) (by kernel_rfl) c54 ?_
                                            refine RunF.go 5 [10] (k' := (pl Go.Proofs.Try.f7 [1, 1, 1, 1, 0, 1, 0, 0, 1, 0, 0, 1, 0, 1])) (L' := [(10, .bool false)]) (w' := W48) (by kernel_rfl) ?_
                                            obtain rfl := Option.some.inj h
                                            exact RunF.ret1 10 (.bool false) (fn := Go.Proofs.Try.f7) Go.Proofs.Try.func7 (by kernel_rfl) (by kernel_rfl) (by kernel_rfl) ⟨_, rfl, rfl, (hM.pick [] rfl rfl)⟩
                                          · replace h := of_false h c54
                                            refine RunF.know 75 (b := false) (by kernel_rfl) c54 ?_
                                            refine RunF.go 9 [0, 1, 2, 11, 12] (k' := (pl Go.Proofs.Try.f7 [1, 1, 1, 1, 0, 1, 0, 0])) (L' := [(0, .int .u32 a0), (1, .int .u8 a1), (2, .slice Ap2 a2.length cp2), (11, .slice (some ⟨g7, 0, none⟩) 10 10), (12, .int .i64 (I64 (x12_0 + 1)))]) (w' := W48) (by kernel_rfl) ?_
                                            exact ih0 k (by omega) (I64 (x12_0 + 1)) _ (hM.pick [2] rfl rfl) h
                                        · replace h := of_false h c40
                                          cases h
                                      · replace h := of_false h c39
                                        cases h
                                    · replace h := of_false h c37
                                      cases h
                                  · replace h := of_false h c36
                                    cases h
                              · replace h := of_false h c29
                                cases h
                            · replace h := of_false h c28
                              cases h
                          · replace h := of_false h c26
                            cases h
                        · replace h := of_false h c25
                          cases h
                    · replace h := of_false h c18
                      cases h
                  · replace h := of_false h c17
                    cases h
                · replace h := of_false h c15
                  cases h
              · replace h := of_false h c14
                cases h
            · replace h := of_false h c10
              refine RunF.know 28 (b := false) (by kernel_rfl) c10 ?_
              refine RunF.go 6 [10] (k' := (pl Go.Proofs.Try.f7 [1, 1, 1, 1, 1, 1])) (L' := [(10, .bool true)]) (w' := W) (by kernel_rfl) ?_
              obtain rfl := Option.some.inj h
              exact RunF.ret1 10 (.bool true) (fn := Go.Proofs.Try.f7) Go.Proofs.Try.func7 (by kernel_rfl) (by kernel_rfl) (by kernel_rfl) ⟨_, rfl, rfl, (hM.pick [] rfl rfl)⟩
      exact l0 k (Nat.le_refl _) 0 _ (hM.pick [0] rfl rfl) h


end Go.Scr.S
