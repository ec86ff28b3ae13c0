/- The functions that the law WordsXor reaches, as plain functions, and that each call answers so. -/
import Derived.Test.YtjhoigcoijinfaaProg
import Derived.Test.YtjhoigcoijinfaaXPure
set_option linter.unusedVariables false
set_option linter.unusedSimpArgs false
set_option linter.unnecessarySimpa false
namespace Go.Scr.S
/-! ### scrim/words.Inc: function 16 -/
def words_Inc.l0 : Nat → (List Int) → (List Int) → Int → Option (List Int)
  | 0, _, _, _ => none
  | k + 1, a0, x3_0, x4_0 => if (decide (x4_0 > 0)) = true then (if (decide (0 ≤ (I64 (x4_0 - 1)))) = true then (if (decide ((I64 (x4_0 - 1)) < (((List.replicate 0 0) ++ a0).length : Int))) = true then (if (decide (0 ≤ (I64 (x4_0 - 1)))) = true then (if (decide ((I64 (x4_0 - 1)) < (((List.replicate 0 0) ++ a0).length : Int))) = true then (if (decide (0 ≤ (I64 (x4_0 - 1)))) = true then (if (decide ((I64 (x4_0 - 1)) < (((List.replicate 0 0) ++ a0).length : Int))) = true then ((some (((rd (x3_0.set (I64 (x4_0 - 1) : Int).toNat (U8 ((rd x3_0 (I64 (x4_0 - 1))) + 1))) (I64 (x4_0 - 1))) == 0) : Bool)).bind fun y23 => (if y23 = true then (words_Inc.l0 k a0 (x3_0.set (I64 (x4_0 - 1) : Int).toNat (U8 ((rd x3_0 (I64 (x4_0 - 1))) + 1))) (I64 (x4_0 - 1))) else (some (x3_0.set (I64 (x4_0 - 1) : Int).toNat (U8 ((rd x3_0 (I64 (x4_0 - 1))) + 1)))))) else (none)) else (none)) else (none)) else (none)) else (none)) else (none)) else (some x3_0)
def words_Inc.f (k : Nat) (a0 : List Int) : Option (List Int) := if (decide (0 ≤ (a0.length : Int))) = true then (if (decide ((a0.length : Int) ≤ 1000000000)) = true then (if (decide ((List.replicate 0 0).length + a0.length ≤ 1000000000)) = true then (words_Inc.l0 k a0 ((List.replicate 0 0) ++ a0) (((List.replicate 0 0) ++ a0).length : Int)) else (none)) else (none)) else (none)
set_option maxRecDepth 100000 in
theorem words_Inc.calls (k : Nat) (Ap0 : Option Addr) (np0 cp0 : Nat) (a0 : List Int) (r : List Int) (w : World) (hr0 : Rd w (.slice Ap0 np0 cp0) (nums .u8 a0)) (h : words_Inc.f k a0 = some r) :
    Calls Go.Proofs.Try.prog 16 #[(.slice Ap0 np0 cp0)] w (Ret fun v w' => ∃ A0' n0' c0', v = .slice A0' n0' c0' ∧ Mem w w' [⟨.slice A0' n0' c0', 5, 1, nums .u8 r⟩]) := by
  obtain rfl : a0.length = np0 := by have h_ := hr0.1; simpa [nums_length, bools_length] using h_
  unfold words_Inc.f at h
  refine calls_of [.slice Ap0 a0.length cp0] (fn := Go.Proofs.Try.f16) Go.Proofs.Try.func16 (by kernel_rfl) (by kernel_rfl) ?_
  have hM := Mem.refl w
  refine RunF.go 9 [0, 6] (k' := (pin Go.Proofs.Try.f16 [1, 0, 0] 2)) (L' := [(0, .slice Ap0 a0.length cp0), (6, .int .i64 (a0.length : Int))]) (w' := w) (by kernel_rfl) ?_
  rcases two (decide (0 ≤ (a0.length : Int))) with c3 | c3
  · replace h := of_true h c3
    rcases two (decide ((a0.length : Int) ≤ 1000000000)) with c4 | c4
    · replace h := of_true h c4
      have := of_decide_eq_true c3
      have := of_decide_eq_true c4
      obtain ⟨W1, hD, hM', hB_⟩ := mk_does (P := Go.Proofs.Try.prog) (n := 28) (k := (pin Go.Proofs.Try.f16 [1, 0, 0] 2)) (L := [(0, .slice Ap0 a0.length cp0), (6, .int .i64 (a0.length : Int))]) (d := some 7) (e := 5) (z := .int .u8 0) (l := 0) (c := (a0.length : Int)) (k2 := (pin Go.Proofs.Try.f16 [1, 0, 0] 3)) (by kernel_rfl) (by omega) (by omega) (by omega) hM
      rw [rep_nums] at hM'
      refine RunF.does hD ?_
      replace hM := hM'; clear hD hM'
      generalize w.heap.size = g2 at hM ⊢
      refine RunF.go 1 [7, 8] (k' := (pin Go.Proofs.Try.f16 [1, 0, 0] 4)) (L' := [(7, .slice (some ⟨g2, 0, none⟩) 0 (((a0.length : Int) : Int).toNat)), (8, .slice Ap0 a0.length cp0)]) (w' := W1) (by kernel_rfl) ?_
      rcases two (decide ((List.replicate 0 0).length + a0.length ≤ 1000000000)) with c10 | c10
      · replace h := of_true h c10
        have h_ := of_decide_eq_true c10
        obtain ⟨A6, n7, c8, W9, hD, hM', hS_⟩ := app_does (P := Go.Proofs.Try.prog) (n := 28) (k := (pin Go.Proofs.Try.f16 [1, 0, 0] 4)) (L := [(7, .slice (some ⟨g2, 0, none⟩) 0 (((a0.length : Int) : Int).toNat)), (8, .slice Ap0 a0.length cp0)]) (d := some 9) (e := 5) (A := (some ⟨g2, 0, none⟩)) (m := 0) (c := ((a0.length : Int) : Int).toNat) (A2 := Ap0) (m2 := a0.length) (c2 := cp0) (cs := nums .u8 (List.replicate 0 0)) (ys := nums .u8 a0) (k2 := (pin Go.Proofs.Try.f16 [1, 0, 0] 5)) [] [] (by kernel_rfl) (hM.pick [0] rfl rfl) (hr0.mono hM.below) (one_nums _ _) (by omega)
        rw [nums_append] at hM'
        replace hM := hM'; clear h_ hM'
        obtain rfl : ((List.replicate 0 0) ++ a0).length = n7 := by have h_ := (hM.rd 0 rfl).1; simpa only [nums_length, bools_length] using h_
        refine RunF.does hD ?_
        clear hD hS_
        refine RunF.go 10 [3, 4] (k' := (pl Go.Proofs.Try.f16 [1, 0, 1, 1, 1])) (L' := [(3, .slice A6 (((List.replicate 0 0) ++ a0).length) c8), (4, .int .i64 (((List.replicate 0 0) ++ a0).length : Int))]) (w' := W9) (by kernel_rfl) ?_
        have l0 : ∀ (k_ : Nat), k_ ≤ k → ∀ (x3_0 : List Int) (x4_0 : Int) (W : World) (hM : Mem w W [⟨.slice A6 (((List.replicate 0 0) ++ a0).length) c8, 5, 1, nums .u8 x3_0⟩]) (h : words_Inc.l0 k_ a0 x3_0 x4_0 = some r), RunF Go.Proofs.Try.prog (Ret fun v w' => ∃ A0' n0' c0', v = .slice A0' n0' c0' ∧ Mem w w' [⟨.slice A0' n0' c0', 5, 1, nums .u8 r⟩]) 16 (pl Go.Proofs.Try.f16 [1, 0, 1, 1, 1]) 28 [(3, .slice A6 (((List.replicate 0 0) ++ a0).length) c8), (4, .int .i64 x4_0)] W := by
          intro k_
          induction k_ using Nat.strongRecOn with
          | _ k_ ih0 =>
            intro hk x3_0 x4_0 W hM h
            cases k_ with
            | zero => exact absurd h (by simp [words_Inc.l0])
            | succ k =>
              simp only [words_Inc.l0] at h
              replace ih0 : ∀ m, m ≤ k → _ := fun m hm => ih0 m (by omega) (by omega)
              refine RunF.go 6 [3, 4, 13] (k' := (pl Go.Proofs.Try.f16 [1, 0, 1, 1, 1, 0, 1])) (L' := [(3, .slice A6 (((List.replicate 0 0) ++ a0).length) c8), (4, .int .i64 x4_0), (13, .bool (decide (x4_0 > 0)))]) (w' := W) (by kernel_rfl) ?_
              rcases two (decide (x4_0 > 0)) with c12 | c12
              · replace h := of_true h c12
                refine RunF.know 13 (b := true) (by kernel_rfl) c12 ?_
                refine RunF.go 11 [3, 4, 16, 17] (k' := (pin Go.Proofs.Try.f16 [1, 0, 1, 1, 1, 0, 1, 0, 1, 0] 2)) (L' := [(3, .slice A6 (((List.replicate 0 0) ++ a0).length) c8), (4, .int .i64 (I64 (x4_0 - 1))), (16, .slice A6 (((List.replicate 0 0) ++ a0).length) c8), (17, .int .i64 (I64 (x4_0 - 1)))]) (w' := W) (by kernel_rfl) ?_
                rcases two (decide (0 ≤ (I64 (x4_0 - 1)))) with c14 | c14
                · replace h := of_true h c14
                  rcases two (decide ((I64 (x4_0 - 1)) < (((List.replicate 0 0) ++ a0).length : Int))) with c15 | c15
                  · replace h := of_true h c15
                    obtain ⟨q13, hAq13, hcq13, hfq13, hlq13⟩ := hM.num_at 0 rfl (i := I64 (x4_0 - 1)) (of_decide_eq_true c14) (by have h_ := of_decide_eq_true c15; omega)
                    refine RunF.y (idx_own (d := some 18) (A := A6) (m := ((List.replicate 0 0) ++ a0).length) (i := I64 (x4_0 - 1)) (k2 := (pin Go.Proofs.Try.f16 [1, 0, 1, 1, 1, 0, 1, 0, 1, 0] 3)) (by kernel_rfl) (of_decide_eq_true c14) (by have h_ := of_decide_eq_true c15; omega) hAq13) trivial ?_
                    refine RunF.y (ld_y (d := some 19) (p := ⟨q13, (I64 (x4_0 - 1) : Int).toNat, none⟩) (k2 := (pin Go.Proofs.Try.f16 [1, 0, 1, 1, 1, 0, 1, 0, 1, 0] 4)) (.int .u8 (rd x3_0 (I64 (x4_0 - 1)))) (by kernel_rfl)) hcq13 ?_
                    refine RunF.go 1 [3, 4, 16, 17, 20] (k' := (pin Go.Proofs.Try.f16 [1, 0, 1, 1, 1, 0, 1, 0, 1, 0] 5)) (L' := [(3, .slice A6 (((List.replicate 0 0) ++ a0).length) c8), (4, .int .i64 (I64 (x4_0 - 1))), (16, .slice A6 (((List.replicate 0 0) ++ a0).length) c8), (17, .int .i64 (I64 (x4_0 - 1))), (20, .int .u8 (U8 ((rd x3_0 (I64 (x4_0 - 1))) + 1)))]) (w' := W) (by kernel_rfl) ?_
                    rcases two (decide (0 ≤ (I64 (x4_0 - 1)))) with c17 | c17
                    · replace h := of_true h c17
                      rcases two (decide ((I64 (x4_0 - 1)) < (((List.replicate 0 0) ++ a0).length : Int))) with c18 | c18
                      · replace h := of_true h c18
                        obtain ⟨q16, hAq16, hcq16, hfq16, hlq16⟩ := hM.num_at 0 rfl (i := I64 (x4_0 - 1)) (of_decide_eq_true c17) (by have h_ := of_decide_eq_true c18; omega)
                        refine RunF.y (idx_own (d := some 21) (A := A6) (m := ((List.replicate 0 0) ++ a0).length) (i := I64 (x4_0 - 1)) (k2 := (pin Go.Proofs.Try.f16 [1, 0, 1, 1, 1, 0, 1, 0, 1, 0] 6)) (by kernel_rfl) (of_decide_eq_true c17) (by have h_ := of_decide_eq_true c18; omega) hAq16) trivial ?_
                        obtain ⟨g_, hA_, hc_, hf_, hl_⟩ := hM.num_at 0 rfl (i := I64 (x4_0 - 1)) (of_decide_eq_true c17) (by have h_ := of_decide_eq_true c18; omega)
                        obtain rfl : q16 = g_ := by rw [hAq16] at hA_; injection hA_ with hA_; injection hA_
                        refine RunF.doesU (st_u (p := (⟨q16, (I64 (x4_0 - 1) : Int).toNat, none⟩ : Addr)) (v := .int .u8 (U8 ((rd x3_0 (I64 (x4_0 - 1))) + 1))) (k2 := (pin Go.Proofs.Try.f16 [1, 0, 1, 1, 1, 0, 1, 0, 1, 0] 7)) (by kernel_rfl) hc_ hf_) ?_
                        replace hM : Mem w (W.setCell (⟨q16, (I64 (x4_0 - 1) : Int).toNat, none⟩ : Addr) (.int .u8 (U8 ((rd x3_0 (I64 (x4_0 - 1))) + 1)))) [⟨.slice A6 (((List.replicate 0 0) ++ a0).length) c8, 5, 1, nums .u8 (x3_0.set (I64 (x4_0 - 1) : Int).toNat (U8 ((rd x3_0 (I64 (x4_0 - 1))) + 1)))⟩] := Mem.put_num [] [] (hM.pick [0] rfl rfl) hAq16 _ hl_ _
                        generalize W.setCell (⟨q16, (I64 (x4_0 - 1) : Int).toNat, none⟩ : Addr) (.int .u8 (U8 ((rd x3_0 (I64 (x4_0 - 1))) + 1))) = W19 at hM ⊢
                        clear hc_ hf_ hl_ hA_ hcq16
                        refine RunF.go 5 [3, 4, 22, 23] (k' := (pin Go.Proofs.Try.f16 [1, 0, 1, 1, 1, 0, 1, 0, 1, 1, 0] 2)) (L' := [(3, .slice A6 (((List.replicate 0 0) ++ a0).length) c8), (4, .int .i64 (I64 (x4_0 - 1))), (22, .slice A6 (((List.replicate 0 0) ++ a0).length) c8), (23, .int .i64 (I64 (x4_0 - 1)))]) (w' := W19) (by kernel_rfl) ?_
                        rcases two (decide (0 ≤ (I64 (x4_0 - 1)))) with c21 | c21
                        · replace h := of_true h c21
                          rcases two (decide ((I64 (x4_0 - 1)) < (((List.replicate 0 0) ++ a0).length : Int))) with c22 | c22
                          · replace h := of_true h c22
                            obtain ⟨q20, hAq20, hcq20, hfq20, hlq20⟩ := hM.num_at 0 rfl (i := I64 (x4_0 - 1)) (of_decide_eq_true c21) (by have h_ := of_decide_eq_true c22; omega)
                            refine RunF.y (idx_own (d := some 24) (A := A6) (m := ((List.replicate 0 0) ++ a0).length) (i := I64 (x4_0 - 1)) (k2 := (pin Go.Proofs.Try.f16 [1, 0, 1, 1, 1, 0, 1, 0, 1, 1, 0] 3)) (by kernel_rfl) (of_decide_eq_true c21) (by have h_ := of_decide_eq_true c22; omega) hAq20) trivial ?_
                            refine RunF.y (ld_y (d := some 25) (p := ⟨q20, (I64 (x4_0 - 1) : Int).toNat, none⟩) (k2 := (pin Go.Proofs.Try.f16 [1, 0, 1, 1, 1, 0, 1, 0, 1, 1, 0] 4)) (.int .u8 (rd (x3_0.set (I64 (x4_0 - 1) : Int).toNat (U8 ((rd x3_0 (I64 (x4_0 - 1))) + 1))) (I64 (x4_0 - 1)))) (by kernel_rfl)) hcq20 ?_
                            refine RunF.go 2 [3, 4, 26] (k' := (pl Go.Proofs.Try.f16 [1, 0, 1, 1, 1, 0, 1, 0, 1, 1, 1])) (L' := [(3, .slice A6 (((List.replicate 0 0) ++ a0).length) c8), (4, .int .i64 (I64 (x4_0 - 1))), (26, .bool ((rd (x3_0.set (I64 (x4_0 - 1) : Int).toNat (U8 ((rd x3_0 (I64 (x4_0 - 1))) + 1))) (I64 (x4_0 - 1))) == 0))]) (w' := W19) (by kernel_rfl) ?_
                            obtain ⟨y23, hy, h⟩ := Option.bind_eq_some_iff.mp h
                            rw [show (((rd (x3_0.set (I64 (x4_0 - 1) : Int).toNat (U8 ((rd x3_0 (I64 (x4_0 - 1))) + 1))) (I64 (x4_0 - 1))) == 0)) = y23 from Option.some.inj hy]
                            clear hy
                            rcases two (y23) with c24 | c24
                            · replace h := of_true h c24
                              refine RunF.know 26 (b := true) (by kernel_rfl) c24 ?_
                              refine RunF.go 4 [3, 4] (k' := (pl Go.Proofs.Try.f16 [1, 0, 1, 1, 1])) (L' := [(3, .slice A6 (((List.replicate 0 0) ++ a0).length) c8), (4, .int .i64 (I64 (x4_0 - 1)))]) (w' := W19) (by kernel_rfl) ?_
                              exact ih0 k (by omega) (x3_0.set (I64 (x4_0 - 1) : Int).toNat (U8 ((rd x3_0 (I64 (x4_0 - 1))) + 1))) (I64 (x4_0 - 1)) _ (hM.pick [0] rfl rfl) h
                            · replace h := of_false h c24
                              refine RunF.know 26 (b := false) (by kernel_rfl) c24 ?_
                              refine RunF.go 7 [2] (k' := (pl Go.Proofs.Try.f16 [1, 0, 1, 1, 1, 1, 1])) (L' := [(2, .slice A6 (((List.replicate 0 0) ++ a0).length) c8)]) (w' := W19) (by kernel_rfl) ?_
                              obtain rfl := Option.some.inj h
                              exact RunF.ret1 2 (.slice A6 (((List.replicate 0 0) ++ a0).length) c8) (fn := Go.Proofs.Try.f16) Go.Proofs.Try.func16 (by kernel_rfl) (by kernel_rfl) (by kernel_rfl) ⟨_, rfl, A6, ((List.replicate 0 0) ++ a0).length, c8, rfl, (hM.pick [0] rfl rfl)⟩
                          · replace h := of_false h c22
                            cases h
                        · replace h := of_false h c21
                          cases h
                      · replace h := of_false h c18
                        cases h
                    · replace h := of_false h c17
                      cases h
                  · replace h := of_false h c15
                    cases h
                · replace h := of_false h c14
                  cases h
              · replace h := of_false h c12
                refine RunF.know 13 (b := false) (by kernel_rfl) c12 ?_
                refine RunF.go 7 [2] (k' := (pl Go.Proofs.Try.f16 [1, 0, 1, 1, 1, 1, 1])) (L' := [(2, .slice A6 (((List.replicate 0 0) ++ a0).length) c8)]) (w' := W) (by kernel_rfl) ?_
                obtain rfl := Option.some.inj h
                exact RunF.ret1 2 (.slice A6 (((List.replicate 0 0) ++ a0).length) c8) (fn := Go.Proofs.Try.f16) Go.Proofs.Try.func16 (by kernel_rfl) (by kernel_rfl) (by kernel_rfl) ⟨_, rfl, A6, ((List.replicate 0 0) ++ a0).length, c8, rfl, (hM.pick [0] rfl rfl)⟩
        exact l0 k (Nat.le_refl _) ((List.replicate 0 0) ++ a0) (((List.replicate 0 0) ++ a0).length : Int) _ (hM.pick [0] rfl rfl) h
      · replace h := of_false h c10
        cases h
    · replace h := of_false h c4
      cases h
  · replace h := of_false h c3
    cases h

/-! ### scrim/words.load: function 38 -/
def words_load.l0 : Nat → (List Int) → Int → Int → Option (Int)
  | 0, _, _, _ => none
  | k + 1, a0, x3_0, x4_0 => if (decide (x4_0 < (a0.length : Int))) = true then (if (decide (0 ≤ x4_0)) = true then (if (decide (x4_0 < (a0.length : Int))) = true then ((some (bor .u64 (shl .u64 x3_0 8) (U64 (rd a0 x4_0)) : Int)).bind fun y5 => (words_load.l0 k a0 y5 (I64 (x4_0 + 1)))) else (none)) else (none)) else (some x3_0)
def words_load.f (k : Nat) (a0 : List Int) : Option (Int) := words_load.l0 k a0 0 0
set_option maxRecDepth 100000 in
theorem words_load.calls (k : Nat) (Ap0 : Option Addr) (np0 cp0 : Nat) (a0 : List Int) (r : Int) (w : World) (hr0 : Rd w (.slice Ap0 np0 cp0) (nums .u8 a0)) (h : words_load.f k a0 = some r) :
    Calls Go.Proofs.Try.prog 38 #[(.slice Ap0 np0 cp0)] w (Ret fun v w' => v = .int .u64 r ∧ Mem w w' []) := by
  obtain rfl : a0.length = np0 := by have h_ := hr0.1; simpa [nums_length, bools_length] using h_
  unfold words_load.f at h
  refine calls_of [.slice Ap0 a0.length cp0] (fn := Go.Proofs.Try.f38) Go.Proofs.Try.func38 (by kernel_rfl) (by kernel_rfl) ?_
  have hM := Mem.refl w
  refine RunF.go 12 [0, 3, 4] (k' := (pl Go.Proofs.Try.f38 [1, 0, 1, 1])) (L' := [(0, .slice Ap0 a0.length cp0), (3, .int .u64 0), (4, .int .i64 0)]) (w' := w) (by kernel_rfl) ?_
  have l0 : ∀ (k_ : Nat), k_ ≤ k → ∀ (x3_0 : Int) (x4_0 : Int) (W : World) (hM : Mem w W []) (h : words_load.l0 k_ a0 x3_0 x4_0 = some r), RunF Go.Proofs.Try.prog (Ret fun v w' => v = .int .u64 r ∧ Mem w w' []) 38 (pl Go.Proofs.Try.f38 [1, 0, 1, 1]) 20 [(0, .slice Ap0 a0.length cp0), (3, .int .u64 x3_0), (4, .int .i64 x4_0)] W := by
    intro k_
    induction k_ using Nat.strongRecOn with
    | _ k_ ih0 =>
      intro hk x3_0 x4_0 W hM h
      cases k_ with
      | zero => exact absurd h (by simp [words_load.l0])
      | succ k =>
        simp only [words_load.l0] at h
        replace ih0 : ∀ m, m ≤ k → _ := fun m hm => ih0 m (by omega) (by omega)
        refine RunF.go 8 [0, 3, 4, 8] (k' := (pl Go.Proofs.Try.f38 [1, 0, 1, 1, 0, 1])) (L' := [(0, .slice Ap0 a0.length cp0), (3, .int .u64 x3_0), (4, .int .i64 x4_0), (8, .bool (decide (x4_0 < (a0.length : Int))))]) (w' := W) (by kernel_rfl) ?_
        rcases two (decide (x4_0 < (a0.length : Int))) with c1 | c1
        · replace h := of_true h c1
          refine RunF.know 8 (b := true) (by kernel_rfl) c1 ?_
          refine RunF.go 7 [0, 4, 10, 11, 12] (k' := (pin Go.Proofs.Try.f38 [1, 0, 1, 1, 0, 1, 0, 0] 4)) (L' := [(0, .slice Ap0 a0.length cp0), (4, .int .i64 x4_0), (10, .int .u64 (shl .u64 x3_0 8)), (11, .slice Ap0 a0.length cp0), (12, .int .i64 x4_0)]) (w' := W) (by kernel_rfl) ?_
          rcases two (decide (0 ≤ x4_0)) with c3 | c3
          · replace h := of_true h c3
            rcases two (decide (x4_0 < (a0.length : Int))) with c4 | c4
            · replace h := of_true h c4
              obtain ⟨q2, hAq2, hcq2⟩ := Rd.num (hr0.mono hM.below) (i := x4_0) (of_decide_eq_true c3) (by have h_ := of_decide_eq_true c4; omega)
              refine RunF.y (idx_y (d := some 13) (A := Ap0) (m := a0.length) (i := x4_0) (k2 := (pin Go.Proofs.Try.f38 [1, 0, 1, 1, 0, 1, 0, 0] 5)) (by kernel_rfl) (of_decide_eq_true c3) (by have h_ := of_decide_eq_true c4; omega) hAq2) trivial ?_
              refine RunF.y (ld_y (d := some 14) (p := (q2.add (x4_0 : Int).toNat)) (k2 := (pin Go.Proofs.Try.f38 [1, 0, 1, 1, 0, 1, 0, 0] 6)) (.int .u8 (rd a0 x4_0)) (by kernel_rfl)) hcq2 ?_
              refine RunF.go 13 [0, 3, 4] (k' := (pl Go.Proofs.Try.f38 [1, 0, 1, 1])) (L' := [(0, .slice Ap0 a0.length cp0), (3, .int .u64 (bor .u64 (shl .u64 x3_0 8) (U64 (rd a0 x4_0)))), (4, .int .i64 (I64 (x4_0 + 1)))]) (w' := W) (by kernel_rfl) ?_
              obtain ⟨y5, hy, h⟩ := Option.bind_eq_some_iff.mp h
              rw [show (bor .u64 (shl .u64 x3_0 8) (U64 (rd a0 x4_0))) = y5 from Option.some.inj hy]
              clear hy
              exact ih0 k (by omega) y5 (I64 (x4_0 + 1)) _ (hM.pick [] rfl rfl) h
            · replace h := of_false h c4
              cases h
          · replace h := of_false h c3
            cases h
        · replace h := of_false h c1
          refine RunF.know 8 (b := false) (by kernel_rfl) c1 ?_
          refine RunF.go 7 [2] (k' := (pl Go.Proofs.Try.f38 [1, 0, 1, 1, 1, 1])) (L' := [(2, .int .u64 x3_0)]) (w' := W) (by kernel_rfl) ?_
          obtain rfl := Option.some.inj h
          exact RunF.ret1 2 (.int .u64 x3_0) (fn := Go.Proofs.Try.f38) Go.Proofs.Try.func38 (by kernel_rfl) (by kernel_rfl) (by kernel_rfl) ⟨_, rfl, rfl, (hM.pick [] rfl rfl)⟩
  exact l0 k (Nat.le_refl _) 0 0 _ (hM.pick [] rfl rfl) h

/-! ### scrim/words.Be32: function 18 -/
def words_Be32.f (k : Nat) (a0 : List Int) : Option (Int × Bool) := if ((a0.length : Int) != 4) = true then (some (0, false)) else ((words_load.f k a0).bind fun t2 => (some (U32 (t2), true)))
set_option maxRecDepth 100000 in
theorem words_Be32.calls (k : Nat) (Ap0 : Option Addr) (np0 cp0 : Nat) (a0 : List Int) (r : Int × Bool) (w : World) (hr0 : Rd w (.slice Ap0 np0 cp0) (nums .u8 a0)) (h : words_Be32.f k a0 = some r) :
    Calls Go.Proofs.Try.prog 18 #[(.slice Ap0 np0 cp0)] w (Ret fun v w' => v = .tuple #[.int .u32 r.1, .bool r.2] ∧ Mem w w' []) := by
  obtain rfl : a0.length = np0 := by have h_ := hr0.1; simpa [nums_length, bools_length] using h_
  unfold words_Be32.f at h
  refine calls_of [.slice Ap0 a0.length cp0] (fn := Go.Proofs.Try.f18) Go.Proofs.Try.func18 (by kernel_rfl) (by kernel_rfl) ?_
  have hM := Mem.refl w
  refine RunF.go 12 [0, 6] (k' := (pl Go.Proofs.Try.f18 [1, 0, 1])) (L' := [(0, .slice Ap0 a0.length cp0), (6, .bool ((a0.length : Int) != 4))]) (w' := w) (by kernel_rfl) ?_
  rcases two (((a0.length : Int) != 4)) with c1 | c1
  · replace h := of_true h c1
    refine RunF.know 6 (b := true) (by kernel_rfl) c1 ?_
    refine RunF.go 6 [2, 3] (k' := (pl Go.Proofs.Try.f18 [1, 0, 1, 0, 1])) (L' := [(2, .int .u32 0), (3, .bool false)]) (w' := w) (by kernel_rfl) ?_
    obtain rfl := Option.some.inj h
    exact RunF.ret2 2 3 (.int .u32 0) (.bool false) (fn := Go.Proofs.Try.f18) Go.Proofs.Try.func18 (by kernel_rfl) (by kernel_rfl) (by kernel_rfl) (by kernel_rfl) ⟨_, rfl, rfl, (hM.pick [] rfl rfl)⟩
  · replace h := of_false h c1
    refine RunF.know 6 (b := false) (by kernel_rfl) c1 ?_
    refine RunF.go 5 [7] (k' := (pin Go.Proofs.Try.f18 [1, 1, 0] 1)) (L' := [(7, .slice Ap0 a0.length cp0)]) (w' := w) (by kernel_rfl) ?_
    obtain ⟨t2, ht2, h⟩ := Option.bind_eq_some_iff.mp h
    refine RunF.call (d := some 8) (g := 38) (args := #[.slice Ap0 a0.length cp0]) (k2 := (pin Go.Proofs.Try.f18 [1, 1, 0] 2)) (by kernel_rfl) (words_load.calls k Ap0 a0.length cp0 a0 t2 _ (hr0.mono hM.below) ht2) ?_
    rintro _ W3 ⟨rfl, hM_⟩
    replace hM := hM.call hM_
    clear hM_ ht2
    refine RunF.go 4 [2, 3] (k' := (pl Go.Proofs.Try.f18 [1, 1, 1])) (L' := [(2, .int .u32 (U32 (t2))), (3, .bool true)]) (w' := W3) (by kernel_rfl) ?_
    obtain rfl := Option.some.inj h
    exact RunF.ret2 2 3 (.int .u32 (U32 (t2))) (.bool true) (fn := Go.Proofs.Try.f18) Go.Proofs.Try.func18 (by kernel_rfl) (by kernel_rfl) (by kernel_rfl) (by kernel_rfl) ⟨_, rfl, rfl, (hM.pick [] rfl rfl)⟩

/-! ### scrim/words.rest: function 43 -/
def words_rest.f (k : Nat) (a0 : Int) (a1 : Int) : Option (Int) := if (decide (a1 = 0)) = true then (none) else (if (decide (a1 = 0)) = true then (none) else (some (Int.tmod (I64 ((Int.tmod a0 a1) + a1)) a1)))
set_option maxRecDepth 100000 in
theorem words_rest.calls (k : Nat) (a0 : Int) (a1 : Int) (r : Int) (w : World) (h : words_rest.f k a0 a1 = some r) :
    Calls Go.Proofs.Try.prog 43 #[.int .i64 a0, .int .i64 a1] w (Ret fun v w' => v = .int .i64 r ∧ Mem w w' []) := by
  unfold words_rest.f at h
  refine calls_of [.int .i64 a0, .int .i64 a1] (fn := Go.Proofs.Try.f43) Go.Proofs.Try.func43 (by kernel_rfl) (by kernel_rfl) ?_
  have hM := Mem.refl w
  refine RunF.go 8 [1, 5, 6] (k' := (pin Go.Proofs.Try.f43 [1, 0] 2)) (L' := [(1, .int .i64 a1), (5, .int .i64 a0), (6, .int .i64 a1)]) (w' := w) (by kernel_rfl) ?_
  rcases two (decide (a1 = 0)) with c1 | c1
  · replace h := of_true h c1
    cases h
  · replace h := of_false h c1
    refine RunF.y (div_y (d := some 7) (b := false) (kd := .i64) (x := a0) (y := a1) (k2 := (pin Go.Proofs.Try.f43 [1, 0] 3)) (by kernel_rfl) c1) trivial ?_
    refine RunF.go 3 [9, 10] (k' := (pin Go.Proofs.Try.f43 [1, 0] 6)) (L' := [(9, .int .i64 (I64 ((Int.tmod a0 a1) + a1))), (10, .int .i64 a1)]) (w' := w) (by kernel_rfl) ?_
    rcases two (decide (a1 = 0)) with c2 | c2
    · replace h := of_true h c2
      cases h
    · replace h := of_false h c2
      refine RunF.y (div_y (d := some 11) (b := false) (kd := .i64) (x := I64 ((Int.tmod a0 a1) + a1)) (y := a1) (k2 := (pin Go.Proofs.Try.f43 [1, 0] 7)) (by kernel_rfl) c2) trivial ?_
      refine RunF.go 2 [4] (k' := (pl Go.Proofs.Try.f43 [1, 1])) (L' := [(4, .int .i64 (Int.tmod (I64 ((Int.tmod a0 a1) + a1)) a1))]) (w' := w) (by kernel_rfl) ?_
      obtain rfl := Option.some.inj h
      exact RunF.ret1 4 (.int .i64 (Int.tmod (I64 ((Int.tmod a0 a1) + a1)) a1)) (fn := Go.Proofs.Try.f43) Go.Proofs.Try.func43 (by kernel_rfl) (by kernel_rfl) (by kernel_rfl) ⟨_, rfl, rfl, (hM.pick [] rfl rfl)⟩

/-! ### scrim/words.Rol8: function 28 -/
def words_Rol8.f (k : Nat) (a0 : Int) (a1 : Int) : Option (Int) := (words_rest.f k a1 8).bind fun t1 => (if (decide (0 ≤ (U64 (t1)))) = true then (if (decide (0 ≤ (U64 (8 - (U64 (t1)))))) = true then (some (bor .u8 (shlv .u8 a0 (U64 (t1))) (shrv .u8 a0 (U64 (8 - (U64 (t1))))))) else (none)) else (none))
set_option maxRecDepth 100000 in
theorem words_Rol8.calls (k : Nat) (a0 : Int) (a1 : Int) (r : Int) (w : World) (h : words_Rol8.f k a0 a1 = some r) :
    Calls Go.Proofs.Try.prog 28 #[.int .u8 a0, .int .i64 a1] w (Ret fun v w' => v = .int .u8 r ∧ Mem w w' []) := by
  unfold words_Rol8.f at h
  refine calls_of [.int .u8 a0, .int .i64 a1] (fn := Go.Proofs.Try.f28) Go.Proofs.Try.func28 (by kernel_rfl) (by kernel_rfl) ?_
  have hM := Mem.refl w
  refine RunF.go 7 [0, 6] (k' := (pin Go.Proofs.Try.f28 [1, 0] 1)) (L' := [(0, .int .u8 a0), (6, .int .i64 a1)]) (w' := w) (by kernel_rfl) ?_
  obtain ⟨t1, ht1, h⟩ := Option.bind_eq_some_iff.mp h
  refine RunF.call (d := some 7) (g := 43) (args := #[.int .i64 a1, .int .i64 8]) (k2 := (pin Go.Proofs.Try.f28 [1, 0] 2)) (by kernel_rfl) (words_rest.calls k a1 8 t1 _ ht1) ?_
  rintro _ W2 ⟨rfl, hM_⟩
  replace hM := hM.call hM_
  clear hM_ ht1
  refine RunF.go 7 [0, 5, 9, 10] (k' := (pin Go.Proofs.Try.f28 [1, 1, 0] 2)) (L' := [(0, .int .u8 a0), (5, .int .u64 (U64 (t1))), (9, .int .u8 a0), (10, .int .u64 (U64 (t1)))]) (w' := W2) (by kernel_rfl) ?_
  rcases two (decide (0 ≤ (U64 (t1)))) with c3 | c3
  · replace h := of_true h c3
    refine RunF.y (sh_y (d := some 11) (b := true) (kd := .u8) (x := a0) (y := U64 (t1)) (k2 := (pin Go.Proofs.Try.f28 [1, 1, 0] 3)) (by kernel_rfl) c3) trivial ?_
    refine RunF.go 3 [11, 12, 14] (k' := (pin Go.Proofs.Try.f28 [1, 1, 0] 6)) (L' := [(11, .int .u8 (shlv .u8 a0 (U64 (t1)))), (12, .int .u8 a0), (14, .int .u64 (U64 (8 - (U64 (t1)))))]) (w' := W2) (by kernel_rfl) ?_
    rcases two (decide (0 ≤ (U64 (8 - (U64 (t1)))))) with c4 | c4
    · replace h := of_true h c4
      refine RunF.y (sh_y (d := some 15) (b := false) (kd := .u8) (x := a0) (y := U64 (8 - (U64 (t1)))) (k2 := (pin Go.Proofs.Try.f28 [1, 1, 0] 7)) (by kernel_rfl) c4) trivial ?_
      refine RunF.go 3 [4] (k' := (pl Go.Proofs.Try.f28 [1, 1, 1])) (L' := [(4, .int .u8 (bor .u8 (shlv .u8 a0 (U64 (t1))) (shrv .u8 a0 (U64 (8 - (U64 (t1)))))))]) (w' := W2) (by kernel_rfl) ?_
      obtain rfl := Option.some.inj h
      exact RunF.ret1 4 (.int .u8 (bor .u8 (shlv .u8 a0 (U64 (t1))) (shrv .u8 a0 (U64 (8 - (U64 (t1))))))) (fn := Go.Proofs.Try.f28) Go.Proofs.Try.func28 (by kernel_rfl) (by kernel_rfl) (by kernel_rfl) ⟨_, rfl, rfl, (hM.pick [] rfl rfl)⟩
    · replace h := of_false h c4
      cases h
  · replace h := of_false h c3
    cases h

/-! ### scrim/scrimlaw1.known: function 14 -/
def scrimlaw1_known.f (k : Nat)  : Option (Bool) := (words_Inc.f k ([0, 255] : List Int)).bind fun t4 => ((words_Be32.f k ([1, 2, 3, 4] : List Int)).bind fun t13 => ((some (((strOf t4).toList == (⟨#[1, 0]⟩ : ByteArray).toList) : Bool)).bind fun y15 => (if y15 = true then (if t13.2 = true then (if (t13.1 == 16909060) = true then ((words_Rol8.f k 129 1).bind fun t19 => (some (t19 == 3))) else (some false)) else (some false)) else (some false))))
set_option maxRecDepth 100000 in
theorem scrimlaw1_known.calls (k : Nat)  (r : Bool) (w : World) (h : scrimlaw1_known.f k = some r) :
    Calls Go.Proofs.Try.prog 14 #[] w (Ret fun v w' => v = .bool r ∧ Mem w w' []) := by
  unfold scrimlaw1_known.f at h
  refine calls_of [] (fn := Go.Proofs.Try.f14) Go.Proofs.Try.func14 (by kernel_rfl) (by kernel_rfl) ?_
  have hM := Mem.refl w
  refine RunF.go 6 [] (k' := (pin Go.Proofs.Try.f14 [1, 0] 0)) (L' := []) (w' := w) (by kernel_rfl) ?_
  refine RunF.new 5 1 2 (nums .u8 [0, 255]) (d := some 4) (k2 := (pin Go.Proofs.Try.f14 [1, 0] 1)) hM (by simp [nums, bools]) (by kernel_rfl) (by kernel_rfl) ?_
  replace hM := hM
  intro g1 W2 hM
  obtain ⟨t4, ht4, h⟩ := Option.bind_eq_some_iff.mp h
  refine RunF.call (d := some 5) (g := 16) (args := #[.slice (some ⟨g1, 0, none⟩) 2 2]) (k2 := (pin Go.Proofs.Try.f14 [1, 0] 2)) (by kernel_rfl) (words_Inc.calls k (some ⟨g1, 0, none⟩) 2 2 ([0, 255] : List Int) t4 _ (hM.rd 0 rfl) ht4) ?_
  rintro _ W5 ⟨A6, n7, c8, rfl, hM_⟩
  obtain rfl : t4.length = n7 := by have h_ := (hM_.rd 0 rfl).1; simpa [nums_length, bools_length] using h_
  replace hM := hM.call hM_
  clear hM_ ht4
  refine RunF.go 4 [1] (k' := (pin Go.Proofs.Try.f14 [1, 1, 0] 0)) (L' := [(1, .slice A6 t4.length c8)]) (w' := W5) (by kernel_rfl) ?_
  refine RunF.new 5 1 4 (nums .u8 [1, 2, 3, 4]) (d := some 7) (k2 := (pin Go.Proofs.Try.f14 [1, 1, 0] 1)) hM (by simp [nums, bools]) (by kernel_rfl) (by kernel_rfl) ?_
  replace hM := hM
  intro g10 W11 hM
  obtain ⟨t13, ht13, h⟩ := Option.bind_eq_some_iff.mp h
  refine RunF.call (d := some 8) (g := 18) (args := #[.slice (some ⟨g10, 0, none⟩) 4 4]) (k2 := (pin Go.Proofs.Try.f14 [1, 1, 0] 2)) (by kernel_rfl) (words_Be32.calls k (some ⟨g10, 0, none⟩) 4 4 ([1, 2, 3, 4] : List Int) t13 _ (hM.rd 0 rfl) ht13) ?_
  rintro _ W14 ⟨rfl, hM_⟩
  replace hM := hM.call hM_
  clear hM_ ht13
  refine RunF.go 9 [2, 3, 11] (k' := (pin Go.Proofs.Try.f14 [1, 1, 1, 0] 1)) (L' := [(2, .int .u32 t13.1), (3, .bool t13.2), (11, .slice A6 t4.length c8)]) (w' := W14) (by kernel_rfl) ?_
  refine RunF.y (str_y (d := some 12) (A := A6) (m := t4.length) (c := c8) (k2 := (pin Go.Proofs.Try.f14 [1, 1, 1, 0] 2)) t4 (by kernel_rfl)) (hM.rd 1 rfl) ?_
  refine RunF.go 2 [2, 3, 14] (k' := (pin Go.Proofs.Try.f14 [1, 1, 1, 0] 4)) (L' := [(2, .int .u32 t13.1), (3, .bool t13.2), (14, .bool ((strOf t4).toList == (⟨#[1, 0]⟩ : ByteArray).toList))]) (w' := W14) (by kernel_rfl) ?_
  obtain ⟨y15, hy, h⟩ := Option.bind_eq_some_iff.mp h
  rw [show (((strOf t4).toList == (⟨#[1, 0]⟩ : ByteArray).toList)) = y15 from Option.some.inj hy]
  clear hy
  rcases two (y15) with c16 | c16
  · replace h := of_true h c16
    refine RunF.know 14 (b := true) (by kernel_rfl) c16 ?_
    refine RunF.go 3 [2, 17] (k' := (pin Go.Proofs.Try.f14 [1, 1, 1, 0] 7)) (L' := [(2, .int .u32 t13.1), (17, .bool t13.2)]) (w' := W14) (by kernel_rfl) ?_
    rcases two (t13.2) with c17 | c17
    · replace h := of_true h c17
      refine RunF.know 17 (b := true) (by kernel_rfl) c17 ?_
      refine RunF.go 4 [21] (k' := (pin Go.Proofs.Try.f14 [1, 1, 1, 0] 11)) (L' := [(21, .bool (t13.1 == 16909060))]) (w' := W14) (by kernel_rfl) ?_
      rcases two ((t13.1 == 16909060)) with c18 | c18
      · replace h := of_true h c18
        refine RunF.know 21 (b := true) (by kernel_rfl) c18 ?_
        obtain ⟨t19, ht19, h⟩ := Option.bind_eq_some_iff.mp h
        refine RunF.call (d := some 22) (g := 28) (args := #[.int .u8 129, .int .i64 1]) (k2 := (pin Go.Proofs.Try.f14 [1, 1, 1, 0] 12)) (by kernel_rfl) (words_Rol8.calls k 129 1 t19 _ ht19) ?_
        rintro _ W20 ⟨rfl, hM_⟩
        replace hM := hM.call hM_
        clear hM_ ht19
        refine RunF.go 4 [0] (k' := (pl Go.Proofs.Try.f14 [1, 1, 1, 1])) (L' := [(0, .bool (t19 == 3))]) (w' := W20) (by kernel_rfl) ?_
        obtain rfl := Option.some.inj h
        exact RunF.ret1 0 (.bool (t19 == 3)) (fn := Go.Proofs.Try.f14) Go.Proofs.Try.func14 (by kernel_rfl) (by kernel_rfl) (by kernel_rfl) ⟨_, rfl, rfl, (hM.pick [] rfl rfl)⟩
      · replace h := of_false h c18
        refine RunF.know 21 (b := false) (by kernel_rfl) c18 ?_
        refine RunF.go 5 [0] (k' := (pl Go.Proofs.Try.f14 [1, 1, 1, 1])) (L' := [(0, .bool false)]) (w' := W14) (by kernel_rfl) ?_
        obtain rfl := Option.some.inj h
        exact RunF.ret1 0 (.bool false) (fn := Go.Proofs.Try.f14) Go.Proofs.Try.func14 (by kernel_rfl) (by kernel_rfl) (by kernel_rfl) ⟨_, rfl, rfl, (hM.pick [] rfl rfl)⟩
    · replace h := of_false h c17
      refine RunF.know 17 (b := false) (by kernel_rfl) c17 ?_
      refine RunF.go 9 [0] (k' := (pl Go.Proofs.Try.f14 [1, 1, 1, 1])) (L' := [(0, .bool false)]) (w' := W14) (by kernel_rfl) ?_
      obtain rfl := Option.some.inj h
      exact RunF.ret1 0 (.bool false) (fn := Go.Proofs.Try.f14) Go.Proofs.Try.func14 (by kernel_rfl) (by kernel_rfl) (by kernel_rfl) ⟨_, rfl, rfl, (hM.pick [] rfl rfl)⟩
  · replace h := of_false h c16
    refine RunF.know 14 (b := false) (by kernel_rfl) c16 ?_
    refine RunF.go 12 [0] (k' := (pl Go.Proofs.Try.f14 [1, 1, 1, 1])) (L' := [(0, .bool false)]) (w' := W14) (by kernel_rfl) ?_
    obtain rfl := Option.some.inj h
    exact RunF.ret1 0 (.bool false) (fn := Go.Proofs.Try.f14) Go.Proofs.Try.func14 (by kernel_rfl) (by kernel_rfl) (by kernel_rfl) ⟨_, rfl, rfl, (hM.pick [] rfl rfl)⟩

/-! ### scrim/words.Xor: function 19 -/
def words_Xor.l0 : Nat → (List Int) → (List Int) → (List Int) → Int → Option (List Int × Bool)
  | 0, _, _, _, _ => none
  | k + 1, a0, a1, x6_0, x18_0 => if (decide (x18_0 < (a0.length : Int))) = true then (if (decide (0 ≤ x18_0)) = true then (if (decide (x18_0 < (a0.length : Int))) = true then (if (decide (0 ≤ x18_0)) = true then (if (decide (x18_0 < (a1.length : Int))) = true then (if (decide (0 ≤ x18_0)) = true then (if (decide (x18_0 < (((a0.length : Int)).toNat : Int))) = true then (words_Xor.l0 k a0 a1 (x6_0.set (x18_0 : Int).toNat (bxor .u8 (rd a0 x18_0) (rd a1 x18_0))) (I64 (x18_0 + 1))) else (none)) else (none)) else (none)) else (none)) else (none)) else (none)) else (some (x6_0, true))
def words_Xor.f (k : Nat) (a0 : List Int) (a1 : List Int) : Option (List Int × Bool) := if ((a0.length : Int) != (a1.length : Int)) = true then (some (([] : List Int), false)) else (if (decide (0 ≤ (a0.length : Int))) = true then (if (decide ((a0.length : Int) ≤ 1000000000)) = true then (words_Xor.l0 k a0 a1 (List.replicate (((a0.length : Int)).toNat) 0) 0) else (none)) else (none))
set_option maxRecDepth 100000 in
theorem words_Xor.calls (k : Nat) (Ap0 : Option Addr) (np0 cp0 : Nat) (a0 : List Int) (Ap1 : Option Addr) (np1 cp1 : Nat) (a1 : List Int) (r : List Int × Bool) (w : World) (hr0 : Rd w (.slice Ap0 np0 cp0) (nums .u8 a0)) (hr1 : Rd w (.slice Ap1 np1 cp1) (nums .u8 a1)) (h : words_Xor.f k a0 a1 = some r) :
    Calls Go.Proofs.Try.prog 19 #[(.slice Ap0 np0 cp0), (.slice Ap1 np1 cp1)] w (Ret fun v w' => ∃ A0' n0' c0', v = .tuple #[.slice A0' n0' c0', .bool r.2] ∧ Mem w w' [⟨.slice A0' n0' c0', 5, 1, nums .u8 r.1⟩]) := by
  obtain rfl : a0.length = np0 := by have h_ := hr0.1; simpa [nums_length, bools_length] using h_
  obtain rfl : a1.length = np1 := by have h_ := hr1.1; simpa [nums_length, bools_length] using h_
  unfold words_Xor.f at h
  refine calls_of [.slice Ap0 a0.length cp0, .slice Ap1 a1.length cp1] (fn := Go.Proofs.Try.f19) Go.Proofs.Try.func19 (by kernel_rfl) (by kernel_rfl) ?_
  have hM := Mem.refl w
  refine RunF.go 14 [0, 1, 12] (k' := (pl Go.Proofs.Try.f19 [1, 0, 1])) (L' := [(0, .slice Ap0 a0.length cp0), (1, .slice Ap1 a1.length cp1), (12, .bool ((a0.length : Int) != (a1.length : Int)))]) (w' := w) (by kernel_rfl) ?_
  rcases two (((a0.length : Int) != (a1.length : Int))) with c1 | c1
  · replace h := of_true h c1
    refine RunF.know 12 (b := true) (by kernel_rfl) c1 ?_
    refine RunF.go 6 [4, 5] (k' := (pl Go.Proofs.Try.f19 [1, 0, 1, 0, 1])) (L' := [(4, .slice none 0 0), (5, .bool false)]) (w' := w) (by kernel_rfl) ?_
    replace hM := hM.nil 5
    obtain rfl := Option.some.inj h
    exact RunF.ret2 4 5 (.slice none 0 0) (.bool false) (fn := Go.Proofs.Try.f19) Go.Proofs.Try.func19 (by kernel_rfl) (by kernel_rfl) (by kernel_rfl) (by kernel_rfl) ⟨_, rfl, none, 0, 0, rfl, (hM.pick [0] rfl rfl)⟩
  · replace h := of_false h c1
    refine RunF.know 12 (b := false) (by kernel_rfl) c1 ?_
    refine RunF.go 6 [0, 1, 14] (k' := (pin Go.Proofs.Try.f19 [1, 1, 0] 2)) (L' := [(0, .slice Ap0 a0.length cp0), (1, .slice Ap1 a1.length cp1), (14, .int .i64 (a0.length : Int))]) (w' := w) (by kernel_rfl) ?_
    rcases two (decide (0 ≤ (a0.length : Int))) with c5 | c5
    · replace h := of_true h c5
      rcases two (decide ((a0.length : Int) ≤ 1000000000)) with c6 | c6
      · replace h := of_true h c6
        have := of_decide_eq_true c5
        have := of_decide_eq_true c6
        obtain ⟨W3, hD, hM', hB_⟩ := mk_does (P := Go.Proofs.Try.prog) (n := 35) (k := (pin Go.Proofs.Try.f19 [1, 1, 0] 2)) (L := [(0, .slice Ap0 a0.length cp0), (1, .slice Ap1 a1.length cp1), (14, .int .i64 (a0.length : Int))]) (d := some 15) (e := 5) (z := .int .u8 0) (l := (a0.length : Int)) (c := (a0.length : Int)) (k2 := (pin Go.Proofs.Try.f19 [1, 1, 0] 3)) (by kernel_rfl) (by omega) (by omega) (by omega) hM
        rw [rep_nums] at hM'
        refine RunF.does hD ?_
        replace hM := hM'; clear hD hM'
        generalize w.heap.size = g4 at hM ⊢
        refine RunF.go 11 [0, 1, 6, 17, 18] (k' := (pl Go.Proofs.Try.f19 [1, 1, 1, 0, 1, 0, 0])) (L' := [(0, .slice Ap0 a0.length cp0), (1, .slice Ap1 a1.length cp1), (6, .slice (some ⟨g4, 0, none⟩) (((a0.length : Int)).toNat) (((a0.length : Int) : Int).toNat)), (17, .int .i64 (a0.length : Int)), (18, .int .i64 0)]) (w' := W3) (by kernel_rfl) ?_
        have l0 : ∀ (k_ : Nat), k_ ≤ k → ∀ (x6_0 : List Int) (x18_0 : Int) (W : World) (hM : Mem w W [⟨.slice (some ⟨g4, 0, none⟩) (((a0.length : Int)).toNat) (((a0.length : Int) : Int).toNat), 5, 1, nums .u8 x6_0⟩]) (h : words_Xor.l0 k_ a0 a1 x6_0 x18_0 = some r), RunF Go.Proofs.Try.prog (Ret fun v w' => ∃ A0' n0' c0', v = .tuple #[.slice A0' n0' c0', .bool r.2] ∧ Mem w w' [⟨.slice A0' n0' c0', 5, 1, nums .u8 r.1⟩]) 19 (pl Go.Proofs.Try.f19 [1, 1, 1, 0, 1, 0, 0]) 35 [(0, .slice Ap0 a0.length cp0), (1, .slice Ap1 a1.length cp1), (6, .slice (some ⟨g4, 0, none⟩) (((a0.length : Int)).toNat) (((a0.length : Int) : Int).toNat)), (17, .int .i64 (a0.length : Int)), (18, .int .i64 x18_0)] W := by
          intro k_
          induction k_ using Nat.strongRecOn with
          | _ k_ ih0 =>
            intro hk x6_0 x18_0 W hM h
            cases k_ with
            | zero => exact absurd h (by simp [words_Xor.l0])
            | succ k =>
              simp only [words_Xor.l0] at h
              replace ih0 : ∀ m, m ≤ k → _ := fun m hm => ih0 m (by omega) (by omega)
              refine RunF.go 5 [0, 1, 6, 17, 18, 19] (k' := (pl Go.Proofs.Try.f19 [1, 1, 1, 0, 1, 0, 0, 1, 0])) (L' := [(0, .slice Ap0 a0.length cp0), (1, .slice Ap1 a1.length cp1), (6, .slice (some ⟨g4, 0, none⟩) (((a0.length : Int)).toNat) (((a0.length : Int) : Int).toNat)), (17, .int .i64 (a0.length : Int)), (18, .int .i64 x18_0), (19, .bool (decide (x18_0 < (a0.length : Int))))]) (w' := W) (by kernel_rfl) ?_
              rcases two (decide (x18_0 < (a0.length : Int))) with c8 | c8
              · replace h := of_true h c8
                refine RunF.know 19 (b := true) (by kernel_rfl) c8 ?_
                refine RunF.go 9 [0, 1, 6, 7, 17, 18] (k' := (pl Go.Proofs.Try.f19 [1, 1, 1, 0, 1, 0, 0, 1, 1, 0, 0, 1])) (L' := [(0, .slice Ap0 a0.length cp0), (1, .slice Ap1 a1.length cp1), (6, .slice (some ⟨g4, 0, none⟩) (((a0.length : Int)).toNat) (((a0.length : Int) : Int).toNat)), (7, .int .i64 x18_0), (17, .int .i64 (a0.length : Int)), (18, .int .i64 x18_0)]) (w' := W) (by kernel_rfl) ?_
                refine RunF.draw (Still ({ W with drawn := W.drawn + 1 } : World) [.slice (some ⟨g4, 0, none⟩) (((a0.length : Int)).toNat) (((a0.length : Int) : Int).toNat)]) (by kernel_rfl) (by kernel_rfl) ?_
                have hMd10 := hM.drew
                have hS := Still.refl ({ W with drawn := W.drawn + 1 } : World) [.slice (some ⟨g4, 0, none⟩) (((a0.length : Int)).toNat) (((a0.length : Int) : Int).toNat)]
                generalize ({ W with drawn := W.drawn + 1 } : World) = W9 at hMd10 hS ⊢
                replace hM := hMd10
                refine RunAny.y 0 (by kernel_rfl) (yl_pure (d := some 21) (v := .slice (some ⟨g4, 0, none⟩) (((a0.length : Int)).toNat) (((a0.length : Int) : Int).toNat)) (k2 := [.inRegion (opsOf (pl Go.Proofs.Try.f19 [1, 1, 1, 0, 1, 0, 0, 1, 1, 0, 0, 1])) []]) fun w => by kernel_rfl) (fun _ _ => trivial) hS ?_
                refine RunAny.y 1 (by kernel_rfl) (yl_pure (d := some 22) (v := .int .i64 x18_0) (k2 := [.inRegion (opsOf (pl Go.Proofs.Try.f19 [1, 1, 1, 0, 1, 0, 0, 1, 1, 0, 0, 1])) []]) fun w => by kernel_rfl) (fun _ _ => trivial) hS ?_
                refine RunAny.y 2 (by kernel_rfl) (yl_pure (d := some 23) (v := .slice Ap0 a0.length cp0) (k2 := [.inRegion (opsOf (pl Go.Proofs.Try.f19 [1, 1, 1, 0, 1, 0, 0, 1, 1, 0, 0, 1])) []]) fun w => by kernel_rfl) (fun _ _ => trivial) hS ?_
                refine RunAny.y 3 (by kernel_rfl) (yl_pure (d := some 24) (v := .int .i64 x18_0) (k2 := [.inRegion (opsOf (pl Go.Proofs.Try.f19 [1, 1, 1, 0, 1, 0, 0, 1, 1, 0, 0, 1])) []]) fun w => by kernel_rfl) (fun _ _ => trivial) hS ?_
                rcases two (decide (0 ≤ x18_0)) with c12 | c12
                · replace h := of_true h c12
                  rcases two (decide (x18_0 < (a0.length : Int))) with c13 | c13
                  · replace h := of_true h c13
                    obtain ⟨q11, hAq11, hiq11⟩ := Rd.num hr0 (i := x18_0) (of_decide_eq_true c12) (by have h_ := of_decide_eq_true c13; omega)
                    have hcq11 := (hM.below.cell (World.block_lt_of_cell? _ _ hiq11)).trans hiq11
                    refine RunAny.y 4 (by kernel_rfl) (idx_y (d := some 25) (A := Ap0) (m := a0.length) (i := x18_0) (k2 := [.inRegion (opsOf (pl Go.Proofs.Try.f19 [1, 1, 1, 0, 1, 0, 0, 1, 1, 0, 0, 1])) []]) (by kernel_rfl) (of_decide_eq_true c12) (by have h_ := of_decide_eq_true c13; omega) hAq11) (fun _ _ => trivial) hS ?_
                    refine RunAny.y 5 (by kernel_rfl) (ld_y (d := some 26) (p := (q11.add (x18_0 : Int).toNat)) (k2 := [.inRegion (opsOf (pl Go.Proofs.Try.f19 [1, 1, 1, 0, 1, 0, 0, 1, 1, 0, 0, 1])) []]) (.int .u8 (rd a0 x18_0)) (by kernel_rfl)) (fun _ hs => hs.cell hcq11 (fun v hv => by rcases List.mem_cons.1 hv with rfl | hv; exact (hM.far hiq11 0 rfl); cases hv)) hS ?_
                    refine RunAny.y 6 (by kernel_rfl) (yl_pure (d := some 27) (v := .slice Ap1 a1.length cp1) (k2 := [.inRegion (opsOf (pl Go.Proofs.Try.f19 [1, 1, 1, 0, 1, 0, 0, 1, 1, 0, 0, 1])) []]) fun w => by kernel_rfl) (fun _ _ => trivial) hS ?_
                    refine RunAny.y 7 (by kernel_rfl) (yl_pure (d := some 28) (v := .int .i64 x18_0) (k2 := [.inRegion (opsOf (pl Go.Proofs.Try.f19 [1, 1, 1, 0, 1, 0, 0, 1, 1, 0, 0, 1])) []]) fun w => by kernel_rfl) (fun _ _ => trivial) hS ?_
                    rcases two (decide (0 ≤ x18_0)) with c15 | c15
                    · replace h := of_true h c15
                      rcases two (decide (x18_0 < (a1.length : Int))) with c16 | c16
                      · replace h := of_true h c16
                        obtain ⟨q14, hAq14, hiq14⟩ := Rd.num hr1 (i := x18_0) (of_decide_eq_true c15) (by have h_ := of_decide_eq_true c16; omega)
                        have hcq14 := (hM.below.cell (World.block_lt_of_cell? _ _ hiq14)).trans hiq14
                        refine RunAny.y 8 (by kernel_rfl) (idx_y (d := some 29) (A := Ap1) (m := a1.length) (i := x18_0) (k2 := [.inRegion (opsOf (pl Go.Proofs.Try.f19 [1, 1, 1, 0, 1, 0, 0, 1, 1, 0, 0, 1])) []]) (by kernel_rfl) (of_decide_eq_true c15) (by have h_ := of_decide_eq_true c16; omega) hAq14) (fun _ _ => trivial) hS ?_
                        refine RunAny.y 9 (by kernel_rfl) (ld_y (d := some 30) (p := (q14.add (x18_0 : Int).toNat)) (k2 := [.inRegion (opsOf (pl Go.Proofs.Try.f19 [1, 1, 1, 0, 1, 0, 0, 1, 1, 0, 0, 1])) []]) (.int .u8 (rd a1 x18_0)) (by kernel_rfl)) (fun _ hs => hs.cell hcq14 (fun v hv => by rcases List.mem_cons.1 hv with rfl | hv; exact (hM.far hiq14 0 rfl); cases hv)) hS ?_
                        refine RunAny.y 10 (by kernel_rfl) (yl_pure (d := some 31) (v := .int .u8 (bxor .u8 (rd a0 x18_0) (rd a1 x18_0))) (k2 := [.inRegion (opsOf (pl Go.Proofs.Try.f19 [1, 1, 1, 0, 1, 0, 0, 1, 1, 0, 0, 1])) []]) fun w => by kernel_rfl) (fun _ _ => trivial) hS ?_
                        rcases two (decide (0 ≤ x18_0)) with c18 | c18
                        · replace h := of_true h c18
                          rcases two (decide (x18_0 < (((a0.length : Int)).toNat : Int))) with c19 | c19
                          · replace h := of_true h c19
                            obtain ⟨q17, hAq17, hcq17, hfq17, hlq17⟩ := hM.num_at 0 rfl (i := x18_0) (of_decide_eq_true c18) (by have h_ := of_decide_eq_true c19; omega)
                            refine RunAny.y 11 (by kernel_rfl) (idx_own (d := some 32) (A := (some ⟨g4, 0, none⟩)) (m := ((a0.length : Int)).toNat) (i := x18_0) (k2 := [.inRegion (opsOf (pl Go.Proofs.Try.f19 [1, 1, 1, 0, 1, 0, 0, 1, 1, 0, 0, 1])) []]) (by kernel_rfl) (of_decide_eq_true c18) (by have h_ := of_decide_eq_true c19; omega) hAq17) (fun _ _ => trivial) hS ?_
                            obtain ⟨g_, hA_, hc_, hf_, hl_⟩ := hM.num_at 0 rfl (i := x18_0) (of_decide_eq_true c18) (by have h_ := of_decide_eq_true c19; omega)
                            obtain rfl : q17 = g_ := by rw [hAq17] at hA_; injection hA_ with hA_; injection hA_
                            have hS' := hS.set (v := .slice (some ⟨g4, 0, none⟩) (((a0.length : Int)).toNat) (((a0.length : Int) : Int).toNat)) (g := q17) (i := (x18_0 : Int).toNat) (by simp) (by rw [hAq17]; rfl) (.int .u8 (bxor .u8 (rd a0 x18_0) (rd a1 x18_0)))
                            refine RunAny.doesU 12 (by kernel_rfl) (st_u (p := (⟨q17, (x18_0 : Int).toNat, none⟩ : Addr)) (v := .int .u8 (bxor .u8 (rd a0 x18_0) (rd a1 x18_0))) (k2 := [.inRegion (opsOf (pl Go.Proofs.Try.f19 [1, 1, 1, 0, 1, 0, 0, 1, 1, 0, 0, 1])) []]) (by kernel_rfl) hc_ hf_) hS' ?_
                            replace hM : Mem w (W9.setCell (⟨q17, (x18_0 : Int).toNat, none⟩ : Addr) (.int .u8 (bxor .u8 (rd a0 x18_0) (rd a1 x18_0)))) [⟨.slice (some ⟨g4, 0, none⟩) (((a0.length : Int)).toNat) (((a0.length : Int) : Int).toNat), 5, 1, nums .u8 (x6_0.set (x18_0 : Int).toNat (bxor .u8 (rd a0 x18_0) (rd a1 x18_0)))⟩] := Mem.put_num [] [] (hM.pick [0] rfl rfl) hAq17 _ hl_ _
                            generalize W9.setCell (⟨q17, (x18_0 : Int).toNat, none⟩ : Addr) (.int .u8 (bxor .u8 (rd a0 x18_0) (rd a1 x18_0))) = W20 at hM hS' ⊢
                            clear hc_ hf_ hl_ hA_ hcq17
                            replace hS := hS'
                            refine RunAny.rebase hS ?_
                            replace hS := Still.refl W20 [.slice (some ⟨g4, 0, none⟩) (((a0.length : Int)).toNat) (((a0.length : Int) : Int).toNat)]
                            refine RunAny.done (by kernel_rfl) ?_
                            clear hS
                            refine RunF.go 6 [0, 1, 6, 17, 18] (k' := (pl Go.Proofs.Try.f19 [1, 1, 1, 0, 1, 0, 0])) (L' := [(0, .slice Ap0 a0.length cp0), (1, .slice Ap1 a1.length cp1), (6, .slice (some ⟨g4, 0, none⟩) (((a0.length : Int)).toNat) (((a0.length : Int) : Int).toNat)), (17, .int .i64 (a0.length : Int)), (18, .int .i64 (I64 (x18_0 + 1)))]) (w' := W20) (by kernel_rfl) ?_
                            exact ih0 k (by omega) (x6_0.set (x18_0 : Int).toNat (bxor .u8 (rd a0 x18_0) (rd a1 x18_0))) (I64 (x18_0 + 1)) _ (hM.pick [0] rfl rfl) h
                          · replace h := of_false h c19
                            cases h
                        · replace h := of_false h c18
                          cases h
                      · replace h := of_false h c16
                        cases h
                    · replace h := of_false h c15
                      cases h
                  · replace h := of_false h c13
                    cases h
                · replace h := of_false h c12
                  cases h
              · replace h := of_false h c8
                refine RunF.know 19 (b := false) (by kernel_rfl) c8 ?_
                refine RunF.go 8 [4, 5] (k' := (pl Go.Proofs.Try.f19 [1, 1, 1, 1, 1])) (L' := [(4, .slice (some ⟨g4, 0, none⟩) (((a0.length : Int)).toNat) (((a0.length : Int) : Int).toNat)), (5, .bool true)]) (w' := W) (by kernel_rfl) ?_
                obtain rfl := Option.some.inj h
                exact RunF.ret2 4 5 (.slice (some ⟨g4, 0, none⟩) (((a0.length : Int)).toNat) (((a0.length : Int) : Int).toNat)) (.bool true) (fn := Go.Proofs.Try.f19) Go.Proofs.Try.func19 (by kernel_rfl) (by kernel_rfl) (by kernel_rfl) (by kernel_rfl) ⟨_, rfl, (some ⟨g4, 0, none⟩), ((a0.length : Int)).toNat, ((a0.length : Int) : Int).toNat, rfl, (hM.pick [0] rfl rfl)⟩
        exact l0 k (Nat.le_refl _) (List.replicate (((a0.length : Int)).toNat) 0) 0 _ (hM.pick [0] rfl rfl) h
      · replace h := of_false h c6
        cases h
    · replace h := of_false h c5
      cases h

/-! ### scrim/scrimref1.Both: function 39 -/
def scrimref1_Both.l0 : Nat → (List Int) → (List Int) → (List Int) → Int → Option (List Int)
  | 0, _, _, _, _ => none
  | k + 1, a0, a1, x5_0, x6_0 => if (decide (x6_0 < (a0.length : Int))) = true then (if (decide (0 ≤ x6_0)) = true then (if (decide (x6_0 < (a0.length : Int))) = true then (if (decide (0 ≤ x6_0)) = true then (if (decide (x6_0 < (a1.length : Int))) = true then (if (decide (0 ≤ x6_0)) = true then (if (decide (x6_0 < (((a0.length : Int)).toNat : Int))) = true then (scrimref1_Both.l0 k a0 a1 (x5_0.set (x6_0 : Int).toNat (bxor .u8 (rd a0 x6_0) (rd a1 x6_0))) (I64 (x6_0 + 1))) else (none)) else (none)) else (none)) else (none)) else (none)) else (none)) else (some x5_0)
def scrimref1_Both.f (k : Nat) (a0 : List Int) (a1 : List Int) : Option (List Int) := if (decide (0 ≤ (a0.length : Int))) = true then (if (decide ((a0.length : Int) ≤ 1000000000)) = true then (scrimref1_Both.l0 k a0 a1 (List.replicate (((a0.length : Int)).toNat) 0) 0) else (none)) else (none)
set_option maxRecDepth 100000 in
theorem scrimref1_Both.calls (k : Nat) (Ap0 : Option Addr) (np0 cp0 : Nat) (a0 : List Int) (Ap1 : Option Addr) (np1 cp1 : Nat) (a1 : List Int) (r : List Int) (w : World) (hr0 : Rd w (.slice Ap0 np0 cp0) (nums .u8 a0)) (hr1 : Rd w (.slice Ap1 np1 cp1) (nums .u8 a1)) (h : scrimref1_Both.f k a0 a1 = some r) :
    Calls Go.Proofs.Try.prog 39 #[(.slice Ap0 np0 cp0), (.slice Ap1 np1 cp1)] w (Ret fun v w' => ∃ A0' n0' c0', v = .slice A0' n0' c0' ∧ Mem w w' [⟨.slice A0' n0' c0', 5, 1, nums .u8 r⟩]) := by
  obtain rfl : a0.length = np0 := by have h_ := hr0.1; simpa [nums_length, bools_length] using h_
  obtain rfl : a1.length = np1 := by have h_ := hr1.1; simpa [nums_length, bools_length] using h_
  unfold scrimref1_Both.f at h
  refine calls_of [.slice Ap0 a0.length cp0, .slice Ap1 a1.length cp1] (fn := Go.Proofs.Try.f39) Go.Proofs.Try.func39 (by kernel_rfl) (by kernel_rfl) ?_
  have hM := Mem.refl w
  refine RunF.go 8 [0, 1, 8] (k' := (pin Go.Proofs.Try.f39 [1, 0] 2)) (L' := [(0, .slice Ap0 a0.length cp0), (1, .slice Ap1 a1.length cp1), (8, .int .i64 (a0.length : Int))]) (w' := w) (by kernel_rfl) ?_
  rcases two (decide (0 ≤ (a0.length : Int))) with c3 | c3
  · replace h := of_true h c3
    rcases two (decide ((a0.length : Int) ≤ 1000000000)) with c4 | c4
    · replace h := of_true h c4
      have := of_decide_eq_true c3
      have := of_decide_eq_true c4
      obtain ⟨W1, hD, hM', hB_⟩ := mk_does (P := Go.Proofs.Try.prog) (n := 29) (k := (pin Go.Proofs.Try.f39 [1, 0] 2)) (L := [(0, .slice Ap0 a0.length cp0), (1, .slice Ap1 a1.length cp1), (8, .int .i64 (a0.length : Int))]) (d := some 9) (e := 5) (z := .int .u8 0) (l := (a0.length : Int)) (c := (a0.length : Int)) (k2 := (pin Go.Proofs.Try.f39 [1, 0] 3)) (by kernel_rfl) (by omega) (by omega) (by omega) hM
      rw [rep_nums] at hM'
      refine RunF.does hD ?_
      replace hM := hM'; clear hD hM'
      generalize w.heap.size = g2 at hM ⊢
      refine RunF.go 9 [0, 1, 5, 6] (k' := (pl Go.Proofs.Try.f39 [1, 1, 0, 1, 0, 0])) (L' := [(0, .slice Ap0 a0.length cp0), (1, .slice Ap1 a1.length cp1), (5, .slice (some ⟨g2, 0, none⟩) (((a0.length : Int)).toNat) (((a0.length : Int) : Int).toNat)), (6, .int .i64 0)]) (w' := W1) (by kernel_rfl) ?_
      have l0 : ∀ (k_ : Nat), k_ ≤ k → ∀ (x5_0 : List Int) (x6_0 : Int) (W : World) (hM : Mem w W [⟨.slice (some ⟨g2, 0, none⟩) (((a0.length : Int)).toNat) (((a0.length : Int) : Int).toNat), 5, 1, nums .u8 x5_0⟩]) (h : scrimref1_Both.l0 k_ a0 a1 x5_0 x6_0 = some r), RunF Go.Proofs.Try.prog (Ret fun v w' => ∃ A0' n0' c0', v = .slice A0' n0' c0' ∧ Mem w w' [⟨.slice A0' n0' c0', 5, 1, nums .u8 r⟩]) 39 (pl Go.Proofs.Try.f39 [1, 1, 0, 1, 0, 0]) 29 [(0, .slice Ap0 a0.length cp0), (1, .slice Ap1 a1.length cp1), (5, .slice (some ⟨g2, 0, none⟩) (((a0.length : Int)).toNat) (((a0.length : Int) : Int).toNat)), (6, .int .i64 x6_0)] W := by
        intro k_
        induction k_ using Nat.strongRecOn with
        | _ k_ ih0 =>
          intro hk x5_0 x6_0 W hM h
          cases k_ with
          | zero => exact absurd h (by simp [scrimref1_Both.l0])
          | succ k =>
            simp only [scrimref1_Both.l0] at h
            replace ih0 : ∀ m, m ≤ k → _ := fun m hm => ih0 m (by omega) (by omega)
            refine RunF.go 8 [0, 1, 5, 6, 13] (k' := (pl Go.Proofs.Try.f39 [1, 1, 0, 1, 0, 0, 0, 1])) (L' := [(0, .slice Ap0 a0.length cp0), (1, .slice Ap1 a1.length cp1), (5, .slice (some ⟨g2, 0, none⟩) (((a0.length : Int)).toNat) (((a0.length : Int) : Int).toNat)), (6, .int .i64 x6_0), (13, .bool (decide (x6_0 < (a0.length : Int))))]) (w' := W) (by kernel_rfl) ?_
            rcases two (decide (x6_0 < (a0.length : Int))) with c6 | c6
            · replace h := of_true h c6
              refine RunF.know 13 (b := true) (by kernel_rfl) c6 ?_
              refine RunF.go 4 [0, 1, 5, 6] (k' := (pl Go.Proofs.Try.f39 [1, 1, 0, 1, 0, 0, 1, 0, 0])) (L' := [(0, .slice Ap0 a0.length cp0), (1, .slice Ap1 a1.length cp1), (5, .slice (some ⟨g2, 0, none⟩) (((a0.length : Int)).toNat) (((a0.length : Int) : Int).toNat)), (6, .int .i64 x6_0)]) (w' := W) (by kernel_rfl) ?_
              refine RunF.draw (Still ({ W with drawn := W.drawn + 1 } : World) [.slice (some ⟨g2, 0, none⟩) (((a0.length : Int)).toNat) (((a0.length : Int) : Int).toNat)]) (by kernel_rfl) (by kernel_rfl) ?_
              have hMd8 := hM.drew
              have hS := Still.refl ({ W with drawn := W.drawn + 1 } : World) [.slice (some ⟨g2, 0, none⟩) (((a0.length : Int)).toNat) (((a0.length : Int) : Int).toNat)]
              generalize ({ W with drawn := W.drawn + 1 } : World) = W7 at hMd8 hS ⊢
              replace hM := hMd8
              refine RunAny.y 0 (by kernel_rfl) (yl_pure (d := some 16) (v := .slice (some ⟨g2, 0, none⟩) (((a0.length : Int)).toNat) (((a0.length : Int) : Int).toNat)) (k2 := [.inRegion (opsOf (pl Go.Proofs.Try.f39 [1, 1, 0, 1, 0, 0, 1, 0, 0])) []]) fun w => by kernel_rfl) (fun _ _ => trivial) hS ?_
              refine RunAny.y 1 (by kernel_rfl) (yl_pure (d := some 17) (v := .int .i64 x6_0) (k2 := [.inRegion (opsOf (pl Go.Proofs.Try.f39 [1, 1, 0, 1, 0, 0, 1, 0, 0])) []]) fun w => by kernel_rfl) (fun _ _ => trivial) hS ?_
              refine RunAny.y 2 (by kernel_rfl) (yl_pure (d := some 18) (v := .slice Ap0 a0.length cp0) (k2 := [.inRegion (opsOf (pl Go.Proofs.Try.f39 [1, 1, 0, 1, 0, 0, 1, 0, 0])) []]) fun w => by kernel_rfl) (fun _ _ => trivial) hS ?_
              refine RunAny.y 3 (by kernel_rfl) (yl_pure (d := some 19) (v := .int .i64 x6_0) (k2 := [.inRegion (opsOf (pl Go.Proofs.Try.f39 [1, 1, 0, 1, 0, 0, 1, 0, 0])) []]) fun w => by kernel_rfl) (fun _ _ => trivial) hS ?_
              rcases two (decide (0 ≤ x6_0)) with c10 | c10
              · replace h := of_true h c10
                rcases two (decide (x6_0 < (a0.length : Int))) with c11 | c11
                · replace h := of_true h c11
                  obtain ⟨q9, hAq9, hiq9⟩ := Rd.num hr0 (i := x6_0) (of_decide_eq_true c10) (by have h_ := of_decide_eq_true c11; omega)
                  have hcq9 := (hM.below.cell (World.block_lt_of_cell? _ _ hiq9)).trans hiq9
                  refine RunAny.y 4 (by kernel_rfl) (idx_y (d := some 20) (A := Ap0) (m := a0.length) (i := x6_0) (k2 := [.inRegion (opsOf (pl Go.Proofs.Try.f39 [1, 1, 0, 1, 0, 0, 1, 0, 0])) []]) (by kernel_rfl) (of_decide_eq_true c10) (by have h_ := of_decide_eq_true c11; omega) hAq9) (fun _ _ => trivial) hS ?_
                  refine RunAny.y 5 (by kernel_rfl) (ld_y (d := some 21) (p := (q9.add (x6_0 : Int).toNat)) (k2 := [.inRegion (opsOf (pl Go.Proofs.Try.f39 [1, 1, 0, 1, 0, 0, 1, 0, 0])) []]) (.int .u8 (rd a0 x6_0)) (by kernel_rfl)) (fun _ hs => hs.cell hcq9 (fun v hv => by rcases List.mem_cons.1 hv with rfl | hv; exact (hM.far hiq9 0 rfl); cases hv)) hS ?_
                  refine RunAny.y 6 (by kernel_rfl) (yl_pure (d := some 22) (v := .slice Ap1 a1.length cp1) (k2 := [.inRegion (opsOf (pl Go.Proofs.Try.f39 [1, 1, 0, 1, 0, 0, 1, 0, 0])) []]) fun w => by kernel_rfl) (fun _ _ => trivial) hS ?_
                  refine RunAny.y 7 (by kernel_rfl) (yl_pure (d := some 23) (v := .int .i64 x6_0) (k2 := [.inRegion (opsOf (pl Go.Proofs.Try.f39 [1, 1, 0, 1, 0, 0, 1, 0, 0])) []]) fun w => by kernel_rfl) (fun _ _ => trivial) hS ?_
                  rcases two (decide (0 ≤ x6_0)) with c13 | c13
                  · replace h := of_true h c13
                    rcases two (decide (x6_0 < (a1.length : Int))) with c14 | c14
                    · replace h := of_true h c14
                      obtain ⟨q12, hAq12, hiq12⟩ := Rd.num hr1 (i := x6_0) (of_decide_eq_true c13) (by have h_ := of_decide_eq_true c14; omega)
                      have hcq12 := (hM.below.cell (World.block_lt_of_cell? _ _ hiq12)).trans hiq12
                      refine RunAny.y 8 (by kernel_rfl) (idx_y (d := some 24) (A := Ap1) (m := a1.length) (i := x6_0) (k2 := [.inRegion (opsOf (pl Go.Proofs.Try.f39 [1, 1, 0, 1, 0, 0, 1, 0, 0])) []]) (by kernel_rfl) (of_decide_eq_true c13) (by have h_ := of_decide_eq_true c14; omega) hAq12) (fun _ _ => trivial) hS ?_
                      refine RunAny.y 9 (by kernel_rfl) (ld_y (d := some 25) (p := (q12.add (x6_0 : Int).toNat)) (k2 := [.inRegion (opsOf (pl Go.Proofs.Try.f39 [1, 1, 0, 1, 0, 0, 1, 0, 0])) []]) (.int .u8 (rd a1 x6_0)) (by kernel_rfl)) (fun _ hs => hs.cell hcq12 (fun v hv => by rcases List.mem_cons.1 hv with rfl | hv; exact (hM.far hiq12 0 rfl); cases hv)) hS ?_
                      refine RunAny.y 10 (by kernel_rfl) (yl_pure (d := some 26) (v := .int .u8 (bxor .u8 (rd a0 x6_0) (rd a1 x6_0))) (k2 := [.inRegion (opsOf (pl Go.Proofs.Try.f39 [1, 1, 0, 1, 0, 0, 1, 0, 0])) []]) fun w => by kernel_rfl) (fun _ _ => trivial) hS ?_
                      rcases two (decide (0 ≤ x6_0)) with c16 | c16
                      · replace h := of_true h c16
                        rcases two (decide (x6_0 < (((a0.length : Int)).toNat : Int))) with c17 | c17
                        · replace h := of_true h c17
                          obtain ⟨q15, hAq15, hcq15, hfq15, hlq15⟩ := hM.num_at 0 rfl (i := x6_0) (of_decide_eq_true c16) (by have h_ := of_decide_eq_true c17; omega)
                          refine RunAny.y 11 (by kernel_rfl) (idx_own (d := some 27) (A := (some ⟨g2, 0, none⟩)) (m := ((a0.length : Int)).toNat) (i := x6_0) (k2 := [.inRegion (opsOf (pl Go.Proofs.Try.f39 [1, 1, 0, 1, 0, 0, 1, 0, 0])) []]) (by kernel_rfl) (of_decide_eq_true c16) (by have h_ := of_decide_eq_true c17; omega) hAq15) (fun _ _ => trivial) hS ?_
                          obtain ⟨g_, hA_, hc_, hf_, hl_⟩ := hM.num_at 0 rfl (i := x6_0) (of_decide_eq_true c16) (by have h_ := of_decide_eq_true c17; omega)
                          obtain rfl : q15 = g_ := by rw [hAq15] at hA_; injection hA_ with hA_; injection hA_
                          have hS' := hS.set (v := .slice (some ⟨g2, 0, none⟩) (((a0.length : Int)).toNat) (((a0.length : Int) : Int).toNat)) (g := q15) (i := (x6_0 : Int).toNat) (by simp) (by rw [hAq15]; rfl) (.int .u8 (bxor .u8 (rd a0 x6_0) (rd a1 x6_0)))
                          refine RunAny.doesU 12 (by kernel_rfl) (st_u (p := (⟨q15, (x6_0 : Int).toNat, none⟩ : Addr)) (v := .int .u8 (bxor .u8 (rd a0 x6_0) (rd a1 x6_0))) (k2 := [.inRegion (opsOf (pl Go.Proofs.Try.f39 [1, 1, 0, 1, 0, 0, 1, 0, 0])) []]) (by kernel_rfl) hc_ hf_) hS' ?_
                          replace hM : Mem w (W7.setCell (⟨q15, (x6_0 : Int).toNat, none⟩ : Addr) (.int .u8 (bxor .u8 (rd a0 x6_0) (rd a1 x6_0)))) [⟨.slice (some ⟨g2, 0, none⟩) (((a0.length : Int)).toNat) (((a0.length : Int) : Int).toNat), 5, 1, nums .u8 (x5_0.set (x6_0 : Int).toNat (bxor .u8 (rd a0 x6_0) (rd a1 x6_0)))⟩] := Mem.put_num [] [] (hM.pick [0] rfl rfl) hAq15 _ hl_ _
                          generalize W7.setCell (⟨q15, (x6_0 : Int).toNat, none⟩ : Addr) (.int .u8 (bxor .u8 (rd a0 x6_0) (rd a1 x6_0))) = W18 at hM hS' ⊢
                          clear hc_ hf_ hl_ hA_ hcq15
                          replace hS := hS'
                          refine RunAny.rebase hS ?_
                          replace hS := Still.refl W18 [.slice (some ⟨g2, 0, none⟩) (((a0.length : Int)).toNat) (((a0.length : Int) : Int).toNat)]
                          refine RunAny.done (by kernel_rfl) ?_
                          clear hS
                          refine RunF.go 7 [0, 1, 5, 6] (k' := (pl Go.Proofs.Try.f39 [1, 1, 0, 1, 0, 0])) (L' := [(0, .slice Ap0 a0.length cp0), (1, .slice Ap1 a1.length cp1), (5, .slice (some ⟨g2, 0, none⟩) (((a0.length : Int)).toNat) (((a0.length : Int) : Int).toNat)), (6, .int .i64 (I64 (x6_0 + 1)))]) (w' := W18) (by kernel_rfl) ?_
                          exact ih0 k (by omega) (x5_0.set (x6_0 : Int).toNat (bxor .u8 (rd a0 x6_0) (rd a1 x6_0))) (I64 (x6_0 + 1)) _ (hM.pick [0] rfl rfl) h
                        · replace h := of_false h c17
                          cases h
                      · replace h := of_false h c16
                        cases h
                    · replace h := of_false h c14
                      cases h
                  · replace h := of_false h c13
                    cases h
                · replace h := of_false h c11
                  cases h
              · replace h := of_false h c10
                cases h
            · replace h := of_false h c6
              refine RunF.know 13 (b := false) (by kernel_rfl) c6 ?_
              refine RunF.go 7 [4] (k' := (pl Go.Proofs.Try.f39 [1, 1, 1, 1])) (L' := [(4, .slice (some ⟨g2, 0, none⟩) (((a0.length : Int)).toNat) (((a0.length : Int) : Int).toNat))]) (w' := W) (by kernel_rfl) ?_
              obtain rfl := Option.some.inj h
              exact RunF.ret1 4 (.slice (some ⟨g2, 0, none⟩) (((a0.length : Int)).toNat) (((a0.length : Int) : Int).toNat)) (fn := Go.Proofs.Try.f39) Go.Proofs.Try.func39 (by kernel_rfl) (by kernel_rfl) (by kernel_rfl) ⟨_, rfl, (some ⟨g2, 0, none⟩), ((a0.length : Int)).toNat, ((a0.length : Int) : Int).toNat, rfl, (hM.pick [0] rfl rfl)⟩
      exact l0 k (Nat.le_refl _) (List.replicate (((a0.length : Int)).toNat) 0) 0 _ (hM.pick [0] rfl rfl) h
    · replace h := of_false h c4
      cases h
  · replace h := of_false h c3
    cases h

/-! ### scrim/scrimref1.Xor: function 20 -/
def scrimref1_Xor.f (k : Nat) (a0 : List Int) (a1 : List Int) : Option (List Int × Bool) := if ((a0.length : Int) != (a1.length : Int)) = true then (some (([] : List Int), false)) else ((scrimref1_Both.f k a0 a1).bind fun t3 => (some (t3, true)))
set_option maxRecDepth 100000 in
theorem scrimref1_Xor.calls (k : Nat) (Ap0 : Option Addr) (np0 cp0 : Nat) (a0 : List Int) (Ap1 : Option Addr) (np1 cp1 : Nat) (a1 : List Int) (r : List Int × Bool) (w : World) (hr0 : Rd w (.slice Ap0 np0 cp0) (nums .u8 a0)) (hr1 : Rd w (.slice Ap1 np1 cp1) (nums .u8 a1)) (h : scrimref1_Xor.f k a0 a1 = some r) :
    Calls Go.Proofs.Try.prog 20 #[(.slice Ap0 np0 cp0), (.slice Ap1 np1 cp1)] w (Ret fun v w' => ∃ A0' n0' c0', v = .tuple #[.slice A0' n0' c0', .bool r.2] ∧ Mem w w' [⟨.slice A0' n0' c0', 5, 1, nums .u8 r.1⟩]) := by
  obtain rfl : a0.length = np0 := by have h_ := hr0.1; simpa [nums_length, bools_length] using h_
  obtain rfl : a1.length = np1 := by have h_ := hr1.1; simpa [nums_length, bools_length] using h_
  unfold scrimref1_Xor.f at h
  refine calls_of [.slice Ap0 a0.length cp0, .slice Ap1 a1.length cp1] (fn := Go.Proofs.Try.f20) Go.Proofs.Try.func20 (by kernel_rfl) (by kernel_rfl) ?_
  have hM := Mem.refl w
  refine RunF.go 14 [0, 1, 10] (k' := (pl Go.Proofs.Try.f20 [1, 0, 1])) (L' := [(0, .slice Ap0 a0.length cp0), (1, .slice Ap1 a1.length cp1), (10, .bool ((a0.length : Int) != (a1.length : Int)))]) (w' := w) (by kernel_rfl) ?_
  rcases two (((a0.length : Int) != (a1.length : Int))) with c1 | c1
  · replace h := of_true h c1
    refine RunF.know 10 (b := true) (by kernel_rfl) c1 ?_
    refine RunF.go 6 [4, 5] (k' := (pl Go.Proofs.Try.f20 [1, 0, 1, 0, 1])) (L' := [(4, .slice none 0 0), (5, .bool false)]) (w' := w) (by kernel_rfl) ?_
    replace hM := hM.nil 5
    obtain rfl := Option.some.inj h
    exact RunF.ret2 4 5 (.slice none 0 0) (.bool false) (fn := Go.Proofs.Try.f20) Go.Proofs.Try.func20 (by kernel_rfl) (by kernel_rfl) (by kernel_rfl) (by kernel_rfl) ⟨_, rfl, none, 0, 0, rfl, (hM.pick [0] rfl rfl)⟩
  · replace h := of_false h c1
    refine RunF.know 10 (b := false) (by kernel_rfl) c1 ?_
    refine RunF.go 6 [11, 12] (k' := (pin Go.Proofs.Try.f20 [1, 1, 0] 2)) (L' := [(11, .slice Ap0 a0.length cp0), (12, .slice Ap1 a1.length cp1)]) (w' := w) (by kernel_rfl) ?_
    obtain ⟨t3, ht3, h⟩ := Option.bind_eq_some_iff.mp h
    refine RunF.call (d := some 13) (g := 39) (args := #[.slice Ap0 a0.length cp0, .slice Ap1 a1.length cp1]) (k2 := (pin Go.Proofs.Try.f20 [1, 1, 0] 3)) (by kernel_rfl) (scrimref1_Both.calls k Ap0 a0.length cp0 a0 Ap1 a1.length cp1 a1 t3 _ (hr0.mono hM.below) (hr1.mono hM.below) ht3) ?_
    rintro _ W4 ⟨A5, n6, c7, rfl, hM_⟩
    obtain rfl : t3.length = n6 := by have h_ := (hM_.rd 0 rfl).1; simpa [nums_length, bools_length] using h_
    replace hM := hM.call hM_
    clear hM_ ht3
    refine RunF.go 3 [4, 5] (k' := (pl Go.Proofs.Try.f20 [1, 1, 1])) (L' := [(4, .slice A5 t3.length c7), (5, .bool true)]) (w' := W4) (by kernel_rfl) ?_
    obtain rfl := Option.some.inj h
    exact RunF.ret2 4 5 (.slice A5 t3.length c7) (.bool true) (fn := Go.Proofs.Try.f20) Go.Proofs.Try.func20 (by kernel_rfl) (by kernel_rfl) (by kernel_rfl) (by kernel_rfl) ⟨_, rfl, A5, t3.length, c7, rfl, (hM.pick [0] rfl rfl)⟩

/-! ### scrim/scrimlaw1.WordsXor: function 5 -/
def scrimlaw1_WordsXor.l0 : Nat → (List Int) → (List Int) → (List Int × Bool) → Int → Option (Bool)
  | 0, _, _, _, _ => none
  | k + 1, a0, a1, t22, x12_0 => (some (decide (x12_0 < (mn (a0.length : Int) (a1.length : Int))) : Bool)).bind fun y48 => (if y48 = true then (if (decide (0 ≤ x12_0)) = true then (if (decide (x12_0 < (t22.1.length : Int))) = true then (if (decide (0 ≤ x12_0)) = true then (if (decide (x12_0 < (a0.length : Int))) = true then (if (decide (0 ≤ x12_0)) = true then (if (decide (x12_0 < (a1.length : Int))) = true then ((some (((rd t22.1 x12_0) != (bxor .u8 (rd a0 x12_0) (rd a1 x12_0))) : Bool)).bind fun y61 => (if y61 = true then (some false) else (scrimlaw1_WordsXor.l0 k a0 a1 t22 (I64 (x12_0 + 1))))) else (none)) else (none)) else (none)) else (none)) else (none)) else (none)) else (if (decide (0 ≤ (mn (a0.length : Int) (a1.length : Int)))) = true then (if (decide ((mn (a0.length : Int) (a1.length : Int)) ≤ (a1.length : Int))) = true then ((words_Xor.f k t22.1 ((a1.take (mn (a0.length : Int) (a1.length : Int) : Int).toNat).drop (0 : Int).toNat)).bind fun t70 => (if t70.2 = true then (if (decide (0 ≤ (mn (a0.length : Int) (a1.length : Int)))) = true then (if (decide ((mn (a0.length : Int) (a1.length : Int)) ≤ (a0.length : Int))) = true then (some ((strOf t70.1).toList == (strOf ((a0.take (mn (a0.length : Int) (a1.length : Int) : Int).toNat).drop (0 : Int).toNat)).toList)) else (none)) else (none)) else (some false))) else (none)) else (none)))
def scrimlaw1_WordsXor.f (k : Nat) (a0 : List Int) (a1 : List Int) : Option (Bool) := (scrimlaw1_known.f k).bind fun t1 => (if (!t1) = true then (some false) else (if (decide ((a0.length : Int) > 200)) = true then (some true) else (if (decide ((a1.length : Int) > 200)) = true then (some true) else (if (decide (0 ≤ (mn (a0.length : Int) (a1.length : Int)))) = true then (if (decide ((mn (a0.length : Int) (a1.length : Int)) ≤ (a0.length : Int))) = true then (if (decide (0 ≤ (mn (a0.length : Int) (a1.length : Int)))) = true then (if (decide ((mn (a0.length : Int) (a1.length : Int)) ≤ (a1.length : Int))) = true then ((words_Xor.f k ((a0.take (mn (a0.length : Int) (a1.length : Int) : Int).toNat).drop (0 : Int).toNat) ((a1.take (mn (a0.length : Int) (a1.length : Int) : Int).toNat).drop (0 : Int).toNat)).bind fun t22 => ((words_Xor.f k a0 a1).bind fun t28 => ((scrimref1_Xor.f k a0 a1).bind fun t34 => (if (!t22.2) = true then (some false) else ((some (((t22.1.length : Int) != (mn (a0.length : Int) (a1.length : Int))) : Bool)).bind fun y41 => (if y41 = true then (some false) else (if (!(t28.2 == t34.2)) = true then (some false) else ((some (!((strOf t28.1).toList == (strOf t34.1).toList) : Bool)).bind fun y44 => (if y44 = true then (some false) else ((some (!(t28.2 == ((a0.length : Int) == (a1.length : Int))) : Bool)).bind fun y46 => (if y46 = true then (some false) else (scrimlaw1_WordsXor.l0 k a0 a1 t22 0)))))))))))) else (none)) else (none)) else (none)) else (none)))))
set_option maxRecDepth 100000 in
theorem scrimlaw1_WordsXor.calls (k : Nat) (Ap0 : Option Addr) (np0 cp0 : Nat) (a0 : List Int) (Ap1 : Option Addr) (np1 cp1 : Nat) (a1 : List Int) (r : Bool) (w : World) (hr0 : Rd w (.slice Ap0 np0 cp0) (nums .u8 a0)) (hr1 : Rd w (.slice Ap1 np1 cp1) (nums .u8 a1)) (h : scrimlaw1_WordsXor.f k a0 a1 = some r) :
    Calls Go.Proofs.Try.prog 5 #[(.slice Ap0 np0 cp0), (.slice Ap1 np1 cp1)] w (Ret fun v w' => v = .bool r ∧ Mem w w' []) := by
  obtain rfl : a0.length = np0 := by have h_ := hr0.1; simpa [nums_length, bools_length] using h_
  obtain rfl : a1.length = np1 := by have h_ := hr1.1; simpa [nums_length, bools_length] using h_
  unfold scrimlaw1_WordsXor.f at h
  refine calls_of [.slice Ap0 a0.length cp0, .slice Ap1 a1.length cp1] (fn := Go.Proofs.Try.f5) Go.Proofs.Try.func5 (by kernel_rfl) (by kernel_rfl) ?_
  have hM := Mem.refl w
  refine RunF.go 7 [0, 1] (k' := (pin Go.Proofs.Try.f5 [1, 0, 0] 0)) (L' := [(0, .slice Ap0 a0.length cp0), (1, .slice Ap1 a1.length cp1)]) (w' := w) (by kernel_rfl) ?_
  obtain ⟨t1, ht1, h⟩ := Option.bind_eq_some_iff.mp h
  refine RunF.call (d := some 15) (g := 14) (args := #[]) (k2 := (pin Go.Proofs.Try.f5 [1, 0, 0] 1)) (by kernel_rfl) (scrimlaw1_known.calls k t1 _ ht1) ?_
  rintro _ W2 ⟨rfl, hM_⟩
  replace hM := hM.call hM_
  clear hM_ ht1
  refine RunF.go 2 [0, 1, 16] (k' := (pl Go.Proofs.Try.f5 [1, 0, 1])) (L' := [(0, .slice Ap0 a0.length cp0), (1, .slice Ap1 a1.length cp1), (16, .bool (!t1))]) (w' := W2) (by kernel_rfl) ?_
  rcases two (!t1) with c3 | c3
  · replace h := of_true h c3
    refine RunF.know 16 (b := true) (by kernel_rfl) c3 ?_
    refine RunF.go 5 [4] (k' := (pl Go.Proofs.Try.f5 [1, 0, 1, 0, 1])) (L' := [(4, .bool false)]) (w' := W2) (by kernel_rfl) ?_
    obtain rfl := Option.some.inj h
    exact RunF.ret1 4 (.bool false) (fn := Go.Proofs.Try.f5) Go.Proofs.Try.func5 (by kernel_rfl) (by kernel_rfl) (by kernel_rfl) ⟨_, rfl, rfl, (hM.pick [] rfl rfl)⟩
  · replace h := of_false h c3
    refine RunF.know 16 (b := false) (by kernel_rfl) c3 ?_
    refine RunF.go 9 [0, 1, 20] (k' := (pin Go.Proofs.Try.f5 [1, 1, 0, 0] 4)) (L' := [(0, .slice Ap0 a0.length cp0), (1, .slice Ap1 a1.length cp1), (20, .bool (decide ((a0.length : Int) > 200)))]) (w' := W2) (by kernel_rfl) ?_
    rcases two (decide ((a0.length : Int) > 200)) with c4 | c4
    · replace h := of_true h c4
      refine RunF.know 20 (b := true) (by kernel_rfl) c4 ?_
      refine RunF.go 10 [4] (k' := (pl Go.Proofs.Try.f5 [1, 1, 0, 1, 0, 1])) (L' := [(4, .bool true)]) (w' := W2) (by kernel_rfl) ?_
      obtain rfl := Option.some.inj h
      exact RunF.ret1 4 (.bool true) (fn := Go.Proofs.Try.f5) Go.Proofs.Try.func5 (by kernel_rfl) (by kernel_rfl) (by kernel_rfl) ⟨_, rfl, rfl, (hM.pick [] rfl rfl)⟩
    · replace h := of_false h c4
      refine RunF.know 20 (b := false) (by kernel_rfl) c4 ?_
      refine RunF.go 5 [0, 1, 24] (k' := (pl Go.Proofs.Try.f5 [1, 1, 0, 1])) (L' := [(0, .slice Ap0 a0.length cp0), (1, .slice Ap1 a1.length cp1), (24, .bool (decide ((a1.length : Int) > 200)))]) (w' := W2) (by kernel_rfl) ?_
      rcases two (decide ((a1.length : Int) > 200)) with c5 | c5
      · replace h := of_true h c5
        refine RunF.know 24 (b := true) (by kernel_rfl) c5 ?_
        refine RunF.go 5 [4] (k' := (pl Go.Proofs.Try.f5 [1, 1, 0, 1, 0, 1])) (L' := [(4, .bool true)]) (w' := W2) (by kernel_rfl) ?_
        obtain rfl := Option.some.inj h
        exact RunF.ret1 4 (.bool true) (fn := Go.Proofs.Try.f5) Go.Proofs.Try.func5 (by kernel_rfl) (by kernel_rfl) (by kernel_rfl) ⟨_, rfl, rfl, (hM.pick [] rfl rfl)⟩
      · replace h := of_false h c5
        refine RunF.know 24 (b := false) (by kernel_rfl) c5 ?_
        refine RunF.go 12 [0, 1, 5] (k' := (pl Go.Proofs.Try.f5 [1, 1, 1, 1, 0])) (L' := [(0, .slice Ap0 a0.length cp0), (1, .slice Ap1 a1.length cp1), (5, .int .i64 (mn (a0.length : Int) (a1.length : Int)))]) (w' := W2) (by kernel_rfl) ?_
        refine RunF.draw (Still ({ W2 with drawn := W2.drawn + 1 } : World) []) (by kernel_rfl) (by kernel_rfl) ?_
        have hMd7 := hM.drew
        have hS := Still.refl ({ W2 with drawn := W2.drawn + 1 } : World) []
        generalize ({ W2 with drawn := W2.drawn + 1 } : World) = W6 at hMd7 hS ⊢
        replace hM := hMd7
        refine RunAny.y 0 (by kernel_rfl) (yl_pure (d := some 31) (v := .slice Ap0 a0.length cp0) (k2 := [.inRegion (opsOf (pl Go.Proofs.Try.f5 [1, 1, 1, 1, 0])) []]) fun w => by kernel_rfl) (fun _ _ => trivial) hS ?_
        refine RunAny.y 1 (by kernel_rfl) (yl_pure (d := some 32) (v := .int .i64 (mn (a0.length : Int) (a1.length : Int))) (k2 := [.inRegion (opsOf (pl Go.Proofs.Try.f5 [1, 1, 1, 1, 0])) []]) fun w => by kernel_rfl) (fun _ _ => trivial) hS ?_
        rcases two (decide (0 ≤ (mn (a0.length : Int) (a1.length : Int)))) with c8 | c8
        · replace h := of_true h c8
          rcases two (decide ((mn (a0.length : Int) (a1.length : Int)) ≤ (a0.length : Int))) with c9 | c9
          · replace h := of_true h c9
            have zc8 := of_decide_eq_true c8
            have zc9 := of_decide_eq_true c9
            obtain ⟨A10, n11, c12, hy13, rfl, hs14⟩ := cut (P := Go.Proofs.Try.prog) (n := 118) (k := (one (opsOf (pl Go.Proofs.Try.f5 [1, 1, 1, 1, 0])) 2)) (L := (upd (upd [(0, .slice Ap0 a0.length cp0), (1, .slice Ap1 a1.length cp1), (5, .int .i64 (mn (a0.length : Int) (a1.length : Int)))] (some 31) (.slice Ap0 a0.length cp0)) (some 32) (.int .i64 (mn (a0.length : Int) (a1.length : Int))))) (d := some 33) (A := Ap0) (m := a0.length) (c := cp0) (l := 0) (h := mn (a0.length : Int) (a1.length : Int)) (k2 := [.inRegion (opsOf (pl Go.Proofs.Try.f5 [1, 1, 1, 1, 0])) []]) .u8 a0 (by kernel_rfl) (by omega) (by omega) (by omega) (hr0.mono hM.below)
            clear zc8
            clear zc9
            refine RunAny.y 2 (by kernel_rfl) hy13 (fun _ _ => trivial) hS ?_
            refine RunAny.y 3 (by kernel_rfl) (yl_pure (d := some 34) (v := .slice Ap1 a1.length cp1) (k2 := [.inRegion (opsOf (pl Go.Proofs.Try.f5 [1, 1, 1, 1, 0])) []]) fun w => by kernel_rfl) (fun _ _ => trivial) hS ?_
            refine RunAny.y 4 (by kernel_rfl) (yl_pure (d := some 35) (v := .int .i64 (mn (a0.length : Int) (a1.length : Int))) (k2 := [.inRegion (opsOf (pl Go.Proofs.Try.f5 [1, 1, 1, 1, 0])) []]) fun w => by kernel_rfl) (fun _ _ => trivial) hS ?_
            rcases two (decide (0 ≤ (mn (a0.length : Int) (a1.length : Int)))) with c15 | c15
            · replace h := of_true h c15
              rcases two (decide ((mn (a0.length : Int) (a1.length : Int)) ≤ (a1.length : Int))) with c16 | c16
              · replace h := of_true h c16
                have zc15 := of_decide_eq_true c15
                have zc16 := of_decide_eq_true c16
                obtain ⟨A17, n18, c19, hy20, rfl, hs21⟩ := cut (P := Go.Proofs.Try.prog) (n := 118) (k := (one (opsOf (pl Go.Proofs.Try.f5 [1, 1, 1, 1, 0])) 5)) (L := (upd (upd (upd (upd (upd [(0, .slice Ap0 a0.length cp0), (1, .slice Ap1 a1.length cp1), (5, .int .i64 (mn (a0.length : Int) (a1.length : Int)))] (some 31) (.slice Ap0 a0.length cp0)) (some 32) (.int .i64 (mn (a0.length : Int) (a1.length : Int)))) (some 33) (.slice A10 (((a0.take (mn (a0.length : Int) (a1.length : Int) : Int).toNat).drop (0 : Int).toNat).length) c12)) (some 34) (.slice Ap1 a1.length cp1)) (some 35) (.int .i64 (mn (a0.length : Int) (a1.length : Int))))) (d := some 36) (A := Ap1) (m := a1.length) (c := cp1) (l := 0) (h := mn (a0.length : Int) (a1.length : Int)) (k2 := [.inRegion (opsOf (pl Go.Proofs.Try.f5 [1, 1, 1, 1, 0])) []]) .u8 a1 (by kernel_rfl) (by omega) (by omega) (by omega) (hr1.mono hM.below)
                clear zc15
                clear zc16
                refine RunAny.y 5 (by kernel_rfl) hy20 (fun _ _ => trivial) hS ?_
                obtain ⟨t22, ht22, h⟩ := Option.bind_eq_some_iff.mp h
                refine RunAny.call 6 (d := some 37) (g := 19) (args := #[.slice A10 (((a0.take (mn (a0.length : Int) (a1.length : Int) : Int).toNat).drop (0 : Int).toNat).length) c12, .slice A17 (((a1.take (mn (a0.length : Int) (a1.length : Int) : Int).toNat).drop (0 : Int).toNat).length) c19]) (by kernel_rfl) (by kernel_rfl) (words_Xor.calls k A10 (((a0.take (mn (a0.length : Int) (a1.length : Int) : Int).toNat).drop (0 : Int).toNat).length) c12 ((a0.take (mn (a0.length : Int) (a1.length : Int) : Int).toNat).drop (0 : Int).toNat) A17 (((a1.take (mn (a0.length : Int) (a1.length : Int) : Int).toNat).drop (0 : Int).toNat).length) c19 ((a1.take (mn (a0.length : Int) (a1.length : Int) : Int).toNat).drop (0 : Int).toNat) t22 _ (hs14 _ (hr0.mono hM.below)) (hs21 _ (hr1.mono hM.below)) ht22) (by rintro _ _ ⟨_, _, _, rfl, hM_⟩; exact hS.below hM_.below) ?_
                rintro _ W23 ⟨A24, n25, c26, rfl, hM_⟩
                obtain rfl : t22.1.length = n25 := by have h_ := (hM_.rd 0 rfl).1; simpa [nums_length, bools_length] using h_
                replace hS := hS.below hM_.below
                replace hM := hM.call hM_
                clear hM_ ht22
                refine RunAny.rebase hS ?_
                replace hS := Still.refl W23 []
                refine RunAny.y 7 (by kernel_rfl) (yl_pure (d := some 30) (v := .tuple #[.slice A24 t22.1.length c26, .bool t22.2]) (k2 := [.inRegion (opsOf (pl Go.Proofs.Try.f5 [1, 1, 1, 1, 0])) []]) fun w => by kernel_rfl) (fun _ _ => trivial) hS ?_
                refine RunAny.y 8 (by kernel_rfl) (yl_pure (d := some 38) (v := .slice A24 t22.1.length c26) (k2 := [.inRegion (opsOf (pl Go.Proofs.Try.f5 [1, 1, 1, 1, 0])) []]) fun w => by kernel_rfl) (fun _ _ => trivial) hS ?_
                refine RunAny.y 9 (by kernel_rfl) (yl_pure (d := some 39) (v := .bool t22.2) (k2 := [.inRegion (opsOf (pl Go.Proofs.Try.f5 [1, 1, 1, 1, 0])) []]) fun w => by kernel_rfl) (fun _ _ => trivial) hS ?_
                refine RunAny.y 10 (by kernel_rfl) (yl_pure (d := some 6) (v := .slice A24 t22.1.length c26) (k2 := [.inRegion (opsOf (pl Go.Proofs.Try.f5 [1, 1, 1, 1, 0])) []]) fun w => by kernel_rfl) (fun _ _ => trivial) hS ?_
                refine RunAny.y 11 (by kernel_rfl) (yl_pure (d := some 7) (v := .bool t22.2) (k2 := [.inRegion (opsOf (pl Go.Proofs.Try.f5 [1, 1, 1, 1, 0])) []]) fun w => by kernel_rfl) (fun _ _ => trivial) hS ?_
                refine RunAny.done (by kernel_rfl) ?_
                clear hS
                refine RunF.go 4 [0, 1, 5, 6, 7, 41, 42] (k' := (pin Go.Proofs.Try.f5 [1, 1, 1, 1, 1, 0] 2)) (L' := [(0, .slice Ap0 a0.length cp0), (1, .slice Ap1 a1.length cp1), (5, .int .i64 (mn (a0.length : Int) (a1.length : Int))), (6, .slice A24 t22.1.length c26), (7, .bool t22.2), (41, .slice Ap0 a0.length cp0), (42, .slice Ap1 a1.length cp1)]) (w' := W23) (by kernel_rfl) ?_
                obtain ⟨t28, ht28, h⟩ := Option.bind_eq_some_iff.mp h
                refine RunF.call (d := some 43) (g := 19) (args := #[.slice Ap0 a0.length cp0, .slice Ap1 a1.length cp1]) (k2 := (pin Go.Proofs.Try.f5 [1, 1, 1, 1, 1, 0] 3)) (by kernel_rfl) (words_Xor.calls k Ap0 a0.length cp0 a0 Ap1 a1.length cp1 a1 t28 _ (hr0.mono hM.below) (hr1.mono hM.below) ht28) ?_
                rintro _ W29 ⟨A30, n31, c32, rfl, hM_⟩
                obtain rfl : t28.1.length = n31 := by have h_ := (hM_.rd 0 rfl).1; simpa [nums_length, bools_length] using h_
                replace hM := hM.call hM_
                clear hM_ ht28
                refine RunF.go 10 [0, 1, 5, 6, 7, 8, 9, 47, 48] (k' := (pin Go.Proofs.Try.f5 [1, 1, 1, 1, 1, 1, 0] 2)) (L' := [(0, .slice Ap0 a0.length cp0), (1, .slice Ap1 a1.length cp1), (5, .int .i64 (mn (a0.length : Int) (a1.length : Int))), (6, .slice A24 t22.1.length c26), (7, .bool t22.2), (8, .slice A30 t28.1.length c32), (9, .bool t28.2), (47, .slice Ap0 a0.length cp0), (48, .slice Ap1 a1.length cp1)]) (w' := W29) (by kernel_rfl) ?_
                obtain ⟨t34, ht34, h⟩ := Option.bind_eq_some_iff.mp h
                refine RunF.call (d := some 49) (g := 20) (args := #[.slice Ap0 a0.length cp0, .slice Ap1 a1.length cp1]) (k2 := (pin Go.Proofs.Try.f5 [1, 1, 1, 1, 1, 1, 0] 3)) (by kernel_rfl) (scrimref1_Xor.calls k Ap0 a0.length cp0 a0 Ap1 a1.length cp1 a1 t34 _ (hr0.mono hM.below) (hr1.mono hM.below) ht34) ?_
                rintro _ W35 ⟨A36, n37, c38, rfl, hM_⟩
                obtain rfl : t34.1.length = n37 := by have h_ := (hM_.rd 0 rfl).1; simpa [nums_length, bools_length] using h_
                replace hM := hM.call hM_
                clear hM_ ht34
                refine RunF.go 12 [0, 1, 5, 6, 8, 9, 10, 11, 54] (k' := (pin Go.Proofs.Try.f5 [1, 1, 1, 1, 1, 1, 1, 0, 0] 3)) (L' := [(0, .slice Ap0 a0.length cp0), (1, .slice Ap1 a1.length cp1), (5, .int .i64 (mn (a0.length : Int) (a1.length : Int))), (6, .slice A24 t22.1.length c26), (8, .slice A30 t28.1.length c32), (9, .bool t28.2), (10, .slice A36 t34.1.length c38), (11, .bool t34.2), (54, .bool (!t22.2))]) (w' := W35) (by kernel_rfl) ?_
                rcases two (!t22.2) with c40 | c40
                · replace h := of_true h c40
                  refine RunF.know 54 (b := true) (by kernel_rfl) c40 ?_
                  refine RunF.go 32 [4] (k' := (pl Go.Proofs.Try.f5 [1, 1, 1, 1, 1, 1, 1, 0, 1, 0, 1])) (L' := [(4, .bool false)]) (w' := W35) (by kernel_rfl) ?_
                  obtain rfl := Option.some.inj h
                  exact RunF.ret1 4 (.bool false) (fn := Go.Proofs.Try.f5) Go.Proofs.Try.func5 (by kernel_rfl) (by kernel_rfl) (by kernel_rfl) ⟨_, rfl, rfl, (hM.pick [] rfl rfl)⟩
                · replace h := of_false h c40
                  refine RunF.know 54 (b := false) (by kernel_rfl) c40 ?_
                  refine RunF.go 6 [0, 1, 5, 6, 8, 9, 10, 11, 60] (k' := (pin Go.Proofs.Try.f5 [1, 1, 1, 1, 1, 1, 1, 0, 0] 9)) (L' := [(0, .slice Ap0 a0.length cp0), (1, .slice Ap1 a1.length cp1), (5, .int .i64 (mn (a0.length : Int) (a1.length : Int))), (6, .slice A24 t22.1.length c26), (8, .slice A30 t28.1.length c32), (9, .bool t28.2), (10, .slice A36 t34.1.length c38), (11, .bool t34.2), (60, .bool ((t22.1.length : Int) != (mn (a0.length : Int) (a1.length : Int))))]) (w' := W35) (by kernel_rfl) ?_
                  obtain ⟨y41, hy, h⟩ := Option.bind_eq_some_iff.mp h
                  rw [show (((t22.1.length : Int) != (mn (a0.length : Int) (a1.length : Int)))) = y41 from Option.some.inj hy]
                  clear hy
                  rcases two (y41) with c42 | c42
                  · replace h := of_true h c42
                    refine RunF.know 60 (b := true) (by kernel_rfl) c42 ?_
                    refine RunF.go 26 [4] (k' := (pl Go.Proofs.Try.f5 [1, 1, 1, 1, 1, 1, 1, 0, 1, 0, 1])) (L' := [(4, .bool false)]) (w' := W35) (by kernel_rfl) ?_
                    obtain rfl := Option.some.inj h
                    exact RunF.ret1 4 (.bool false) (fn := Go.Proofs.Try.f5) Go.Proofs.Try.func5 (by kernel_rfl) (by kernel_rfl) (by kernel_rfl) ⟨_, rfl, rfl, (hM.pick [] rfl rfl)⟩
                  · replace h := of_false h c42
                    refine RunF.know 60 (b := false) (by kernel_rfl) c42 ?_
                    refine RunF.go 5 [0, 1, 5, 6, 8, 9, 10, 65] (k' := (pin Go.Proofs.Try.f5 [1, 1, 1, 1, 1, 1, 1, 0, 0] 14)) (L' := [(0, .slice Ap0 a0.length cp0), (1, .slice Ap1 a1.length cp1), (5, .int .i64 (mn (a0.length : Int) (a1.length : Int))), (6, .slice A24 t22.1.length c26), (8, .slice A30 t28.1.length c32), (9, .bool t28.2), (10, .slice A36 t34.1.length c38), (65, .bool (!(t28.2 == t34.2)))]) (w' := W35) (by kernel_rfl) ?_
                    rcases two (!(t28.2 == t34.2)) with c43 | c43
                    · replace h := of_true h c43
                      refine RunF.know 65 (b := true) (by kernel_rfl) c43 ?_
                      refine RunF.go 21 [4] (k' := (pl Go.Proofs.Try.f5 [1, 1, 1, 1, 1, 1, 1, 0, 1, 0, 1])) (L' := [(4, .bool false)]) (w' := W35) (by kernel_rfl) ?_
                      obtain rfl := Option.some.inj h
                      exact RunF.ret1 4 (.bool false) (fn := Go.Proofs.Try.f5) Go.Proofs.Try.func5 (by kernel_rfl) (by kernel_rfl) (by kernel_rfl) ⟨_, rfl, rfl, (hM.pick [] rfl rfl)⟩
                    · replace h := of_false h c43
                      refine RunF.know 65 (b := false) (by kernel_rfl) c43 ?_
                      refine RunF.go 1 [0, 1, 5, 6, 9, 10, 65, 66] (k' := (pin Go.Proofs.Try.f5 [1, 1, 1, 1, 1, 1, 1, 0, 0] 15)) (L' := [(0, .slice Ap0 a0.length cp0), (1, .slice Ap1 a1.length cp1), (5, .int .i64 (mn (a0.length : Int) (a1.length : Int))), (6, .slice A24 t22.1.length c26), (9, .bool t28.2), (10, .slice A36 t34.1.length c38), (65, .bool false), (66, .slice A30 t28.1.length c32)]) (w' := W35) (by kernel_rfl) ?_
                      refine RunF.y (str_y (d := some 67) (A := A30) (m := t28.1.length) (c := c32) (k2 := (pin Go.Proofs.Try.f5 [1, 1, 1, 1, 1, 1, 1, 0, 0] 16)) t28.1 (by kernel_rfl)) (hM.rd 1 rfl) ?_
                      refine RunF.go 1 [0, 1, 5, 6, 9, 65, 67, 68] (k' := (pin Go.Proofs.Try.f5 [1, 1, 1, 1, 1, 1, 1, 0, 0] 17)) (L' := [(0, .slice Ap0 a0.length cp0), (1, .slice Ap1 a1.length cp1), (5, .int .i64 (mn (a0.length : Int) (a1.length : Int))), (6, .slice A24 t22.1.length c26), (9, .bool t28.2), (65, .bool false), (67, .string (strOf t28.1)), (68, .slice A36 t34.1.length c38)]) (w' := W35) (by kernel_rfl) ?_
                      refine RunF.y (str_y (d := some 69) (A := A36) (m := t34.1.length) (c := c38) (k2 := (pin Go.Proofs.Try.f5 [1, 1, 1, 1, 1, 1, 1, 0, 0] 18)) t34.1 (by kernel_rfl)) (hM.rd 0 rfl) ?_
                      refine RunF.go 3 [0, 1, 5, 6, 9, 72] (k' := (pin Go.Proofs.Try.f5 [1, 1, 1, 1, 1, 1, 1, 0, 0] 21)) (L' := [(0, .slice Ap0 a0.length cp0), (1, .slice Ap1 a1.length cp1), (5, .int .i64 (mn (a0.length : Int) (a1.length : Int))), (6, .slice A24 t22.1.length c26), (9, .bool t28.2), (72, .bool (!((strOf t28.1).toList == (strOf t34.1).toList)))]) (w' := W35) (by kernel_rfl) ?_
                      obtain ⟨y44, hy, h⟩ := Option.bind_eq_some_iff.mp h
                      rw [show (!((strOf t28.1).toList == (strOf t34.1).toList)) = y44 from Option.some.inj hy]
                      clear hy
                      rcases two (y44) with c45 | c45
                      · replace h := of_true h c45
                        refine RunF.know 72 (b := true) (by kernel_rfl) c45 ?_
                        refine RunF.go 14 [4] (k' := (pl Go.Proofs.Try.f5 [1, 1, 1, 1, 1, 1, 1, 0, 1, 0, 1])) (L' := [(4, .bool false)]) (w' := W35) (by kernel_rfl) ?_
                        obtain rfl := Option.some.inj h
                        exact RunF.ret1 4 (.bool false) (fn := Go.Proofs.Try.f5) Go.Proofs.Try.func5 (by kernel_rfl) (by kernel_rfl) (by kernel_rfl) ⟨_, rfl, rfl, (hM.pick [] rfl rfl)⟩
                      · replace h := of_false h c45
                        refine RunF.know 72 (b := false) (by kernel_rfl) c45 ?_
                        refine RunF.go 9 [0, 1, 5, 6, 80] (k' := (pl Go.Proofs.Try.f5 [1, 1, 1, 1, 1, 1, 1, 0, 1])) (L' := [(0, .slice Ap0 a0.length cp0), (1, .slice Ap1 a1.length cp1), (5, .int .i64 (mn (a0.length : Int) (a1.length : Int))), (6, .slice A24 t22.1.length c26), (80, .bool (!(t28.2 == ((a0.length : Int) == (a1.length : Int)))))]) (w' := W35) (by kernel_rfl) ?_
                        obtain ⟨y46, hy, h⟩ := Option.bind_eq_some_iff.mp h
                        rw [show (!(t28.2 == ((a0.length : Int) == (a1.length : Int)))) = y46 from Option.some.inj hy]
                        clear hy
                        rcases two (y46) with c47 | c47
                        · replace h := of_true h c47
                          refine RunF.know 80 (b := true) (by kernel_rfl) c47 ?_
                          refine RunF.go 5 [4] (k' := (pl Go.Proofs.Try.f5 [1, 1, 1, 1, 1, 1, 1, 0, 1, 0, 1])) (L' := [(4, .bool false)]) (w' := W35) (by kernel_rfl) ?_
                          obtain rfl := Option.some.inj h
                          exact RunF.ret1 4 (.bool false) (fn := Go.Proofs.Try.f5) Go.Proofs.Try.func5 (by kernel_rfl) (by kernel_rfl) (by kernel_rfl) ⟨_, rfl, rfl, (hM.pick [] rfl rfl)⟩
                        · replace h := of_false h c47
                          refine RunF.know 80 (b := false) (by kernel_rfl) c47 ?_
                          refine RunF.go 9 [0, 1, 5, 6, 12] (k' := (pl Go.Proofs.Try.f5 [1, 1, 1, 1, 1, 1, 1, 1, 0, 1, 0, 0])) (L' := [(0, .slice Ap0 a0.length cp0), (1, .slice Ap1 a1.length cp1), (5, .int .i64 (mn (a0.length : Int) (a1.length : Int))), (6, .slice A24 t22.1.length c26), (12, .int .i64 0)]) (w' := W35) (by kernel_rfl) ?_
                          have l0 : ∀ (k_ : Nat), k_ ≤ k → ∀ (x12_0 : Int) (W : World) (hM : Mem w W [⟨.slice A24 t22.1.length c26, 5, 1, nums .u8 t22.1⟩]) (h : scrimlaw1_WordsXor.l0 k_ a0 a1 t22 x12_0 = some r), RunF Go.Proofs.Try.prog (Ret fun v w' => v = .bool r ∧ Mem w w' []) 5 (pl Go.Proofs.Try.f5 [1, 1, 1, 1, 1, 1, 1, 1, 0, 1, 0, 0]) 118 [(0, .slice Ap0 a0.length cp0), (1, .slice Ap1 a1.length cp1), (5, .int .i64 (mn (a0.length : Int) (a1.length : Int))), (6, .slice A24 t22.1.length c26), (12, .int .i64 x12_0)] W := by
                            intro k_
                            induction k_ using Nat.strongRecOn with
                            | _ k_ ih0 =>
                              intro hk x12_0 W hM h
                              cases k_ with
                              | zero => exact absurd h (by simp [scrimlaw1_WordsXor.l0])
                              | succ k =>
                                simp only [scrimlaw1_WordsXor.l0] at h
                                replace ih0 : ∀ m, m ≤ k → _ := fun m hm => ih0 m (by omega) (by omega)
                                refine RunF.go 7 [0, 1, 5, 6, 12, 83] (k' := (pl Go.Proofs.Try.f5 [1, 1, 1, 1, 1, 1, 1, 1, 0, 1, 0, 0, 0, 1])) (L' := [(0, .slice Ap0 a0.length cp0), (1, .slice Ap1 a1.length cp1), (5, .int .i64 (mn (a0.length : Int) (a1.length : Int))), (6, .slice A24 t22.1.length c26), (12, .int .i64 x12_0), (83, .bool (decide (x12_0 < (mn (a0.length : Int) (a1.length : Int)))))]) (w' := W) (by kernel_rfl) ?_
                                obtain ⟨y48, hy, h⟩ := Option.bind_eq_some_iff.mp h
                                rw [show (decide (x12_0 < (mn (a0.length : Int) (a1.length : Int)))) = y48 from Option.some.inj hy]
                                clear hy
                                rcases two (y48) with c49 | c49
                                · replace h := of_true h c49
                                  refine RunF.know 83 (b := true) (by kernel_rfl) c49 ?_
                                  refine RunF.go 5 [0, 1, 5, 6, 12] (k' := (pl Go.Proofs.Try.f5 [1, 1, 1, 1, 1, 1, 1, 1, 0, 1, 0, 0, 1, 0, 0, 0])) (L' := [(0, .slice Ap0 a0.length cp0), (1, .slice Ap1 a1.length cp1), (5, .int .i64 (mn (a0.length : Int) (a1.length : Int))), (6, .slice A24 t22.1.length c26), (12, .int .i64 x12_0)]) (w' := W) (by kernel_rfl) ?_
                                  refine RunF.draw (Still ({ W with drawn := W.drawn + 1 } : World) []) (by kernel_rfl) (by kernel_rfl) ?_
                                  have hMd51 := hM.drew
                                  have hS := Still.refl ({ W with drawn := W.drawn + 1 } : World) []
                                  generalize ({ W with drawn := W.drawn + 1 } : World) = W50 at hMd51 hS ⊢
                                  replace hM := hMd51
                                  refine RunAny.y 0 (by kernel_rfl) (yl_pure (d := some 86) (v := .slice A24 t22.1.length c26) (k2 := [.inRegion (opsOf (pl Go.Proofs.Try.f5 [1, 1, 1, 1, 1, 1, 1, 1, 0, 1, 0, 0, 1, 0, 0, 0])) []]) fun w => by kernel_rfl) (fun _ _ => trivial) hS ?_
                                  refine RunAny.y 1 (by kernel_rfl) (yl_pure (d := some 87) (v := .int .i64 x12_0) (k2 := [.inRegion (opsOf (pl Go.Proofs.Try.f5 [1, 1, 1, 1, 1, 1, 1, 1, 0, 1, 0, 0, 1, 0, 0, 0])) []]) fun w => by kernel_rfl) (fun _ _ => trivial) hS ?_
                                  rcases two (decide (0 ≤ x12_0)) with c53 | c53
                                  · replace h := of_true h c53
                                    rcases two (decide (x12_0 < (t22.1.length : Int))) with c54 | c54
                                    · replace h := of_true h c54
                                      obtain ⟨q52, hAq52, hcq52, hfq52, hlq52⟩ := hM.num_at 0 rfl (i := x12_0) (of_decide_eq_true c53) (by have h_ := of_decide_eq_true c54; omega)
                                      refine RunAny.y 2 (by kernel_rfl) (idx_own (d := some 88) (A := A24) (m := t22.1.length) (i := x12_0) (k2 := [.inRegion (opsOf (pl Go.Proofs.Try.f5 [1, 1, 1, 1, 1, 1, 1, 1, 0, 1, 0, 0, 1, 0, 0, 0])) []]) (by kernel_rfl) (of_decide_eq_true c53) (by have h_ := of_decide_eq_true c54; omega) hAq52) (fun _ _ => trivial) hS ?_
                                      refine RunAny.y 3 (by kernel_rfl) (ld_y (d := some 89) (p := ⟨q52, (x12_0 : Int).toNat, none⟩) (k2 := [.inRegion (opsOf (pl Go.Proofs.Try.f5 [1, 1, 1, 1, 1, 1, 1, 1, 0, 1, 0, 0, 1, 0, 0, 0])) []]) (.int .u8 (rd t22.1 x12_0)) (by kernel_rfl)) (fun _ hs => hs.cell hcq52 (by simp)) hS ?_
                                      refine RunAny.y 4 (by kernel_rfl) (yl_pure (d := some 90) (v := .slice Ap0 a0.length cp0) (k2 := [.inRegion (opsOf (pl Go.Proofs.Try.f5 [1, 1, 1, 1, 1, 1, 1, 1, 0, 1, 0, 0, 1, 0, 0, 0])) []]) fun w => by kernel_rfl) (fun _ _ => trivial) hS ?_
                                      refine RunAny.y 5 (by kernel_rfl) (yl_pure (d := some 91) (v := .int .i64 x12_0) (k2 := [.inRegion (opsOf (pl Go.Proofs.Try.f5 [1, 1, 1, 1, 1, 1, 1, 1, 0, 1, 0, 0, 1, 0, 0, 0])) []]) fun w => by kernel_rfl) (fun _ _ => trivial) hS ?_
                                      rcases two (decide (0 ≤ x12_0)) with c56 | c56
                                      · replace h := of_true h c56
                                        rcases two (decide (x12_0 < (a0.length : Int))) with c57 | c57
                                        · replace h := of_true h c57
                                          obtain ⟨q55, hAq55, hcq55⟩ := Rd.num (hr0.mono hM.below) (i := x12_0) (of_decide_eq_true c56) (by have h_ := of_decide_eq_true c57; omega)
                                          refine RunAny.y 6 (by kernel_rfl) (idx_y (d := some 92) (A := Ap0) (m := a0.length) (i := x12_0) (k2 := [.inRegion (opsOf (pl Go.Proofs.Try.f5 [1, 1, 1, 1, 1, 1, 1, 1, 0, 1, 0, 0, 1, 0, 0, 0])) []]) (by kernel_rfl) (of_decide_eq_true c56) (by have h_ := of_decide_eq_true c57; omega) hAq55) (fun _ _ => trivial) hS ?_
                                          refine RunAny.y 7 (by kernel_rfl) (ld_y (d := some 93) (p := (q55.add (x12_0 : Int).toNat)) (k2 := [.inRegion (opsOf (pl Go.Proofs.Try.f5 [1, 1, 1, 1, 1, 1, 1, 1, 0, 1, 0, 0, 1, 0, 0, 0])) []]) (.int .u8 (rd a0 x12_0)) (by kernel_rfl)) (fun _ hs => hs.cell hcq55 (by simp)) hS ?_
                                          refine RunAny.y 8 (by kernel_rfl) (yl_pure (d := some 94) (v := .slice Ap1 a1.length cp1) (k2 := [.inRegion (opsOf (pl Go.Proofs.Try.f5 [1, 1, 1, 1, 1, 1, 1, 1, 0, 1, 0, 0, 1, 0, 0, 0])) []]) fun w => by kernel_rfl) (fun _ _ => trivial) hS ?_
                                          refine RunAny.y 9 (by kernel_rfl) (yl_pure (d := some 95) (v := .int .i64 x12_0) (k2 := [.inRegion (opsOf (pl Go.Proofs.Try.f5 [1, 1, 1, 1, 1, 1, 1, 1, 0, 1, 0, 0, 1, 0, 0, 0])) []]) fun w => by kernel_rfl) (fun _ _ => trivial) hS ?_
                                          rcases two (decide (0 ≤ x12_0)) with c59 | c59
                                          · replace h := of_true h c59
                                            rcases two (decide (x12_0 < (a1.length : Int))) with c60 | c60
                                            · replace h := of_true h c60
                                              obtain ⟨q58, hAq58, hcq58⟩ := Rd.num (hr1.mono hM.below) (i := x12_0) (of_decide_eq_true c59) (by have h_ := of_decide_eq_true c60; omega)
                                              refine RunAny.y 10 (by kernel_rfl) (idx_y (d := some 96) (A := Ap1) (m := a1.length) (i := x12_0) (k2 := [.inRegion (opsOf (pl Go.Proofs.Try.f5 [1, 1, 1, 1, 1, 1, 1, 1, 0, 1, 0, 0, 1, 0, 0, 0])) []]) (by kernel_rfl) (of_decide_eq_true c59) (by have h_ := of_decide_eq_true c60; omega) hAq58) (fun _ _ => trivial) hS ?_
                                              refine RunAny.y 11 (by kernel_rfl) (ld_y (d := some 97) (p := (q58.add (x12_0 : Int).toNat)) (k2 := [.inRegion (opsOf (pl Go.Proofs.Try.f5 [1, 1, 1, 1, 1, 1, 1, 1, 0, 1, 0, 0, 1, 0, 0, 0])) []]) (.int .u8 (rd a1 x12_0)) (by kernel_rfl)) (fun _ hs => hs.cell hcq58 (by simp)) hS ?_
                                              refine RunAny.y 12 (by kernel_rfl) (yl_pure (d := some 98) (v := .int .u8 (bxor .u8 (rd a0 x12_0) (rd a1 x12_0))) (k2 := [.inRegion (opsOf (pl Go.Proofs.Try.f5 [1, 1, 1, 1, 1, 1, 1, 1, 0, 1, 0, 0, 1, 0, 0, 0])) []]) fun w => by kernel_rfl) (fun _ _ => trivial) hS ?_
                                              refine RunAny.y 13 (by kernel_rfl) (yl_pure (d := some 99) (v := .bool ((rd t22.1 x12_0) != (bxor .u8 (rd a0 x12_0) (rd a1 x12_0)))) (k2 := [.inRegion (opsOf (pl Go.Proofs.Try.f5 [1, 1, 1, 1, 1, 1, 1, 1, 0, 1, 0, 0, 1, 0, 0, 0])) []]) fun w => by kernel_rfl) (fun _ _ => trivial) hS ?_
                                              refine RunAny.done (by kernel_rfl) ?_
                                              clear hS
                                              obtain ⟨y61, hy, h⟩ := Option.bind_eq_some_iff.mp h
                                              rw [show (((rd t22.1 x12_0) != (bxor .u8 (rd a0 x12_0) (rd a1 x12_0)))) = y61 from Option.some.inj hy]
                                              clear hy
                                              rcases two (y61) with c62 | c62
                                              · replace h := of_true h c62
                                                refine RunF.know 99 (b := true) (by kernel_rfl) c62 ?_
                                                refine RunF.go 5 [4] (k' := (pl Go.Proofs.Try.f5 [1, 1, 1, 1, 1, 1, 1, 1, 0, 1, 0, 0, 1, 0, 0, 1, 0, 1])) (L' := [(4, .bool false)]) (w' := W50) (by kernel_rfl) ?_
                                                obtain rfl := Option.some.inj h
                                                exact RunF.ret1 4 (.bool false) (fn := Go.Proofs.Try.f5) Go.Proofs.Try.func5 (by kernel_rfl) (by kernel_rfl) (by kernel_rfl) ⟨_, rfl, rfl, (hM.pick [] rfl rfl)⟩
                                              · replace h := of_false h c62
                                                refine RunF.know 99 (b := false) (by kernel_rfl) c62 ?_
                                                refine RunF.go 9 [0, 1, 5, 6, 12] (k' := (pl Go.Proofs.Try.f5 [1, 1, 1, 1, 1, 1, 1, 1, 0, 1, 0, 0])) (L' := [(0, .slice Ap0 a0.length cp0), (1, .slice Ap1 a1.length cp1), (5, .int .i64 (mn (a0.length : Int) (a1.length : Int))), (6, .slice A24 t22.1.length c26), (12, .int .i64 (I64 (x12_0 + 1)))]) (w' := W50) (by kernel_rfl) ?_
                                                exact ih0 k (by omega) (I64 (x12_0 + 1)) _ (hM.pick [0] rfl rfl) h
                                            · replace h := of_false h c60
                                              cases h
                                          · replace h := of_false h c59
                                            cases h
                                        · replace h := of_false h c57
                                          cases h
                                      · replace h := of_false h c56
                                        cases h
                                    · replace h := of_false h c54
                                      cases h
                                  · replace h := of_false h c53
                                    cases h
                                · replace h := of_false h c49
                                  refine RunF.know 83 (b := false) (by kernel_rfl) c49 ?_
                                  refine RunF.go 7 [0, 5, 101, 102, 103] (k' := (pin Go.Proofs.Try.f5 [1, 1, 1, 1, 1, 1, 1, 1, 1, 0] 3)) (L' := [(0, .slice Ap0 a0.length cp0), (5, .int .i64 (mn (a0.length : Int) (a1.length : Int))), (101, .slice A24 t22.1.length c26), (102, .slice Ap1 a1.length cp1), (103, .int .i64 (mn (a0.length : Int) (a1.length : Int)))]) (w' := W) (by kernel_rfl) ?_
                                  rcases two (decide (0 ≤ (mn (a0.length : Int) (a1.length : Int)))) with c63 | c63
                                  · replace h := of_true h c63
                                    rcases two (decide ((mn (a0.length : Int) (a1.length : Int)) ≤ (a1.length : Int))) with c64 | c64
                                    · replace h := of_true h c64
                                      have zc63 := of_decide_eq_true c63
                                      have zc64 := of_decide_eq_true c64
                                      obtain ⟨A65, n66, c67, hy68, rfl, hs69⟩ := cut (P := Go.Proofs.Try.prog) (n := 118) (k := (pin Go.Proofs.Try.f5 [1, 1, 1, 1, 1, 1, 1, 1, 1, 0] 3)) (L := [(0, .slice Ap0 a0.length cp0), (5, .int .i64 (mn (a0.length : Int) (a1.length : Int))), (101, .slice A24 t22.1.length c26), (102, .slice Ap1 a1.length cp1), (103, .int .i64 (mn (a0.length : Int) (a1.length : Int)))]) (d := some 104) (A := Ap1) (m := a1.length) (c := cp1) (l := 0) (h := mn (a0.length : Int) (a1.length : Int)) (k2 := (pin Go.Proofs.Try.f5 [1, 1, 1, 1, 1, 1, 1, 1, 1, 0] 4)) .u8 a1 (by kernel_rfl) (by omega) (by omega) (by omega) (hr1.mono hM.below)
                                      clear zc63
                                      clear zc64
                                      refine RunF.y hy68 trivial ?_
                                      obtain ⟨t70, ht70, h⟩ := Option.bind_eq_some_iff.mp h
                                      refine RunF.call (d := some 105) (g := 19) (args := #[.slice A24 t22.1.length c26, .slice A65 (((a1.take (mn (a0.length : Int) (a1.length : Int) : Int).toNat).drop (0 : Int).toNat).length) c67]) (k2 := (pin Go.Proofs.Try.f5 [1, 1, 1, 1, 1, 1, 1, 1, 1, 0] 5)) (by kernel_rfl) (words_Xor.calls k A24 t22.1.length c26 t22.1 A65 (((a1.take (mn (a0.length : Int) (a1.length : Int) : Int).toNat).drop (0 : Int).toNat).length) c67 ((a1.take (mn (a0.length : Int) (a1.length : Int) : Int).toNat).drop (0 : Int).toNat) t70 _ (hM.rd 0 rfl) (hs69 _ (hr1.mono hM.below)) ht70) ?_
                                      rintro _ W71 ⟨A72, n73, c74, rfl, hM_⟩
                                      obtain rfl : t70.1.length = n73 := by have h_ := (hM_.rd 0 rfl).1; simpa [nums_length, bools_length] using h_
                                      replace hM := hM.call hM_
                                      clear hM_ ht70
                                      refine RunF.go 7 [0, 5, 13, 14] (k' := (pl Go.Proofs.Try.f5 [1, 1, 1, 1, 1, 1, 1, 1, 1, 1, 0])) (L' := [(0, .slice Ap0 a0.length cp0), (5, .int .i64 (mn (a0.length : Int) (a1.length : Int))), (13, .slice A72 t70.1.length c74), (14, .bool t70.2)]) (w' := W71) (by kernel_rfl) ?_
                                      refine RunF.draw (Still ({ W71 with drawn := W71.drawn + 1 } : World) []) (by kernel_rfl) (by kernel_rfl) ?_
                                      have hMd77 := hM.drew
                                      have hS := Still.refl ({ W71 with drawn := W71.drawn + 1 } : World) []
                                      generalize ({ W71 with drawn := W71.drawn + 1 } : World) = W76 at hMd77 hS ⊢
                                      replace hM := hMd77
                                      refine RunAny.y 0 (by kernel_rfl) (yl_pure (d := some 108) (v := .bool t70.2) (k2 := [.inRegion (opsOf (pl Go.Proofs.Try.f5 [1, 1, 1, 1, 1, 1, 1, 1, 1, 1, 0])) []]) fun w => by kernel_rfl) (fun _ _ => trivial) hS ?_
                                      refine RunAny.y 1 (by kernel_rfl) (yl_pure (d := some 109) (v := .bool t70.2) (k2 := [.inRegion (opsOf (pl Go.Proofs.Try.f5 [1, 1, 1, 1, 1, 1, 1, 1, 1, 1, 0])) []]) fun w => by kernel_rfl) (fun _ _ => trivial) hS ?_
                                      rcases two (t70.2) with c78 | c78
                                      · replace h := of_true h c78
                                        refine RunAny.know 109 (b := true) (by kernel_rfl) c78 ?_
                                        refine RunAny.y 2 (by kernel_rfl) (yl_pure (d := some 110) (v := .slice A72 t70.1.length c74) (k2 := [.inRegion (opsOf (pl Go.Proofs.Try.f5 [1, 1, 1, 1, 1, 1, 1, 1, 1, 1, 0])) []]) fun w => by kernel_rfl) (fun _ _ => trivial) hS ?_
                                        refine RunAny.y 3 (by kernel_rfl) (str_y (d := some 111) (A := A72) (m := t70.1.length) (c := c74) (k2 := [.inRegion (opsOf (pl Go.Proofs.Try.f5 [1, 1, 1, 1, 1, 1, 1, 1, 1, 1, 0])) []]) t70.1 (by kernel_rfl)) (fun _ hs => ((hM.rd 0 rfl).still hs (by simp))) hS ?_
                                        refine RunAny.y 4 (by kernel_rfl) (yl_pure (d := some 112) (v := .slice Ap0 a0.length cp0) (k2 := [.inRegion (opsOf (pl Go.Proofs.Try.f5 [1, 1, 1, 1, 1, 1, 1, 1, 1, 1, 0])) []]) fun w => by kernel_rfl) (fun _ _ => trivial) hS ?_
                                        refine RunAny.y 5 (by kernel_rfl) (yl_pure (d := some 113) (v := .int .i64 (mn (a0.length : Int) (a1.length : Int))) (k2 := [.inRegion (opsOf (pl Go.Proofs.Try.f5 [1, 1, 1, 1, 1, 1, 1, 1, 1, 1, 0])) []]) fun w => by kernel_rfl) (fun _ _ => trivial) hS ?_
                                        rcases two (decide (0 ≤ (mn (a0.length : Int) (a1.length : Int)))) with c79 | c79
                                        · replace h := of_true h c79
                                          rcases two (decide ((mn (a0.length : Int) (a1.length : Int)) ≤ (a0.length : Int))) with c80 | c80
                                          · replace h := of_true h c80
                                            have zc79 := of_decide_eq_true c79
                                            have zc80 := of_decide_eq_true c80
                                            obtain ⟨A81, n82, c83, hy84, rfl, hs85⟩ := cut (P := Go.Proofs.Try.prog) (n := 118) (k := (one (opsOf (pl Go.Proofs.Try.f5 [1, 1, 1, 1, 1, 1, 1, 1, 1, 1, 0])) 6)) (L := (upd (upd (upd (upd (known (upd (upd [(0, .slice Ap0 a0.length cp0), (5, .int .i64 (mn (a0.length : Int) (a1.length : Int))), (13, .slice A72 t70.1.length c74), (14, .bool t70.2)] (some 108) (.bool t70.2)) (some 109) (.bool t70.2)) 109 true) (some 110) (.slice A72 t70.1.length c74)) (some 111) (.string (strOf t70.1))) (some 112) (.slice Ap0 a0.length cp0)) (some 113) (.int .i64 (mn (a0.length : Int) (a1.length : Int))))) (d := some 114) (A := Ap0) (m := a0.length) (c := cp0) (l := 0) (h := mn (a0.length : Int) (a1.length : Int)) (k2 := [.inRegion (opsOf (pl Go.Proofs.Try.f5 [1, 1, 1, 1, 1, 1, 1, 1, 1, 1, 0])) []]) .u8 a0 (by kernel_rfl) (by omega) (by omega) (by omega) (hr0.mono hM.below)
                                            clear zc79
                                            clear zc80
                                            refine RunAny.y 6 (by kernel_rfl) hy84 (fun _ _ => trivial) hS ?_
                                            refine RunAny.y 7 (by kernel_rfl) (str_y (d := some 115) (A := A81) (m := ((a0.take (mn (a0.length : Int) (a1.length : Int) : Int).toNat).drop (0 : Int).toNat).length) (c := c83) (k2 := [.inRegion (opsOf (pl Go.Proofs.Try.f5 [1, 1, 1, 1, 1, 1, 1, 1, 1, 1, 0])) []]) ((a0.take (mn (a0.length : Int) (a1.length : Int) : Int).toNat).drop (0 : Int).toNat) (by kernel_rfl)) (fun _ hs => ((hs85 _ (hr0.mono hM.below)).still hs (by simp))) hS ?_
                                            refine RunAny.y 8 (by kernel_rfl) (yl_pure (d := some 116) (v := .bool ((strOf t70.1).toList == (strOf ((a0.take (mn (a0.length : Int) (a1.length : Int) : Int).toNat).drop (0 : Int).toNat)).toList)) (k2 := [.inRegion (opsOf (pl Go.Proofs.Try.f5 [1, 1, 1, 1, 1, 1, 1, 1, 1, 1, 0])) []]) fun w => by kernel_rfl) (fun _ _ => trivial) hS ?_
                                            refine RunAny.y 9 (by kernel_rfl) (yl_pure (d := some 117) (v := .bool ((strOf t70.1).toList == (strOf ((a0.take (mn (a0.length : Int) (a1.length : Int) : Int).toNat).drop (0 : Int).toNat)).toList)) (k2 := [.inRegion (opsOf (pl Go.Proofs.Try.f5 [1, 1, 1, 1, 1, 1, 1, 1, 1, 1, 0])) []]) fun w => by kernel_rfl) (fun _ _ => trivial) hS ?_
                                            refine RunAny.y 10 (by kernel_rfl) (yl_pure (d := some 4) (v := .bool ((strOf t70.1).toList == (strOf ((a0.take (mn (a0.length : Int) (a1.length : Int) : Int).toNat).drop (0 : Int).toNat)).toList)) (k2 := [.inRegion (opsOf (pl Go.Proofs.Try.f5 [1, 1, 1, 1, 1, 1, 1, 1, 1, 1, 0])) []]) fun w => by kernel_rfl) (fun _ _ => trivial) hS ?_
                                            refine RunAny.done (by kernel_rfl) ?_
                                            clear hS
                                            obtain rfl := Option.some.inj h
                                            exact RunF.ret1 4 (.bool ((strOf t70.1).toList == (strOf ((a0.take (mn (a0.length : Int) (a1.length : Int) : Int).toNat).drop (0 : Int).toNat)).toList)) (fn := Go.Proofs.Try.f5) Go.Proofs.Try.func5 (by kernel_rfl) (by kernel_rfl) (by kernel_rfl) ⟨_, rfl, rfl, (hM.pick [] rfl rfl)⟩
                                          · replace h := of_false h c80
                                            cases h
                                        · replace h := of_false h c79
                                          cases h
                                      · replace h := of_false h c78
                                        refine RunAny.know 109 (b := false) (by kernel_rfl) c78 ?_
                                        refine RunAny.off 2 (d := some 110) (by kernel_rfl) (by kernel_rfl) hS ?_
                                        refine RunAny.off 3 (d := some 111) (by kernel_rfl) (by kernel_rfl) hS ?_
                                        refine RunAny.off 4 (d := some 112) (by kernel_rfl) (by kernel_rfl) hS ?_
                                        refine RunAny.off 5 (d := some 113) (by kernel_rfl) (by kernel_rfl) hS ?_
                                        refine RunAny.off 6 (d := some 114) (by kernel_rfl) (by kernel_rfl) hS ?_
                                        refine RunAny.off 7 (d := some 115) (by kernel_rfl) (by kernel_rfl) hS ?_
                                        refine RunAny.off 8 (d := some 116) (by kernel_rfl) (by kernel_rfl) hS ?_
                                        refine RunAny.y 9 (by kernel_rfl) (yl_pure (d := some 117) (v := .bool false) (k2 := [.inRegion (opsOf (pl Go.Proofs.Try.f5 [1, 1, 1, 1, 1, 1, 1, 1, 1, 1, 0])) []]) fun w => by kernel_rfl) (fun _ _ => trivial) hS ?_
                                        refine RunAny.y 10 (by kernel_rfl) (yl_pure (d := some 4) (v := .bool false) (k2 := [.inRegion (opsOf (pl Go.Proofs.Try.f5 [1, 1, 1, 1, 1, 1, 1, 1, 1, 1, 0])) []]) fun w => by kernel_rfl) (fun _ _ => trivial) hS ?_
                                        refine RunAny.done (by kernel_rfl) ?_
                                        clear hS
                                        obtain rfl := Option.some.inj h
                                        exact RunF.ret1 4 (.bool false) (fn := Go.Proofs.Try.f5) Go.Proofs.Try.func5 (by kernel_rfl) (by kernel_rfl) (by kernel_rfl) ⟨_, rfl, rfl, (hM.pick [] rfl rfl)⟩
                                    · replace h := of_false h c64
                                      cases h
                                  · replace h := of_false h c63
                                    cases h
                          exact l0 k (Nat.le_refl _) 0 _ (hM.pick [2] rfl rfl) h
              · replace h := of_false h c16
                cases h
            · replace h := of_false h c15
              cases h
          · replace h := of_false h c9
            cases h
        · replace h := of_false h c8
          cases h


end Go.Scr.S
