/- The functions that the law SmallOwn reaches, as plain functions, and that each call answers so. -/
import Derived.Test.YtahfhogifkkoeaaProg
import Derived.Test.YtahfhogifkkoeaaXDeep3
set_option linter.unusedVariables false
set_option linter.unusedSimpArgs false
set_option linter.unnecessarySimpa false
namespace Go.Scr.S
open Go.RowKit (Below)
def Rs_small_Small (Z : Zp) (cs : List Value) (x : ((List Int) × Int)) : Prop := ∃ (u0 : Value) (u1 : Value), cs = [u0, u1] ∧ (rNums .u32) Z u0 x.1 ∧ (rInt .i64) Z u1 x.2
theorem up_Rs_small_Small (Z Y : Zp) (cs : List Value) (x : ((List Int) × Int)) (hs : ∀ W, Y W → Z W) : Rs_small_Small Z cs x → Rs_small_Small Y cs x := fun ⟨u0, u1, e, h0, h1⟩ => ⟨u0, u1, e, (up_nums .u32) _ _ _ _ hs h0, (up_int .i64) _ _ _ _ hs h1⟩
/-! ### scrim/words.load: function 58 -/
def words_load.l0 : Nat → (List Int) → Int → Int → Option (Int)
  | 0, _, _, _ => none
  | k + 1, a0, x3_0, x4_0 => if (decide (x4_0 < (a0.length : Int))) = true then (if (decide (0 ≤ x4_0)) = true then (if (decide (x4_0 < (a0.length : Int))) = true then ((some (bor .u64 (shl .u64 x3_0 8) (U64 (rd a0 x4_0)) : Int)).bind fun y5 => (words_load.l0 k a0 y5 (I64 (x4_0 + 1)))) else (none)) else (none)) else (some x3_0)
def words_load.f (k : Nat) (a0 : List Int) : Option (Int) := words_load.l0 k a0 0 0
set_option maxRecDepth 100000 in
theorem words_load.calls (k : Nat) (Ap0 : Option Addr) (np0 cp0 : Nat) (a0 : List Int) (r : Int) (w : World) (hr0 : Rd w (.slice Ap0 np0 cp0) (nums .u8 a0)) (h : words_load.f k a0 = some r) :
    Calls Go.Proofs.Try.prog 58 #[(.slice Ap0 np0 cp0)] w (Ret fun v w' => v = .int .u64 r ∧ Mem w w' []) := by
  obtain rfl : a0.length = np0 := by have h_ := hr0.1; simpa [nums_length, bools_length, strs_length] using h_
  unfold words_load.f at h
  refine calls_of [.slice Ap0 a0.length cp0] (fn := Go.Proofs.Try.f58) Go.Proofs.Try.func58 (by kernel_rfl) (by kernel_rfl) ?_
  have hM := Mem.refl w
  refine RunF.go 12 [0, 3, 4] (k' := (pl Go.Proofs.Try.f58 [1, 0, 1, 1])) (L' := [(0, .slice Ap0 a0.length cp0), (3, .int .u64 0), (4, .int .i64 0)]) (w' := w) (by kernel_rfl) ?_
  have l0 : ∀ (k_ : Nat), k_ ≤ k → ∀ (x3_0 : Int) (x4_0 : Int) (W : World) (hM : Mem w W []) (h : words_load.l0 k_ a0 x3_0 x4_0 = some r), RunF Go.Proofs.Try.prog (Ret fun v w' => v = .int .u64 r ∧ Mem w w' []) 58 (pl Go.Proofs.Try.f58 [1, 0, 1, 1]) 20 [(0, .slice Ap0 a0.length cp0), (3, .int .u64 x3_0), (4, .int .i64 x4_0)] W := by
    intro k_
    induction k_ using Nat.strongRecOn with
    | _ k_ ih0 =>
      intro hk x3_0 x4_0 W hM h
      cases k_ with
      | zero => exact absurd h (by simp [words_load.l0])
      | succ k =>
        simp only [words_load.l0] at h
        replace ih0 : ∀ m, m ≤ k → _ := fun m hm => ih0 m (by omega) (by omega)
        refine RunF.go 8 [0, 3, 4, 8] (k' := (pl Go.Proofs.Try.f58 [1, 0, 1, 1, 0, 1])) (L' := [(0, .slice Ap0 a0.length cp0), (3, .int .u64 x3_0), (4, .int .i64 x4_0), (8, .bool (decide (x4_0 < (a0.length : Int))))]) (w' := W) (by kernel_rfl) ?_
        rcases two (decide (x4_0 < (a0.length : Int))) with c1 | c1
        · replace h := of_true h c1
          refine RunF.know 8 (b := true) (by kernel_rfl) c1 ?_
          refine RunF.go 7 [0, 4, 10, 11, 12] (k' := (pin Go.Proofs.Try.f58 [1, 0, 1, 1, 0, 1, 0, 0] 4)) (L' := [(0, .slice Ap0 a0.length cp0), (4, .int .i64 x4_0), (10, .int .u64 (shl .u64 x3_0 8)), (11, .slice Ap0 a0.length cp0), (12, .int .i64 x4_0)]) (w' := W) (by kernel_rfl) ?_
          rcases two (decide (0 ≤ x4_0)) with c3 | c3
          · replace h := of_true h c3
            rcases two (decide (x4_0 < (a0.length : Int))) with c4 | c4
            · replace h := of_true h c4
              obtain ⟨q2, hAq2, hcq2⟩ := Rd.num (hr0.mono hM.below) (i := x4_0) (of_decide_eq_true c3) (by have h_ := of_decide_eq_true c4; omega)
              refine RunF.y (idx_y (d := some 13) (A := Ap0) (m := a0.length) (i := x4_0) (k2 := (pin Go.Proofs.Try.f58 [1, 0, 1, 1, 0, 1, 0, 0] 5)) (by kernel_rfl) (of_decide_eq_true c3) (by have h_ := of_decide_eq_true c4; omega) hAq2) trivial ?_
              refine RunF.y (ld_y (d := some 14) (p := (q2.add (x4_0 : Int).toNat)) (k2 := (pin Go.Proofs.Try.f58 [1, 0, 1, 1, 0, 1, 0, 0] 6)) (.int .u8 (rd a0 x4_0)) (by kernel_rfl)) hcq2 ?_
              refine RunF.go 13 [0, 3, 4] (k' := (pl Go.Proofs.Try.f58 [1, 0, 1, 1])) (L' := [(0, .slice Ap0 a0.length cp0), (3, .int .u64 (bor .u64 (shl .u64 x3_0 8) (U64 (rd a0 x4_0)))), (4, .int .i64 (I64 (x4_0 + 1)))]) (w' := W) (by kernel_rfl) ?_
              obtain ⟨y5, hy, h⟩ := Option.bind_eq_some_iff.mp h
              rw [show (bor .u64 (shl .u64 x3_0 8) (U64 (rd a0 x4_0))) = y5 from Option.some.inj hy]
              clear hy
              exact ih0 k (by omega) y5 (I64 (x4_0 + 1)) _ (hM.pick [] rfl rfl) h
            · replace h := of_false h c4
              cases h
          · replace h := of_false h c3
            cases h
        · replace h := of_false h c1
          refine RunF.know 8 (b := false) (by kernel_rfl) c1 ?_
          refine RunF.go 7 [2] (k' := (pl Go.Proofs.Try.f58 [1, 0, 1, 1, 1, 1])) (L' := [(2, .int .u64 x3_0)]) (w' := W) (by kernel_rfl) ?_
          obtain rfl := Option.some.inj h
          exact RunF.ret1 2 (.int .u64 x3_0) (fn := Go.Proofs.Try.f58) Go.Proofs.Try.func58 (by kernel_rfl) (by kernel_rfl) (by kernel_rfl) ⟨_, rfl, rfl, (hM.pick [] rfl rfl)⟩
  exact l0 k (Nat.le_refl _) 0 0 _ (hM.pick [] rfl rfl) h

/-! ### scrim/words.Be32: function 45 -/
def words_Be32.f (k : Nat) (a0 : List Int) : Option (Int × Bool) := if ((a0.length : Int) != 4) = true then (some (0, false)) else ((words_load.f k a0).bind fun t3 => (some (U32 (t3), true)))
set_option maxRecDepth 100000 in
theorem words_Be32.calls (k : Nat) (Ap0 : Option Addr) (np0 cp0 : Nat) (a0 : List Int) (r : Int × Bool) (w : World) (hr0 : Rd w (.slice Ap0 np0 cp0) (nums .u8 a0)) (h : words_Be32.f k a0 = some r) :
    Calls Go.Proofs.Try.prog 45 #[(.slice Ap0 np0 cp0)] w (Ret fun v w' => v = .tuple #[.int .u32 r.1, .bool r.2] ∧ Mem w w' []) := by
  obtain rfl : a0.length = np0 := by have h_ := hr0.1; simpa [nums_length, bools_length, strs_length] using h_
  unfold words_Be32.f at h
  refine calls_of [.slice Ap0 a0.length cp0] (fn := Go.Proofs.Try.f45) Go.Proofs.Try.func45 (by kernel_rfl) (by kernel_rfl) ?_
  have hM := Mem.refl w
  refine RunF.go 12 [0, 6] (k' := (pl Go.Proofs.Try.f45 [1, 0, 1])) (L' := [(0, .slice Ap0 a0.length cp0), (6, .bool ((a0.length : Int) != 4))]) (w' := w) (by kernel_rfl) ?_
  rcases two (((a0.length : Int) != 4)) with c1 | c1
  · replace h := of_true h c1
    refine RunF.know 6 (b := true) (by kernel_rfl) c1 ?_
    refine RunF.go 6 [2, 3] (k' := (pl Go.Proofs.Try.f45 [1, 0, 1, 0, 1])) (L' := [(2, .int .u32 0), (3, .bool false)]) (w' := w) (by kernel_rfl) ?_
    obtain rfl := Option.some.inj h
    exact RunF.ret2 2 3 (.int .u32 0) (.bool false) (fn := Go.Proofs.Try.f45) Go.Proofs.Try.func45 (by kernel_rfl) (by kernel_rfl) (by kernel_rfl) (by kernel_rfl) ⟨_, rfl, rfl, (hM.pick [] rfl rfl)⟩
  · replace h := of_false h c1
    refine RunF.know 6 (b := false) (by kernel_rfl) c1 ?_
    refine RunF.go 5 [7] (k' := (pin Go.Proofs.Try.f45 [1, 1, 0] 1)) (L' := [(7, .slice Ap0 a0.length cp0)]) (w' := w) (by kernel_rfl) ?_
    obtain ⟨t3, ht3, h⟩ := Option.bind_eq_some_iff.mp h
    refine RunF.call (d := some 8) (g := 58) (args := #[.slice Ap0 a0.length cp0]) (k2 := (pin Go.Proofs.Try.f45 [1, 1, 0] 2)) (by kernel_rfl) (words_load.calls k Ap0 a0.length cp0 a0 t3 _ (hr0.mono hM.below) ht3) ?_
    rintro _ W2 ⟨rfl, hM_⟩
    replace hM := hM.call hM_
    clear hM_ ht3
    refine RunF.go 4 [2, 3] (k' := (pl Go.Proofs.Try.f45 [1, 1, 1])) (L' := [(2, .int .u32 (U32 (t3))), (3, .bool true)]) (w' := W2) (by kernel_rfl) ?_
    obtain rfl := Option.some.inj h
    exact RunF.ret2 2 3 (.int .u32 (U32 (t3))) (.bool true) (fn := Go.Proofs.Try.f45) Go.Proofs.Try.func45 (by kernel_rfl) (by kernel_rfl) (by kernel_rfl) (by kernel_rfl) ⟨_, rfl, rfl, (hM.pick [] rfl rfl)⟩

/-! ### scrim/words.turned: function 59 -/
def words_turned.l0 : Nat → (List Int) → (List Int) → Int → Option (List Int)
  | 0, _, _, _ => none
  | k + 1, a0, x3_0, x4_0 => if (decide (x4_0 ≥ 0)) = true then (if (decide (0 ≤ x4_0)) = true then (if (decide (x4_0 < (a0.length : Int))) = true then (if (decide (x3_0.length + ([rd a0 x4_0] : List Int).length ≤ 1000000000)) = true then (words_turned.l0 k a0 (x3_0 ++ ([rd a0 x4_0] : List Int)) (I64 (x4_0 - 1))) else (none)) else (none)) else (none)) else (some x3_0)
def words_turned.f (k : Nat) (a0 : List Int) : Option (List Int) := if (decide (0 ≤ (a0.length : Int))) = true then (if (decide ((a0.length : Int) ≤ 1000000000)) = true then (words_turned.l0 k a0 (List.replicate 0 (0 : Int)) (I64 ((a0.length : Int) - 1))) else (none)) else (none)
set_option maxRecDepth 100000 in
theorem words_turned.calls (k : Nat) (Ap0 : Option Addr) (np0 cp0 : Nat) (a0 : List Int) (r : List Int) (w : World) (hr0 : Rd w (.slice Ap0 np0 cp0) (nums .u8 a0)) (h : words_turned.f k a0 = some r) :
    Calls Go.Proofs.Try.prog 59 #[(.slice Ap0 np0 cp0)] w (Ret fun v w' => ∃ A0' n0' c0', v = .slice A0' n0' c0' ∧ Mem w w' [⟨.slice A0' n0' c0', 5, 1, nums .u8 r⟩]) := by
  obtain rfl : a0.length = np0 := by have h_ := hr0.1; simpa [nums_length, bools_length, strs_length] using h_
  unfold words_turned.f at h
  refine calls_of [.slice Ap0 a0.length cp0] (fn := Go.Proofs.Try.f59) Go.Proofs.Try.func59 (by kernel_rfl) (by kernel_rfl) ?_
  have hM := Mem.refl w
  refine RunF.go 8 [0, 6] (k' := (pin Go.Proofs.Try.f59 [1, 0] 2)) (L' := [(0, .slice Ap0 a0.length cp0), (6, .int .i64 (a0.length : Int))]) (w' := w) (by kernel_rfl) ?_
  rcases two (decide (0 ≤ (a0.length : Int))) with c3 | c3
  · replace h := of_true h c3
    rcases two (decide ((a0.length : Int) ≤ 1000000000)) with c4 | c4
    · replace h := of_true h c4
      have := of_decide_eq_true c3
      have := of_decide_eq_true c4
      obtain ⟨W1, hD, hM', hB_⟩ := mk_does (P := Go.Proofs.Try.prog) (n := 23) (k := (pin Go.Proofs.Try.f59 [1, 0] 2)) (L := [(0, .slice Ap0 a0.length cp0), (6, .int .i64 (a0.length : Int))]) (d := some 7) (e := 5) (z := .int .u8 0) (l := 0) (c := (a0.length : Int)) (k2 := (pin Go.Proofs.Try.f59 [1, 0] 3)) (by kernel_rfl) (by omega) (by omega) (by omega) hM
      rw [rep_nums] at hM'
      refine RunF.does hD ?_
      replace hM := hM'; clear hD hM'
      generalize w.heap.size = g2 at hM ⊢
      refine RunF.go 12 [0, 3, 4] (k' := (pl Go.Proofs.Try.f59 [1, 1, 0, 1, 0, 0])) (L' := [(0, .slice Ap0 a0.length cp0), (3, .slice (some ⟨g2, 0, none⟩) 0 (((a0.length : Int) : Int).toNat)), (4, .int .i64 (I64 ((a0.length : Int) - 1)))]) (w' := W1) (by kernel_rfl) ?_
      have l0 : ∀ (k_ : Nat), k_ ≤ k → ∀ (A3_0 : Option Addr) (c3_0 : Nat) (x3_0 : List Int) (x4_0 : Int) (W : World) (hM : Mem w W [⟨.slice A3_0 x3_0.length c3_0, 5, 1, nums .u8 x3_0⟩]) (h : words_turned.l0 k_ a0 x3_0 x4_0 = some r), RunF Go.Proofs.Try.prog (Ret fun v w' => ∃ A0' n0' c0', v = .slice A0' n0' c0' ∧ Mem w w' [⟨.slice A0' n0' c0', 5, 1, nums .u8 r⟩]) 59 (pl Go.Proofs.Try.f59 [1, 1, 0, 1, 0, 0]) 23 [(0, .slice Ap0 a0.length cp0), (3, .slice A3_0 x3_0.length c3_0), (4, .int .i64 x4_0)] W := by
        intro k_
        induction k_ using Nat.strongRecOn with
        | _ k_ ih0 =>
          intro hk A3_0 c3_0 x3_0 x4_0 W hM h
          cases k_ with
          | zero => exact absurd h (by simp [words_turned.l0])
          | succ k =>
            simp only [words_turned.l0] at h
            replace ih0 : ∀ m, m ≤ k → _ := fun m hm => ih0 m (by omega) (by omega)
            refine RunF.go 6 [0, 3, 4, 12] (k' := (pl Go.Proofs.Try.f59 [1, 1, 0, 1, 0, 0, 0, 1])) (L' := [(0, .slice Ap0 a0.length cp0), (3, .slice A3_0 x3_0.length c3_0), (4, .int .i64 x4_0), (12, .bool (decide (x4_0 ≥ 0)))]) (w' := W) (by kernel_rfl) ?_
            rcases two (decide (x4_0 ≥ 0)) with c7 | c7
            · replace h := of_true h c7
              refine RunF.know 12 (b := true) (by kernel_rfl) c7 ?_
              refine RunF.go 8 [0, 4, 15, 16, 17] (k' := (pin Go.Proofs.Try.f59 [1, 1, 0, 1, 0, 0, 1, 0, 0] 3)) (L' := [(0, .slice Ap0 a0.length cp0), (4, .int .i64 x4_0), (15, .slice A3_0 x3_0.length c3_0), (16, .slice Ap0 a0.length cp0), (17, .int .i64 x4_0)]) (w' := W) (by kernel_rfl) ?_
              rcases two (decide (0 ≤ x4_0)) with c9 | c9
              · replace h := of_true h c9
                rcases two (decide (x4_0 < (a0.length : Int))) with c10 | c10
                · replace h := of_true h c10
                  obtain ⟨q8, hAq8, hcq8⟩ := Rd.num (hr0.mono hM.below) (i := x4_0) (of_decide_eq_true c9) (by have h_ := of_decide_eq_true c10; omega)
                  refine RunF.y (idx_y (d := some 18) (A := Ap0) (m := a0.length) (i := x4_0) (k2 := (pin Go.Proofs.Try.f59 [1, 1, 0, 1, 0, 0, 1, 0, 0] 4)) (by kernel_rfl) (of_decide_eq_true c9) (by have h_ := of_decide_eq_true c10; omega) hAq8) trivial ?_
                  refine RunF.y (ld_y (d := some 19) (p := (q8.add (x4_0 : Int).toNat)) (k2 := (pin Go.Proofs.Try.f59 [1, 1, 0, 1, 0, 0, 1, 0, 0] 5)) (.int .u8 (rd a0 x4_0)) (by kernel_rfl)) hcq8 ?_
                  refine RunF.new 5 1 1 (nums .u8 [rd a0 x4_0]) (d := some 20) (k2 := (pin Go.Proofs.Try.f59 [1, 1, 0, 1, 0, 0, 1, 0, 0] 6)) hM (by simp [nums, bools, strs]) (by kernel_rfl) (by kernel_rfl) ?_
                  replace hM := hM
                  intro g11 W12 hM
                  rcases two (decide (x3_0.length + ([rd a0 x4_0] : List Int).length ≤ 1000000000)) with c18 | c18
                  · replace h := of_true h c18
                    have h_ := of_decide_eq_true c18
                    obtain ⟨A14, n15, c16, W17, hD, hM', hS_⟩ := app_does (P := Go.Proofs.Try.prog) (n := 23) (k := (pin Go.Proofs.Try.f59 [1, 1, 0, 1, 0, 0, 1, 0, 0] 6)) (L := (upd (upd (upd [(0, .slice Ap0 a0.length cp0), (4, .int .i64 x4_0), (15, .slice A3_0 x3_0.length c3_0), (16, .slice Ap0 a0.length cp0), (17, .int .i64 x4_0)] (some 18) (.pointer (some (q8.add (x4_0 : Int).toNat)))) (some 19) (.int .u8 (rd a0 x4_0))) (some 20) (.slice (some ⟨g11, 0, none⟩) 1 1))) (d := some 21) (e := 5) (A := A3_0) (m := x3_0.length) (c := c3_0) (A2 := (some ⟨g11, 0, none⟩)) (m2 := 1) (c2 := 1) (cs := nums .u8 x3_0) (ys := nums .u8 ([rd a0 x4_0] : List Int)) (k2 := (pin Go.Proofs.Try.f59 [1, 1, 0, 1, 0, 0, 1, 0, 0] 7)) [⟨.slice (some ⟨g11, 0, none⟩) 1 1, 5, 1, nums .u8 [rd a0 x4_0]⟩] [] (by kernel_rfl) (hM.pick [0, 1] rfl rfl) (hM.rd 0 rfl) (one_nums _ _) (by omega)
                    rw [nums_append] at hM'
                    replace hM := hM'; clear h_ hM'
                    obtain rfl : (x3_0 ++ ([rd a0 x4_0] : List Int)).length = n15 := by have h_ := (hM.rd 1 rfl).1; simpa only [nums_length, bools_length, strs_length] using h_
                    refine RunF.does hD ?_
                    clear hD hS_
                    refine RunF.go 9 [0, 3, 4] (k' := (pl Go.Proofs.Try.f59 [1, 1, 0, 1, 0, 0])) (L' := [(0, .slice Ap0 a0.length cp0), (3, .slice A14 ((x3_0 ++ ([rd a0 x4_0] : List Int)).length) c16), (4, .int .i64 (I64 (x4_0 - 1)))]) (w' := W17) (by kernel_rfl) ?_
                    exact ih0 k (by omega) A14 c16 (x3_0 ++ ([rd a0 x4_0] : List Int)) (I64 (x4_0 - 1)) _ (hM.pick [1] rfl rfl) h
                  · replace h := of_false h c18
                    cases h
                · replace h := of_false h c10
                  cases h
              · replace h := of_false h c9
                cases h
            · replace h := of_false h c7
              refine RunF.know 12 (b := false) (by kernel_rfl) c7 ?_
              refine RunF.go 7 [2] (k' := (pl Go.Proofs.Try.f59 [1, 1, 1, 1])) (L' := [(2, .slice A3_0 x3_0.length c3_0)]) (w' := W) (by kernel_rfl) ?_
              obtain rfl := Option.some.inj h
              exact RunF.ret1 2 (.slice A3_0 x3_0.length c3_0) (fn := Go.Proofs.Try.f59) Go.Proofs.Try.func59 (by kernel_rfl) (by kernel_rfl) (by kernel_rfl) ⟨_, rfl, A3_0, x3_0.length, c3_0, rfl, (hM.pick [0] rfl rfl)⟩
      exact l0 k (Nat.le_refl _) (some ⟨g2, 0, none⟩) (((a0.length : Int) : Int).toNat) (List.replicate 0 (0 : Int)) (I64 ((a0.length : Int) - 1)) _ (hM.pick [0] rfl rfl) h
    · replace h := of_false h c4
      cases h
  · replace h := of_false h c3
    cases h

/-! ### scrim/words.Le32: function 46 -/
def words_Le32.f (k : Nat) (a0 : List Int) : Option (Int × Bool) := (words_turned.f k a0).bind fun t2 => ((words_Be32.f k t2).bind fun t8 => (some (t8.1, t8.2)))
set_option maxRecDepth 100000 in
theorem words_Le32.calls (k : Nat) (Ap0 : Option Addr) (np0 cp0 : Nat) (a0 : List Int) (r : Int × Bool) (w : World) (hr0 : Rd w (.slice Ap0 np0 cp0) (nums .u8 a0)) (h : words_Le32.f k a0 = some r) :
    Calls Go.Proofs.Try.prog 46 #[(.slice Ap0 np0 cp0)] w (Ret fun v w' => v = .tuple #[.int .u32 r.1, .bool r.2] ∧ Mem w w' []) := by
  obtain rfl : a0.length = np0 := by have h_ := hr0.1; simpa [nums_length, bools_length, strs_length] using h_
  unfold words_Le32.f at h
  refine calls_of [.slice Ap0 a0.length cp0] (fn := Go.Proofs.Try.f46) Go.Proofs.Try.func46 (by kernel_rfl) (by kernel_rfl) ?_
  have hM := Mem.refl w
  refine RunF.go 8 [4] (k' := (pin Go.Proofs.Try.f46 [1, 0] 1)) (L' := [(4, .slice Ap0 a0.length cp0)]) (w' := w) (by kernel_rfl) ?_
  obtain ⟨t2, ht2, h⟩ := Option.bind_eq_some_iff.mp h
  refine RunF.call (d := some 5) (g := 59) (args := #[.slice Ap0 a0.length cp0]) (k2 := (pin Go.Proofs.Try.f46 [1, 0] 2)) (by kernel_rfl) (words_turned.calls k Ap0 a0.length cp0 a0 t2 _ (hr0.mono hM.below) ht2) ?_
  rintro _ W1 ⟨A3, n4, c5, rfl, hM_⟩
  obtain rfl : t2.length = n4 := by have h_ := (hM_.rd 0 rfl).1; simpa [nums_length, bools_length, strs_length] using h_
  replace hM := hM.call hM_
  clear hM_ ht2
  obtain ⟨t8, ht8, h⟩ := Option.bind_eq_some_iff.mp h
  refine RunF.call (d := some 6) (g := 45) (args := #[.slice A3 t2.length c5]) (k2 := (pin Go.Proofs.Try.f46 [1, 0] 3)) (by kernel_rfl) (words_Be32.calls k A3 t2.length c5 t2 t8 _ (hM.rd 0 rfl) ht8) ?_
  rintro _ W7 ⟨rfl, hM_⟩
  replace hM := hM.call hM_
  clear hM_ ht8
  refine RunF.go 5 [2, 3] (k' := (pl Go.Proofs.Try.f46 [1, 1])) (L' := [(2, .int .u32 t8.1), (3, .bool t8.2)]) (w' := W7) (by kernel_rfl) ?_
  obtain rfl := Option.some.inj h
  exact RunF.ret2 2 3 (.int .u32 t8.1) (.bool t8.2) (fn := Go.Proofs.Try.f46) Go.Proofs.Try.func46 (by kernel_rfl) (by kernel_rfl) (by kernel_rfl) (by kernel_rfl) ⟨_, rfl, rfl, (hM.pick [] rfl rfl)⟩

/-! ### scrim/small.loaded: function 26 -/
def small_loaded.l0 : Nat → Bool → (List Int) → (List Int) → Option (List Int)
  | 0, _, _, _ => none
  | k + 1, a1, x0_0, x5_0 => if (decide ((x0_0.length : Int) ≥ 4)) = true then (if (decide (4 ≤ (x0_0.length : Int))) = true then ((words_Be32.f k ((x0_0.take (4 : Int).toNat).drop (0 : Int).toNat)).bind fun t11 => (if a1 = true then (if (decide (4 ≤ (x0_0.length : Int))) = true then ((words_Le32.f k ((x0_0.take (4 : Int).toNat).drop (0 : Int).toNat)).bind fun t20 => (if (decide (x5_0.length + ([t20.1] : List Int).length ≤ 1000000000)) = true then (if (decide (4 ≤ (x0_0.length : Int))) = true then (small_loaded.l0 k a1 ((x0_0.take ((x0_0.length : Int) : Int).toNat).drop (4 : Int).toNat) (x5_0 ++ ([t20.1] : List Int))) else (none)) else (none))) else (none)) else (if (decide (x5_0.length + ([t11.1] : List Int).length ≤ 1000000000)) = true then (if (decide (4 ≤ (x0_0.length : Int))) = true then (small_loaded.l0 k a1 ((x0_0.take ((x0_0.length : Int) : Int).toNat).drop (4 : Int).toNat) (x5_0 ++ ([t11.1] : List Int))) else (none)) else (none)))) else (none)) else (some x5_0)
def small_loaded.f (k : Nat) (a0 : List Int) (a1 : Bool) : Option (List Int) := small_loaded.l0 k a1 a0 ([] : List Int)
set_option maxRecDepth 100000 in
theorem small_loaded.calls (k : Nat) (Ap0 : Option Addr) (np0 cp0 : Nat) (a0 : List Int) (a1 : Bool) (r : List Int) (w : World) (hr0 : Rd w (.slice Ap0 np0 cp0) (nums .u8 a0)) (h : small_loaded.f k a0 a1 = some r) :
    Calls Go.Proofs.Try.prog 26 #[(.slice Ap0 np0 cp0), .bool a1] w (Ret fun v w' => ∃ A0' n0' c0', v = .slice A0' n0' c0' ∧ Mem w w' [⟨.slice A0' n0' c0', 43, 1, nums .u32 r⟩]) := by
  obtain rfl : a0.length = np0 := by have h_ := hr0.1; simpa [nums_length, bools_length, strs_length] using h_
  unfold small_loaded.f at h
  refine calls_of [.slice Ap0 a0.length cp0, .bool a1] (fn := Go.Proofs.Try.f26) Go.Proofs.Try.func26 (by kernel_rfl) (by kernel_rfl) ?_
  have hM := Mem.refl w
  refine RunF.go 11 [0, 1, 5] (k' := (pl Go.Proofs.Try.f26 [1, 1, 0, 0, 0])) (L' := [(0, .slice Ap0 a0.length cp0), (1, .bool a1), (5, .slice none 0 0)]) (w' := w) (by kernel_rfl) ?_
  replace hM := hM.nil 43
  have l0 : ∀ (k_ : Nat), k_ ≤ k → ∀ (A0_0 : Option Addr) (c0_0 : Nat) (x0_0 : List Int) (A5_0 : Option Addr) (c5_0 : Nat) (x5_0 : List Int) (W : World) (hM : Mem w W [⟨.slice A5_0 x5_0.length c5_0, 43, 1, nums .u32 x5_0⟩]) (hrx0_0 : Rd w (.slice A0_0 x0_0.length c0_0) (nums .u8 x0_0)) (h : small_loaded.l0 k_ a1 x0_0 x5_0 = some r), RunF Go.Proofs.Try.prog (Ret fun v w' => ∃ A0' n0' c0', v = .slice A0' n0' c0' ∧ Mem w w' [⟨.slice A0' n0' c0', 43, 1, nums .u32 r⟩]) 26 (pl Go.Proofs.Try.f26 [1, 1, 0, 0, 0]) 31 [(0, .slice A0_0 x0_0.length c0_0), (1, .bool a1), (5, .slice A5_0 x5_0.length c5_0)] W := by
    intro k_
    induction k_ using Nat.strongRecOn with
    | _ k_ ih0 =>
      intro hk A0_0 c0_0 x0_0 A5_0 c5_0 x5_0 W hM hrx0_0 h
      cases k_ with
      | zero => exact absurd h (by simp [small_loaded.l0])
      | succ k =>
        simp only [small_loaded.l0] at h
        replace ih0 : ∀ m, m ≤ k → _ := fun m hm => ih0 m (by omega) (by omega)
        refine RunF.go 7 [0, 1, 5, 10] (k' := (pl Go.Proofs.Try.f26 [1, 1, 0, 0, 0, 0, 1])) (L' := [(0, .slice A0_0 x0_0.length c0_0), (1, .bool a1), (5, .slice A5_0 x5_0.length c5_0), (10, .bool (decide ((x0_0.length : Int) ≥ 4)))]) (w' := W) (by kernel_rfl) ?_
        rcases two (decide ((x0_0.length : Int) ≥ 4)) with c3 | c3
        · replace h := of_true h c3
          refine RunF.know 10 (b := true) (by kernel_rfl) c3 ?_
          refine RunF.go 7 [0, 1, 5, 14] (k' := (pin Go.Proofs.Try.f26 [1, 1, 0, 0, 0, 1, 0, 0, 0] 1)) (L' := [(0, .slice A0_0 x0_0.length c0_0), (1, .bool a1), (5, .slice A5_0 x5_0.length c5_0), (14, .slice A0_0 x0_0.length c0_0)]) (w' := W) (by kernel_rfl) ?_
          rcases two (decide (4 ≤ (x0_0.length : Int))) with c4 | c4
          · replace h := of_true h c4
            have zc4 := of_decide_eq_true c4
            obtain ⟨A5, n6, c7, hy8, rfl, hs9⟩ := cut3 (P := Go.Proofs.Try.prog) (n := 31) (k := (pin Go.Proofs.Try.f26 [1, 1, 0, 0, 0, 1, 0, 0, 0] 1)) (L := [(0, .slice A0_0 x0_0.length c0_0), (1, .bool a1), (5, .slice A5_0 x5_0.length c5_0), (14, .slice A0_0 x0_0.length c0_0)]) (d := some 15) (A := A0_0) (m := x0_0.length) (c := c0_0) (l := 0) (h := 4) (q := 4) (k2 := (pin Go.Proofs.Try.f26 [1, 1, 0, 0, 0, 1, 0, 0, 0] 2)) .u8 x0_0 (by kernel_rfl) (by omega) (by omega) (by omega) (by omega) (hrx0_0.mono hM.below)
            clear zc4
            refine RunF.y hy8 trivial ?_
            obtain ⟨t11, ht11, h⟩ := Option.bind_eq_some_iff.mp h
            refine RunF.call (d := some 16) (g := 45) (args := #[.slice A5 (((x0_0.take (4 : Int).toNat).drop (0 : Int).toNat).length) c7]) (k2 := (pin Go.Proofs.Try.f26 [1, 1, 0, 0, 0, 1, 0, 0, 0] 3)) (by kernel_rfl) (words_Be32.calls k A5 (((x0_0.take (4 : Int).toNat).drop (0 : Int).toNat).length) c7 ((x0_0.take (4 : Int).toNat).drop (0 : Int).toNat) t11 _ (hs9 _ (hrx0_0.mono hM.below)) ht11) ?_
            rintro _ W10 ⟨rfl, hM_⟩
            replace hM := hM.call hM_
            clear hM_ ht11
            refine RunF.go 11 [0, 1, 5, 6, 19] (k' := (pl Go.Proofs.Try.f26 [1, 1, 0, 0, 0, 1, 0, 0, 1, 0, 1])) (L' := [(0, .slice A0_0 x0_0.length c0_0), (1, .bool a1), (5, .slice A5_0 x5_0.length c5_0), (6, .int .u32 t11.1), (19, .bool a1)]) (w' := W10) (by kernel_rfl) ?_
            rcases two (a1) with c12 | c12
            · replace h := of_true h c12
              refine RunF.know 19 (b := true) (by kernel_rfl) c12 ?_
              refine RunF.go 3 [0, 1, 5, 21] (k' := (pin Go.Proofs.Try.f26 [1, 1, 0, 0, 0, 1, 0, 0, 1, 0, 1, 0] 1)) (L' := [(0, .slice A0_0 x0_0.length c0_0), (1, .bool a1), (5, .slice A5_0 x5_0.length c5_0), (21, .slice A0_0 x0_0.length c0_0)]) (w' := W10) (by kernel_rfl) ?_
              rcases two (decide (4 ≤ (x0_0.length : Int))) with c13 | c13
              · replace h := of_true h c13
                have zc13 := of_decide_eq_true c13
                obtain ⟨A14, n15, c16, hy17, rfl, hs18⟩ := cut3 (P := Go.Proofs.Try.prog) (n := 31) (k := (pin Go.Proofs.Try.f26 [1, 1, 0, 0, 0, 1, 0, 0, 1, 0, 1, 0] 1)) (L := [(0, .slice A0_0 x0_0.length c0_0), (1, .bool a1), (5, .slice A5_0 x5_0.length c5_0), (21, .slice A0_0 x0_0.length c0_0)]) (d := some 22) (A := A0_0) (m := x0_0.length) (c := c0_0) (l := 0) (h := 4) (q := 4) (k2 := (pin Go.Proofs.Try.f26 [1, 1, 0, 0, 0, 1, 0, 0, 1, 0, 1, 0] 2)) .u8 x0_0 (by kernel_rfl) (by omega) (by omega) (by omega) (by omega) (hrx0_0.mono hM.below)
                clear zc13
                refine RunF.y hy17 trivial ?_
                obtain ⟨t20, ht20, h⟩ := Option.bind_eq_some_iff.mp h
                refine RunF.call (d := some 23) (g := 46) (args := #[.slice A14 (((x0_0.take (4 : Int).toNat).drop (0 : Int).toNat).length) c16]) (k2 := (pin Go.Proofs.Try.f26 [1, 1, 0, 0, 0, 1, 0, 0, 1, 0, 1, 0] 3)) (by kernel_rfl) (words_Le32.calls k A14 (((x0_0.take (4 : Int).toNat).drop (0 : Int).toNat).length) c16 ((x0_0.take (4 : Int).toNat).drop (0 : Int).toNat) t20 _ (hs18 _ (hrx0_0.mono hM.below)) ht20) ?_
                rintro _ W19 ⟨rfl, hM_⟩
                replace hM := hM.call hM_
                clear hM_ ht20
                refine RunF.go 8 [0, 1, 26, 27] (k' := (pin Go.Proofs.Try.f26 [1, 1, 0, 0, 0, 1, 0, 0, 1, 1] 2)) (L' := [(0, .slice A0_0 x0_0.length c0_0), (1, .bool a1), (26, .slice A5_0 x5_0.length c5_0), (27, .int .u32 t20.1)]) (w' := W19) (by kernel_rfl) ?_
                refine RunF.new 43 1 1 (nums .u32 [t20.1]) (d := some 28) (k2 := (pin Go.Proofs.Try.f26 [1, 1, 0, 0, 0, 1, 0, 0, 1, 1] 3)) hM (by simp [nums, bools, strs]) (by kernel_rfl) (by kernel_rfl) ?_
                replace hM := hM
                intro g21 W22 hM
                rcases two (decide (x5_0.length + ([t20.1] : List Int).length ≤ 1000000000)) with c28 | c28
                · replace h := of_true h c28
                  have h_ := of_decide_eq_true c28
                  obtain ⟨A24, n25, c26, W27, hD, hM', hS_⟩ := app_does (P := Go.Proofs.Try.prog) (n := 31) (k := (pin Go.Proofs.Try.f26 [1, 1, 0, 0, 0, 1, 0, 0, 1, 1] 3)) (L := (upd [(0, .slice A0_0 x0_0.length c0_0), (1, .bool a1), (26, .slice A5_0 x5_0.length c5_0), (27, .int .u32 t20.1)] (some 28) (.slice (some ⟨g21, 0, none⟩) 1 1))) (d := some 29) (e := 43) (A := A5_0) (m := x5_0.length) (c := c5_0) (A2 := (some ⟨g21, 0, none⟩)) (m2 := 1) (c2 := 1) (cs := nums .u32 x5_0) (ys := nums .u32 ([t20.1] : List Int)) (k2 := (pin Go.Proofs.Try.f26 [1, 1, 0, 0, 0, 1, 0, 0, 1, 1] 4)) [⟨.slice (some ⟨g21, 0, none⟩) 1 1, 43, 1, nums .u32 [t20.1]⟩] [] (by kernel_rfl) (hM.pick [0, 1] rfl rfl) (hM.rd 0 rfl) (one_nums _ _) (by omega)
                  rw [nums_append] at hM'
                  replace hM := hM'; clear h_ hM'
                  obtain rfl : (x5_0 ++ ([t20.1] : List Int)).length = n25 := by have h_ := (hM.rd 1 rfl).1; simpa only [nums_length, bools_length, strs_length] using h_
                  refine RunF.does hD ?_
                  clear hD hS_
                  refine RunF.go 5 [1, 5, 11] (k' := (pin Go.Proofs.Try.f26 [1, 1, 0, 0, 0, 1, 1] 1)) (L' := [(1, .bool a1), (5, .slice A24 ((x5_0 ++ ([t20.1] : List Int)).length) c26), (11, .slice A0_0 x0_0.length c0_0)]) (w' := W27) (by kernel_rfl) ?_
                  rcases two (decide (4 ≤ (x0_0.length : Int))) with c30 | c30
                  · replace h := of_true h c30
                    have zc30 := of_decide_eq_true c30
                    obtain ⟨A31, n32, c33, hy34, rfl, hs35⟩ := cut (P := Go.Proofs.Try.prog) (n := 31) (k := (pin Go.Proofs.Try.f26 [1, 1, 0, 0, 0, 1, 1] 1)) (L := [(1, .bool a1), (5, .slice A24 ((x5_0 ++ ([t20.1] : List Int)).length) c26), (11, .slice A0_0 x0_0.length c0_0)]) (d := some 12) (A := A0_0) (m := x0_0.length) (c := c0_0) (l := 4) (h := (x0_0.length : Int)) (k2 := (pin Go.Proofs.Try.f26 [1, 1, 0, 0, 0, 1, 1] 2)) .u8 x0_0 (by kernel_rfl) (by omega) (by omega) (by omega) (hrx0_0.mono hM.below)
                    clear zc30
                    refine RunF.y hy34 trivial ?_
                    refine RunF.go 3 [0, 1, 5] (k' := (pl Go.Proofs.Try.f26 [1, 1, 0, 0, 0])) (L' := [(0, .slice A31 (((x0_0.take ((x0_0.length : Int) : Int).toNat).drop (4 : Int).toNat).length) c33), (1, .bool a1), (5, .slice A24 ((x5_0 ++ ([t20.1] : List Int)).length) c26)]) (w' := W27) (by kernel_rfl) ?_
                    exact ih0 k (by omega) A31 c33 ((x0_0.take ((x0_0.length : Int) : Int).toNat).drop (4 : Int).toNat) A24 c26 (x5_0 ++ ([t20.1] : List Int)) _ (hM.pick [1] rfl rfl) (hs35 _ hrx0_0) h
                  · replace h := of_false h c30
                    cases h
                · replace h := of_false h c28
                  cases h
              · replace h := of_false h c13
                cases h
            · replace h := of_false h c12
              refine RunF.know 19 (b := false) (by kernel_rfl) c12 ?_
              refine RunF.go 5 [0, 1, 26, 27] (k' := (pin Go.Proofs.Try.f26 [1, 1, 0, 0, 0, 1, 0, 0, 1, 1] 2)) (L' := [(0, .slice A0_0 x0_0.length c0_0), (1, .bool a1), (26, .slice A5_0 x5_0.length c5_0), (27, .int .u32 t11.1)]) (w' := W10) (by kernel_rfl) ?_
              refine RunF.new 43 1 1 (nums .u32 [t11.1]) (d := some 28) (k2 := (pin Go.Proofs.Try.f26 [1, 1, 0, 0, 0, 1, 0, 0, 1, 1] 3)) hM (by simp [nums, bools, strs]) (by kernel_rfl) (by kernel_rfl) ?_
              replace hM := hM
              intro g36 W37 hM
              rcases two (decide (x5_0.length + ([t11.1] : List Int).length ≤ 1000000000)) with c43 | c43
              · replace h := of_true h c43
                have h_ := of_decide_eq_true c43
                obtain ⟨A39, n40, c41, W42, hD, hM', hS_⟩ := app_does (P := Go.Proofs.Try.prog) (n := 31) (k := (pin Go.Proofs.Try.f26 [1, 1, 0, 0, 0, 1, 0, 0, 1, 1] 3)) (L := (upd [(0, .slice A0_0 x0_0.length c0_0), (1, .bool a1), (26, .slice A5_0 x5_0.length c5_0), (27, .int .u32 t11.1)] (some 28) (.slice (some ⟨g36, 0, none⟩) 1 1))) (d := some 29) (e := 43) (A := A5_0) (m := x5_0.length) (c := c5_0) (A2 := (some ⟨g36, 0, none⟩)) (m2 := 1) (c2 := 1) (cs := nums .u32 x5_0) (ys := nums .u32 ([t11.1] : List Int)) (k2 := (pin Go.Proofs.Try.f26 [1, 1, 0, 0, 0, 1, 0, 0, 1, 1] 4)) [⟨.slice (some ⟨g36, 0, none⟩) 1 1, 43, 1, nums .u32 [t11.1]⟩] [] (by kernel_rfl) (hM.pick [0, 1] rfl rfl) (hM.rd 0 rfl) (one_nums _ _) (by omega)
                rw [nums_append] at hM'
                replace hM := hM'; clear h_ hM'
                obtain rfl : (x5_0 ++ ([t11.1] : List Int)).length = n40 := by have h_ := (hM.rd 1 rfl).1; simpa only [nums_length, bools_length, strs_length] using h_
                refine RunF.does hD ?_
                clear hD hS_
                refine RunF.go 5 [1, 5, 11] (k' := (pin Go.Proofs.Try.f26 [1, 1, 0, 0, 0, 1, 1] 1)) (L' := [(1, .bool a1), (5, .slice A39 ((x5_0 ++ ([t11.1] : List Int)).length) c41), (11, .slice A0_0 x0_0.length c0_0)]) (w' := W42) (by kernel_rfl) ?_
                rcases two (decide (4 ≤ (x0_0.length : Int))) with c45 | c45
                · replace h := of_true h c45
                  have zc45 := of_decide_eq_true c45
                  obtain ⟨A46, n47, c48, hy49, rfl, hs50⟩ := cut (P := Go.Proofs.Try.prog) (n := 31) (k := (pin Go.Proofs.Try.f26 [1, 1, 0, 0, 0, 1, 1] 1)) (L := [(1, .bool a1), (5, .slice A39 ((x5_0 ++ ([t11.1] : List Int)).length) c41), (11, .slice A0_0 x0_0.length c0_0)]) (d := some 12) (A := A0_0) (m := x0_0.length) (c := c0_0) (l := 4) (h := (x0_0.length : Int)) (k2 := (pin Go.Proofs.Try.f26 [1, 1, 0, 0, 0, 1, 1] 2)) .u8 x0_0 (by kernel_rfl) (by omega) (by omega) (by omega) (hrx0_0.mono hM.below)
                  clear zc45
                  refine RunF.y hy49 trivial ?_
                  refine RunF.go 3 [0, 1, 5] (k' := (pl Go.Proofs.Try.f26 [1, 1, 0, 0, 0])) (L' := [(0, .slice A46 (((x0_0.take ((x0_0.length : Int) : Int).toNat).drop (4 : Int).toNat).length) c48), (1, .bool a1), (5, .slice A39 ((x5_0 ++ ([t11.1] : List Int)).length) c41)]) (w' := W42) (by kernel_rfl) ?_
                  exact ih0 k (by omega) A46 c48 ((x0_0.take ((x0_0.length : Int) : Int).toNat).drop (4 : Int).toNat) A39 c41 (x5_0 ++ ([t11.1] : List Int)) _ (hM.pick [1] rfl rfl) (hs50 _ hrx0_0) h
                · replace h := of_false h c45
                  cases h
              · replace h := of_false h c43
                cases h
          · replace h := of_false h c4
            cases h
        · replace h := of_false h c3
          refine RunF.know 10 (b := false) (by kernel_rfl) c3 ?_
          refine RunF.go 7 [4] (k' := (pl Go.Proofs.Try.f26 [1, 1, 1, 1])) (L' := [(4, .slice A5_0 x5_0.length c5_0)]) (w' := W) (by kernel_rfl) ?_
          obtain rfl := Option.some.inj h
          exact RunF.ret1 4 (.slice A5_0 x5_0.length c5_0) (fn := Go.Proofs.Try.f26) Go.Proofs.Try.func26 (by kernel_rfl) (by kernel_rfl) (by kernel_rfl) ⟨_, rfl, A5_0, x5_0.length, c5_0, rfl, (hM.pick [0] rfl rfl)⟩
  exact l0 k (Nat.le_refl _) Ap0 cp0 a0 none 0 ([] : List Int) _ (hM.pick [0] rfl rfl) hr0 h

/-! ### scrim/words.rest: function 56 -/
def words_rest.f (k : Nat) (a0 : Int) (a1 : Int) : Option (Int) := if (decide (a1 = 0)) = true then (none) else (if (decide (a1 = 0)) = true then (none) else (some (Int.tmod (I64 ((Int.tmod a0 a1) + a1)) a1)))
set_option maxRecDepth 100000 in
theorem words_rest.calls (k : Nat) (a0 : Int) (a1 : Int) (r : Int) (w : World) (h : words_rest.f k a0 a1 = some r) :
    Calls Go.Proofs.Try.prog 56 #[.int .i64 a0, .int .i64 a1] w (Ret fun v w' => v = .int .i64 r ∧ Mem w w' []) := by
  unfold words_rest.f at h
  refine calls_of [.int .i64 a0, .int .i64 a1] (fn := Go.Proofs.Try.f56) Go.Proofs.Try.func56 (by kernel_rfl) (by kernel_rfl) ?_
  have hM := Mem.refl w
  refine RunF.go 8 [1, 5, 6] (k' := (pin Go.Proofs.Try.f56 [1, 0] 2)) (L' := [(1, .int .i64 a1), (5, .int .i64 a0), (6, .int .i64 a1)]) (w' := w) (by kernel_rfl) ?_
  rcases two (decide (a1 = 0)) with c1 | c1
  · replace h := of_true h c1
    cases h
  · replace h := of_false h c1
    refine RunF.y (div_y (d := some 7) (b := false) (kd := .i64) (x := a0) (y := a1) (k2 := (pin Go.Proofs.Try.f56 [1, 0] 3)) (by kernel_rfl) c1) trivial ?_
    refine RunF.go 3 [9, 10] (k' := (pin Go.Proofs.Try.f56 [1, 0] 6)) (L' := [(9, .int .i64 (I64 ((Int.tmod a0 a1) + a1))), (10, .int .i64 a1)]) (w' := w) (by kernel_rfl) ?_
    rcases two (decide (a1 = 0)) with c2 | c2
    · replace h := of_true h c2
      cases h
    · replace h := of_false h c2
      refine RunF.y (div_y (d := some 11) (b := false) (kd := .i64) (x := I64 ((Int.tmod a0 a1) + a1)) (y := a1) (k2 := (pin Go.Proofs.Try.f56 [1, 0] 7)) (by kernel_rfl) c2) trivial ?_
      refine RunF.go 2 [4] (k' := (pl Go.Proofs.Try.f56 [1, 1])) (L' := [(4, .int .i64 (Int.tmod (I64 ((Int.tmod a0 a1) + a1)) a1))]) (w' := w) (by kernel_rfl) ?_
      obtain rfl := Option.some.inj h
      exact RunF.ret1 4 (.int .i64 (Int.tmod (I64 ((Int.tmod a0 a1) + a1)) a1)) (fn := Go.Proofs.Try.f56) Go.Proofs.Try.func56 (by kernel_rfl) (by kernel_rfl) (by kernel_rfl) ⟨_, rfl, rfl, (hM.pick [] rfl rfl)⟩

/-! ### scrim/words.Rol32: function 41 -/
def words_Rol32.f (k : Nat) (a0 : Int) (a1 : Int) : Option (Int) := (words_rest.f k a1 32).bind fun t2 => (if (decide (0 ≤ (U64 (t2)))) = true then (if (decide (0 ≤ (U64 (32 - (U64 (t2)))))) = true then (some (bor .u32 (shlv .u32 a0 (U64 (t2))) (shrv .u32 a0 (U64 (32 - (U64 (t2))))))) else (none)) else (none))
set_option maxRecDepth 100000 in
theorem words_Rol32.calls (k : Nat) (a0 : Int) (a1 : Int) (r : Int) (w : World) (h : words_Rol32.f k a0 a1 = some r) :
    Calls Go.Proofs.Try.prog 41 #[.int .u32 a0, .int .i64 a1] w (Ret fun v w' => v = .int .u32 r ∧ Mem w w' []) := by
  unfold words_Rol32.f at h
  refine calls_of [.int .u32 a0, .int .i64 a1] (fn := Go.Proofs.Try.f41) Go.Proofs.Try.func41 (by kernel_rfl) (by kernel_rfl) ?_
  have hM := Mem.refl w
  refine RunF.go 7 [0, 6] (k' := (pin Go.Proofs.Try.f41 [1, 0] 1)) (L' := [(0, .int .u32 a0), (6, .int .i64 a1)]) (w' := w) (by kernel_rfl) ?_
  obtain ⟨t2, ht2, h⟩ := Option.bind_eq_some_iff.mp h
  refine RunF.call (d := some 7) (g := 56) (args := #[.int .i64 a1, .int .i64 32]) (k2 := (pin Go.Proofs.Try.f41 [1, 0] 2)) (by kernel_rfl) (words_rest.calls k a1 32 t2 _ ht2) ?_
  rintro _ W1 ⟨rfl, hM_⟩
  replace hM := hM.call hM_
  clear hM_ ht2
  refine RunF.go 7 [0, 5, 9, 10] (k' := (pin Go.Proofs.Try.f41 [1, 1, 0] 2)) (L' := [(0, .int .u32 a0), (5, .int .u64 (U64 (t2))), (9, .int .u32 a0), (10, .int .u64 (U64 (t2)))]) (w' := W1) (by kernel_rfl) ?_
  rcases two (decide (0 ≤ (U64 (t2)))) with c3 | c3
  · replace h := of_true h c3
    refine RunF.y (sh_y (d := some 11) (b := true) (kd := .u32) (x := a0) (y := U64 (t2)) (k2 := (pin Go.Proofs.Try.f41 [1, 1, 0] 3)) (by kernel_rfl) c3) trivial ?_
    refine RunF.go 3 [11, 12, 14] (k' := (pin Go.Proofs.Try.f41 [1, 1, 0] 6)) (L' := [(11, .int .u32 (shlv .u32 a0 (U64 (t2)))), (12, .int .u32 a0), (14, .int .u64 (U64 (32 - (U64 (t2)))))]) (w' := W1) (by kernel_rfl) ?_
    rcases two (decide (0 ≤ (U64 (32 - (U64 (t2)))))) with c4 | c4
    · replace h := of_true h c4
      refine RunF.y (sh_y (d := some 15) (b := false) (kd := .u32) (x := a0) (y := U64 (32 - (U64 (t2)))) (k2 := (pin Go.Proofs.Try.f41 [1, 1, 0] 7)) (by kernel_rfl) c4) trivial ?_
      refine RunF.go 3 [4] (k' := (pl Go.Proofs.Try.f41 [1, 1, 1])) (L' := [(4, .int .u32 (bor .u32 (shlv .u32 a0 (U64 (t2))) (shrv .u32 a0 (U64 (32 - (U64 (t2)))))))]) (w' := W1) (by kernel_rfl) ?_
      obtain rfl := Option.some.inj h
      exact RunF.ret1 4 (.int .u32 (bor .u32 (shlv .u32 a0 (U64 (t2))) (shrv .u32 a0 (U64 (32 - (U64 (t2))))))) (fn := Go.Proofs.Try.f41) Go.Proofs.Try.func41 (by kernel_rfl) (by kernel_rfl) (by kernel_rfl) ⟨_, rfl, rfl, (hM.pick [] rfl rfl)⟩
    · replace h := of_false h c4
      cases h
  · replace h := of_false h c3
    cases h

/-! ### scrim/small.grow: function 27 -/
mutual
def small_grow.l0 : Nat → (List Int) → (List Int) → Option (List Int)
  | 0, _, _ => none
  | k + 1, a0, x3_0 => if (decide ((x3_0.length : Int) < 26)) = true then (if (decide (0 ≤ (I64 ((x3_0.length : Int) - 1)))) = true then (if (decide ((I64 ((x3_0.length : Int) - 1)) < (x3_0.length : Int))) = true then ((some (U32 ((rd x3_0 (I64 ((x3_0.length : Int) - 1))) + 2654435769) : Int)).bind fun y10 => (if (decide (x3_0.length + ([y10] : List Int).length ≤ 1000000000)) = true then (small_grow.l0 k a0 (x3_0 ++ ([y10] : List Int))) else (none))) else (none)) else (none)) else (small_grow.l1 k a0 x3_0 a0 x3_0 0 0 0)
def small_grow.l1 : Nat → (List Int) → (List Int) → (List Int) → (List Int) → Int → Int → Int → Option (List Int)
  | 0, _, _, _, _, _, _, _ => none
  | k + 1, a0, x3_0, x0_1, x3_1, x4_1, x5_1, x6_1 => if (decide ((a0.length : Int) = 0)) = true then (none) else (if (decide (0 ≤ (Int.tmod x6_1 26))) = true then (if (decide ((Int.tmod x6_1 26) < (x3_0.length : Int))) = true then ((some (U32 ((U32 ((rd x3_1 (Int.tmod x6_1 26)) + x4_1)) + x5_1) : Int)).bind fun y26 => ((words_Rol32.f k y26 3).bind fun t28 => (if (decide (0 ≤ (Int.tmod x6_1 26))) = true then (if (decide ((Int.tmod x6_1 26) < (x3_0.length : Int))) = true then (if (decide (0 ≤ (Int.tmod x6_1 (a0.length : Int)))) = true then (if (decide ((Int.tmod x6_1 (a0.length : Int)) < (a0.length : Int))) = true then ((some (U32 ((U32 ((rd x0_1 (Int.tmod x6_1 (a0.length : Int))) + t28)) + x5_1) : Int)).bind fun y36 => ((words_Rol32.f k y36 (I64 (Int.tmod (U32 (t28 + x5_1)) 32))).bind fun t38 => (if (decide (0 ≤ (Int.tmod x6_1 (a0.length : Int)))) = true then (if (decide ((Int.tmod x6_1 (a0.length : Int)) < (a0.length : Int))) = true then (if (decide ((I64 (x6_1 + 1)) < 78)) = true then (small_grow.l1 k a0 x3_0 (x0_1.set (Int.tmod x6_1 (a0.length : Int) : Int).toNat t38) (x3_1.set (Int.tmod x6_1 26 : Int).toNat t28) t28 t38 (I64 (x6_1 + 1))) else (some (x3_1.set (Int.tmod x6_1 26 : Int).toNat t28))) else (none)) else (none)))) else (none)) else (none)) else (none)) else (none)))) else (none)) else (none))
end
def small_grow.f (k : Nat) (a0 : List Int) : Option (List Int) := small_grow.l0 k a0 ([3084996963] : List Int)
set_option maxRecDepth 100000 in
set_option maxHeartbeats 8000000 in
theorem small_grow.calls (k : Nat) (Ap0 : Option Addr) (np0 cp0 : Nat) (a0 : List Int) (r : List Int) (w : World) (w0 : World) (FT : List Ent) (hM0 : Mem w0 w (Gs [⟨.slice Ap0 np0 cp0, 43, 1, nums .u32 a0⟩] [FT])) (h : small_grow.f k a0 = some r) :
    Calls Go.Proofs.Try.prog 27 #[(.slice Ap0 np0 cp0)] w (Ret fun v w' => ∃ A0' n0' c0', v = .slice A0' n0' c0' ∧ Mem w0 w' (Gs [⟨.slice A0' n0' c0', 43, 1, nums .u32 r⟩] [FT])) := by
  obtain rfl : a0.length = np0 := by have h_ := (hM0.rd 0 rfl).1; simpa [nums_length, bools_length, strs_length] using h_
  unfold small_grow.f at h
  refine calls_of [.slice Ap0 a0.length cp0] (fn := Go.Proofs.Try.f27) Go.Proofs.Try.func27 (by kernel_rfl) (by kernel_rfl) ?_
  have hM := hM0
  refine RunF.go 7 [0] (k' := (pin Go.Proofs.Try.f27 [1, 0, 0] 0)) (L' := [(0, .slice Ap0 a0.length cp0)]) (w' := w) (by kernel_rfl) ?_
  refine RunF.new 43 1 1 (nums .u32 [3084996963]) (d := some 9) (k2 := (pin Go.Proofs.Try.f27 [1, 0, 0] 1)) hM (by simp [nums, bools, strs]) (by kernel_rfl) (by kernel_rfl) ?_
  replace hM := hM
  intro g2 W3 hM
  refine RunF.go 5 [0, 3] (k' := (pl Go.Proofs.Try.f27 [1, 0, 1, 0, 0, 0])) (L' := [(0, .slice Ap0 a0.length cp0), (3, .slice (some ⟨g2, 0, none⟩) 1 1)]) (w' := W3) (by kernel_rfl) ?_
  have l0 : ∀ (k_ : Nat), k_ ≤ k → ∀ (A3_0 : Option Addr) (c3_0 : Nat) (x3_0 : List Int) (W : World) (hM : Mem w0 W (Gs [⟨.slice Ap0 a0.length cp0, 43, 1, nums .u32 a0⟩, ⟨.slice A3_0 x3_0.length c3_0, 43, 1, nums .u32 x3_0⟩] [FT])) (h : small_grow.l0 k_ a0 x3_0 = some r), RunF Go.Proofs.Try.prog (Ret fun v w' => ∃ A0' n0' c0', v = .slice A0' n0' c0' ∧ Mem w0 w' (Gs [⟨.slice A0' n0' c0', 43, 1, nums .u32 r⟩] [FT])) 27 (pl Go.Proofs.Try.f27 [1, 0, 1, 0, 0, 0]) 65 [(0, .slice Ap0 a0.length cp0), (3, .slice A3_0 x3_0.length c3_0)] W := by
    intro k_
    induction k_ using Nat.strongRecOn with
    | _ k_ ih0 =>
      intro hk A3_0 c3_0 x3_0 W hM h
      cases k_ with
      | zero => exact absurd h (by simp [small_grow.l0])
      | succ k =>
        simp only [small_grow.l0] at h
        replace ih0 : ∀ m, m ≤ k → _ := fun m hm => ih0 m (by omega) (by omega)
        refine RunF.go 7 [0, 3, 12] (k' := (pl Go.Proofs.Try.f27 [1, 0, 1, 0, 0, 0, 0, 1])) (L' := [(0, .slice Ap0 a0.length cp0), (3, .slice A3_0 x3_0.length c3_0), (12, .bool (decide ((x3_0.length : Int) < 26)))]) (w' := W) (by kernel_rfl) ?_
        rcases two (decide ((x3_0.length : Int) < 26)) with c6 | c6
        · replace h := of_true h c6
          refine RunF.know 12 (b := true) (by kernel_rfl) c6 ?_
          refine RunF.go 9 [0, 13, 14, 17] (k' := (pin Go.Proofs.Try.f27 [1, 0, 1, 0, 0, 0, 1, 0] 5)) (L' := [(0, .slice Ap0 a0.length cp0), (13, .slice A3_0 x3_0.length c3_0), (14, .slice A3_0 x3_0.length c3_0), (17, .int .i64 (I64 ((x3_0.length : Int) - 1)))]) (w' := W) (by kernel_rfl) ?_
          rcases two (decide (0 ≤ (I64 ((x3_0.length : Int) - 1)))) with c8 | c8
          · replace h := of_true h c8
            rcases two (decide ((I64 ((x3_0.length : Int) - 1)) < (x3_0.length : Int))) with c9 | c9
            · replace h := of_true h c9
              obtain ⟨q7, hAq7, hcq7, hfq7, hlq7⟩ := hM.num_at 1 rfl (i := I64 ((x3_0.length : Int) - 1)) (of_decide_eq_true c8) (by have h_ := of_decide_eq_true c9; omega)
              refine RunF.y (idx_own (d := some 18) (A := A3_0) (m := x3_0.length) (i := I64 ((x3_0.length : Int) - 1)) (k2 := (pin Go.Proofs.Try.f27 [1, 0, 1, 0, 0, 0, 1, 0] 6)) (by kernel_rfl) (of_decide_eq_true c8) (by have h_ := of_decide_eq_true c9; omega) hAq7) trivial ?_
              refine RunF.y (ld_y (d := some 19) (p := ⟨q7, (I64 ((x3_0.length : Int) - 1) : Int).toNat, none⟩) (k2 := (pin Go.Proofs.Try.f27 [1, 0, 1, 0, 0, 0, 1, 0] 7)) (.int .u32 (rd x3_0 (I64 ((x3_0.length : Int) - 1)))) (by kernel_rfl)) hcq7 ?_
              refine RunF.go 1 [0, 13, 20] (k' := (pin Go.Proofs.Try.f27 [1, 0, 1, 0, 0, 0, 1, 0] 8)) (L' := [(0, .slice Ap0 a0.length cp0), (13, .slice A3_0 x3_0.length c3_0), (20, .int .u32 (U32 ((rd x3_0 (I64 ((x3_0.length : Int) - 1))) + 2654435769)))]) (w' := W) (by kernel_rfl) ?_
              obtain ⟨y10, hy, h⟩ := Option.bind_eq_some_iff.mp h
              rw [show (U32 ((rd x3_0 (I64 ((x3_0.length : Int) - 1))) + 2654435769)) = y10 from Option.some.inj hy]
              clear hy
              refine RunF.new 43 1 1 (nums .u32 [y10]) (d := some 21) (k2 := (pin Go.Proofs.Try.f27 [1, 0, 1, 0, 0, 0, 1, 0] 9)) hM (by simp [nums, bools, strs]) (by kernel_rfl) (by kernel_rfl) ?_
              replace hM := hM
              intro g11 W12 hM
              rcases two (decide (x3_0.length + ([y10] : List Int).length ≤ 1000000000)) with c18 | c18
              · replace h := of_true h c18
                have h_ := of_decide_eq_true c18
                obtain ⟨A14, n15, c16, W17, hD, hM', hS_⟩ := app_does (P := Go.Proofs.Try.prog) (n := 65) (k := (pin Go.Proofs.Try.f27 [1, 0, 1, 0, 0, 0, 1, 0] 9)) (L := (upd [(0, .slice Ap0 a0.length cp0), (13, .slice A3_0 x3_0.length c3_0), (20, .int .u32 y10)] (some 21) (.slice (some ⟨g11, 0, none⟩) 1 1))) (d := some 22) (e := 43) (A := A3_0) (m := x3_0.length) (c := c3_0) (A2 := (some ⟨g11, 0, none⟩)) (m2 := 1) (c2 := 1) (cs := nums .u32 x3_0) (ys := nums .u32 ([y10] : List Int)) (k2 := (pin Go.Proofs.Try.f27 [1, 0, 1, 0, 0, 0, 1, 0] 10)) [⟨.slice (some ⟨g11, 0, none⟩) 1 1, 43, 1, nums .u32 [y10]⟩, ⟨.slice Ap0 a0.length cp0, 43, 1, nums .u32 a0⟩] (Gs [] [FT]) (by kernel_rfl) (hM.as rfl) (hM.rd 0 rfl) (one_nums _ _) (by omega)
                rw [nums_append] at hM'
                replace hM := hM'; clear h_ hM'
                obtain rfl : (x3_0 ++ ([y10] : List Int)).length = n15 := by have h_ := (hM.rd 2 rfl).1; simpa only [nums_length, bools_length, strs_length] using h_
                refine RunF.does hD ?_
                clear hD hS_
                refine RunF.go 4 [0, 3] (k' := (pl Go.Proofs.Try.f27 [1, 0, 1, 0, 0, 0])) (L' := [(0, .slice Ap0 a0.length cp0), (3, .slice A14 ((x3_0 ++ ([y10] : List Int)).length) c16)]) (w' := W17) (by kernel_rfl) ?_
                exact ih0 k (by omega) A14 c16 (x3_0 ++ ([y10] : List Int)) _ (Mem.pickF (hM.as (H' := Gs [⟨.slice (some ⟨g11, 0, none⟩) 1 1, 43, 1, nums .u32 [y10]⟩, ⟨.slice Ap0 a0.length cp0, 43, 1, nums .u32 a0⟩, ⟨.slice A14 ((x3_0 ++ ([y10] : List Int)).length) c16, 43, 1, nums .u32 (x3_0 ++ ([y10] : List Int))⟩] [FT]) rfl) [1, 2, 3] rfl rfl rfl) h
              · replace h := of_false h c18
                cases h
            · replace h := of_false h c9
              cases h
          · replace h := of_false h c8
            cases h
        · replace h := of_false h c6
          refine RunF.know 12 (b := false) (by kernel_rfl) c6 ?_
          refine RunF.go 13 [0, 3, 4, 5, 6] (k' := (pl Go.Proofs.Try.f27 [1, 0, 1, 1, 1, 1, 1])) (L' := [(0, .slice Ap0 a0.length cp0), (3, .slice A3_0 x3_0.length c3_0), (4, .int .u32 0), (5, .int .u32 0), (6, .int .i64 0)]) (w' := W) (by kernel_rfl) ?_
          have l1 : ∀ (k_ : Nat), k_ ≤ k → ∀ (x0_1 : List Int) (x3_1 : List Int) (x4_1 : Int) (x5_1 : Int) (x6_1 : Int) (W : World) (hM : Mem w0 W (Gs [⟨.slice Ap0 a0.length cp0, 43, 1, nums .u32 x0_1⟩, ⟨.slice A3_0 x3_0.length c3_0, 43, 1, nums .u32 x3_1⟩] [FT])) (h : small_grow.l1 k_ a0 x3_0 x0_1 x3_1 x4_1 x5_1 x6_1 = some r), RunF Go.Proofs.Try.prog (Ret fun v w' => ∃ A0' n0' c0', v = .slice A0' n0' c0' ∧ Mem w0 w' (Gs [⟨.slice A0' n0' c0', 43, 1, nums .u32 r⟩] [FT])) 27 (pl Go.Proofs.Try.f27 [1, 0, 1, 1, 1, 1, 1]) 65 [(0, .slice Ap0 a0.length cp0), (3, .slice A3_0 x3_0.length c3_0), (4, .int .u32 x4_1), (5, .int .u32 x5_1), (6, .int .i64 x6_1)] W := by
            intro k_
            induction k_ using Nat.strongRecOn with
            | _ k_ ih1 =>
              intro hk x0_1 x3_1 x4_1 x5_1 x6_1 W hM h
              cases k_ with
              | zero => exact absurd h (by simp [small_grow.l1])
              | succ k =>
                simp only [small_grow.l1] at h
                replace ih1 : ∀ m, m ≤ k → _ := fun m hm => ih1 m (by omega) (by omega)
                replace ih0 : ∀ m, m ≤ k → _ := fun m hm => ih0 m (by omega)
                refine RunF.go 1 [0, 3, 4, 5, 6] (k' := (pl Go.Proofs.Try.f27 [1, 0, 1, 1, 1, 1, 1, 0])) (L' := [(0, .slice Ap0 a0.length cp0), (3, .slice A3_0 x3_0.length c3_0), (4, .int .u32 x4_1), (5, .int .u32 x5_1), (6, .int .i64 x6_1)]) (w' := W) (by kernel_rfl) ?_
                refine RunF.draw (Still ({ W with drawn := W.drawn + 1 } : World) []) (by kernel_rfl) (by kernel_rfl) ?_
                have hMd21 := hM.drew
                have hS := Still.refl ({ W with drawn := W.drawn + 1 } : World) []
                generalize ({ W with drawn := W.drawn + 1 } : World) = W20 at hMd21 hS ⊢
                replace hM := hMd21
                refine RunAny.y 0 (by kernel_rfl) (yl_pure (d := some 23) (v := .int .i64 x6_1) (k2 := [.inRegion (opsOf (pl Go.Proofs.Try.f27 [1, 0, 1, 1, 1, 1, 1, 0])) []]) fun w => by kernel_rfl) (fun _ _ => trivial) hS ?_
                refine RunAny.y 1 (by kernel_rfl) (yl_pure (d := some 24) (v := .int .i64 (Int.tmod x6_1 26)) (k2 := [.inRegion (opsOf (pl Go.Proofs.Try.f27 [1, 0, 1, 1, 1, 1, 1, 0])) []]) fun w => by kernel_rfl) (fun _ _ => trivial) hS ?_
                refine RunAny.y 2 (by kernel_rfl) (yl_pure (d := some 25) (v := .int .i64 x6_1) (k2 := [.inRegion (opsOf (pl Go.Proofs.Try.f27 [1, 0, 1, 1, 1, 1, 1, 0])) []]) fun w => by kernel_rfl) (fun _ _ => trivial) hS ?_
                refine RunAny.y 3 (by kernel_rfl) (yl_pure (d := some 26) (v := .slice Ap0 a0.length cp0) (k2 := [.inRegion (opsOf (pl Go.Proofs.Try.f27 [1, 0, 1, 1, 1, 1, 1, 0])) []]) fun w => by kernel_rfl) (fun _ _ => trivial) hS ?_
                refine RunAny.y 4 (by kernel_rfl) (yl_pure (d := some 27) (v := .int .i64 (a0.length : Int)) (k2 := [.inRegion (opsOf (pl Go.Proofs.Try.f27 [1, 0, 1, 1, 1, 1, 1, 0])) []]) fun w => by kernel_rfl) (fun _ _ => trivial) hS ?_
                rcases two (decide ((a0.length : Int) = 0)) with c22 | c22
                · replace h := of_true h c22
                  cases h
                · replace h := of_false h c22
                  refine RunAny.y 5 (by kernel_rfl) (div_y (d := some 28) (b := false) (kd := .i64) (x := x6_1) (y := (a0.length : Int)) (k2 := [.inRegion (opsOf (pl Go.Proofs.Try.f27 [1, 0, 1, 1, 1, 1, 1, 0])) []]) (by kernel_rfl) c22) (fun _ _ => trivial) hS ?_
                  refine RunAny.y 6 (by kernel_rfl) (yl_pure (d := some 7) (v := .int .i64 (Int.tmod x6_1 26)) (k2 := [.inRegion (opsOf (pl Go.Proofs.Try.f27 [1, 0, 1, 1, 1, 1, 1, 0])) []]) fun w => by kernel_rfl) (fun _ _ => trivial) hS ?_
                  refine RunAny.y 7 (by kernel_rfl) (yl_pure (d := some 8) (v := .int .i64 (Int.tmod x6_1 (a0.length : Int))) (k2 := [.inRegion (opsOf (pl Go.Proofs.Try.f27 [1, 0, 1, 1, 1, 1, 1, 0])) []]) fun w => by kernel_rfl) (fun _ _ => trivial) hS ?_
                  refine RunAny.done (by kernel_rfl) ?_
                  clear hS
                  refine RunF.go 4 [0, 3, 4, 5, 6, 7, 8, 29, 30] (k' := (pin Go.Proofs.Try.f27 [1, 0, 1, 1, 1, 1, 1, 1, 0] 2)) (L' := [(0, .slice Ap0 a0.length cp0), (3, .slice A3_0 x3_0.length c3_0), (4, .int .u32 x4_1), (5, .int .u32 x5_1), (6, .int .i64 x6_1), (7, .int .i64 (Int.tmod x6_1 26)), (8, .int .i64 (Int.tmod x6_1 (a0.length : Int))), (29, .slice A3_0 x3_0.length c3_0), (30, .int .i64 (Int.tmod x6_1 26))]) (w' := W20) (by kernel_rfl) ?_
                  rcases two (decide (0 ≤ (Int.tmod x6_1 26))) with c24 | c24
                  · replace h := of_true h c24
                    rcases two (decide ((Int.tmod x6_1 26) < (x3_0.length : Int))) with c25 | c25
                    · replace h := of_true h c25
                      obtain ⟨q23, hAq23, hcq23, hfq23, hlq23⟩ := hM.num_at 1 rfl (i := Int.tmod x6_1 26) (of_decide_eq_true c24) (by have h_ := of_decide_eq_true c25; omega)
                      refine RunF.y (idx_own (d := some 31) (A := A3_0) (m := x3_0.length) (i := Int.tmod x6_1 26) (k2 := (pin Go.Proofs.Try.f27 [1, 0, 1, 1, 1, 1, 1, 1, 0] 3)) (by kernel_rfl) (of_decide_eq_true c24) (by have h_ := of_decide_eq_true c25; omega) hAq23) trivial ?_
                      refine RunF.y (ld_y (d := some 32) (p := ⟨q23, (Int.tmod x6_1 26 : Int).toNat, none⟩) (k2 := (pin Go.Proofs.Try.f27 [1, 0, 1, 1, 1, 1, 1, 1, 0] 4)) (.int .u32 (rd x3_1 (Int.tmod x6_1 26))) (by kernel_rfl)) hcq23 ?_
                      refine RunF.go 4 [0, 3, 5, 6, 7, 8, 36] (k' := (pin Go.Proofs.Try.f27 [1, 0, 1, 1, 1, 1, 1, 1, 0] 8)) (L' := [(0, .slice Ap0 a0.length cp0), (3, .slice A3_0 x3_0.length c3_0), (5, .int .u32 x5_1), (6, .int .i64 x6_1), (7, .int .i64 (Int.tmod x6_1 26)), (8, .int .i64 (Int.tmod x6_1 (a0.length : Int))), (36, .int .u32 (U32 ((U32 ((rd x3_1 (Int.tmod x6_1 26)) + x4_1)) + x5_1)))]) (w' := W20) (by kernel_rfl) ?_
                      obtain ⟨y26, hy, h⟩ := Option.bind_eq_some_iff.mp h
                      rw [show (U32 ((U32 ((rd x3_1 (Int.tmod x6_1 26)) + x4_1)) + x5_1)) = y26 from Option.some.inj hy]
                      clear hy
                      obtain ⟨t28, ht28, h⟩ := Option.bind_eq_some_iff.mp h
                      refine RunF.call (d := some 37) (g := 41) (args := #[.int .u32 y26, .int .i64 3]) (k2 := (pin Go.Proofs.Try.f27 [1, 0, 1, 1, 1, 1, 1, 1, 0] 9)) (by kernel_rfl) (words_Rol32.calls k y26 3 t28 _ ht28) ?_
                      rintro _ W27 ⟨rfl, hM_⟩
                      replace hM : Mem w0 W27 (Gs [⟨.slice Ap0 a0.length cp0, 43, 1, nums .u32 x0_1⟩, ⟨.slice A3_0 x3_0.length c3_0, 43, 1, nums .u32 x3_1⟩] [FT]) := (Mem.callG (hM.as (H' := Gs [⟨.slice Ap0 a0.length cp0, 43, 1, nums .u32 x0_1⟩, ⟨.slice A3_0 x3_0.length c3_0, 43, 1, nums .u32 x3_1⟩] [FT]) rfl) hM_.grp).as rfl
                      clear hM_ ht28
                      refine RunF.go 7 [0, 3, 4, 5, 6, 8, 38, 39, 40] (k' := (pin Go.Proofs.Try.f27 [1, 0, 1, 1, 1, 1, 1, 1, 1, 0] 3)) (L' := [(0, .slice Ap0 a0.length cp0), (3, .slice A3_0 x3_0.length c3_0), (4, .int .u32 t28), (5, .int .u32 x5_1), (6, .int .i64 x6_1), (8, .int .i64 (Int.tmod x6_1 (a0.length : Int))), (38, .slice A3_0 x3_0.length c3_0), (39, .int .i64 (Int.tmod x6_1 26)), (40, .int .u32 t28)]) (w' := W27) (by kernel_rfl) ?_
                      rcases two (decide (0 ≤ (Int.tmod x6_1 26))) with c30 | c30
                      · replace h := of_true h c30
                        rcases two (decide ((Int.tmod x6_1 26) < (x3_0.length : Int))) with c31 | c31
                        · replace h := of_true h c31
                          obtain ⟨q29, hAq29, hcq29, hfq29, hlq29⟩ := hM.num_at 1 rfl (i := Int.tmod x6_1 26) (of_decide_eq_true c30) (by have h_ := of_decide_eq_true c31; omega)
                          refine RunF.y (idx_own (d := some 41) (A := A3_0) (m := x3_0.length) (i := Int.tmod x6_1 26) (k2 := (pin Go.Proofs.Try.f27 [1, 0, 1, 1, 1, 1, 1, 1, 1, 0] 4)) (by kernel_rfl) (of_decide_eq_true c30) (by have h_ := of_decide_eq_true c31; omega) hAq29) trivial ?_
                          obtain ⟨g_, hA_, hc_, hf_, hl_⟩ := hM.num_at 1 rfl (i := Int.tmod x6_1 26) (of_decide_eq_true c30) (by have h_ := of_decide_eq_true c31; omega)
                          obtain rfl : q29 = g_ := by rw [hAq29] at hA_; injection hA_ with hA_; injection hA_
                          refine RunF.doesU (st_u (p := (⟨q29, (Int.tmod x6_1 26 : Int).toNat, none⟩ : Addr)) (v := .int .u32 t28) (k2 := (pin Go.Proofs.Try.f27 [1, 0, 1, 1, 1, 1, 1, 1, 1, 0] 5)) (by kernel_rfl) hc_ hf_) ?_
                          replace hM : Mem w0 (W27.setCell (⟨q29, (Int.tmod x6_1 26 : Int).toNat, none⟩ : Addr) (.int .u32 t28)) (Gs [⟨.slice Ap0 a0.length cp0, 43, 1, nums .u32 x0_1⟩, ⟨.slice A3_0 x3_0.length c3_0, 43, 1, nums .u32 (x3_1.set (Int.tmod x6_1 26 : Int).toNat t28)⟩] [FT]) := Mem.put_num [⟨.slice Ap0 a0.length cp0, 43, 1, nums .u32 x0_1⟩] (Gs [] [FT]) (hM.as rfl) hAq29 _ hl_ _
                          generalize W27.setCell (⟨q29, (Int.tmod x6_1 26 : Int).toNat, none⟩ : Addr) (.int .u32 t28) = W32 at hM ⊢
                          clear hc_ hf_ hl_ hA_ hcq29
                          refine RunF.go 5 [0, 3, 4, 5, 6, 8, 42, 43] (k' := (pin Go.Proofs.Try.f27 [1, 0, 1, 1, 1, 1, 1, 1, 1, 1, 0] 2)) (L' := [(0, .slice Ap0 a0.length cp0), (3, .slice A3_0 x3_0.length c3_0), (4, .int .u32 t28), (5, .int .u32 x5_1), (6, .int .i64 x6_1), (8, .int .i64 (Int.tmod x6_1 (a0.length : Int))), (42, .slice Ap0 a0.length cp0), (43, .int .i64 (Int.tmod x6_1 (a0.length : Int)))]) (w' := W32) (by kernel_rfl) ?_
                          rcases two (decide (0 ≤ (Int.tmod x6_1 (a0.length : Int)))) with c34 | c34
                          · replace h := of_true h c34
                            rcases two (decide ((Int.tmod x6_1 (a0.length : Int)) < (a0.length : Int))) with c35 | c35
                            · replace h := of_true h c35
                              obtain ⟨q33, hAq33, hcq33, hfq33, hlq33⟩ := hM.num_at 0 rfl (i := Int.tmod x6_1 (a0.length : Int)) (of_decide_eq_true c34) (by have h_ := of_decide_eq_true c35; omega)
                              refine RunF.y (idx_own (d := some 44) (A := Ap0) (m := a0.length) (i := Int.tmod x6_1 (a0.length : Int)) (k2 := (pin Go.Proofs.Try.f27 [1, 0, 1, 1, 1, 1, 1, 1, 1, 1, 0] 3)) (by kernel_rfl) (of_decide_eq_true c34) (by have h_ := of_decide_eq_true c35; omega) hAq33) trivial ?_
                              refine RunF.y (ld_y (d := some 45) (p := ⟨q33, (Int.tmod x6_1 (a0.length : Int) : Int).toNat, none⟩) (k2 := (pin Go.Proofs.Try.f27 [1, 0, 1, 1, 1, 1, 1, 1, 1, 1, 0] 4)) (.int .u32 (rd x0_1 (Int.tmod x6_1 (a0.length : Int)))) (by kernel_rfl)) hcq33 ?_
                              refine RunF.go 9 [0, 3, 4, 6, 8, 49, 54] (k' := (pin Go.Proofs.Try.f27 [1, 0, 1, 1, 1, 1, 1, 1, 1, 1, 0] 13)) (L' := [(0, .slice Ap0 a0.length cp0), (3, .slice A3_0 x3_0.length c3_0), (4, .int .u32 t28), (6, .int .i64 x6_1), (8, .int .i64 (Int.tmod x6_1 (a0.length : Int))), (49, .int .u32 (U32 ((U32 ((rd x0_1 (Int.tmod x6_1 (a0.length : Int))) + t28)) + x5_1))), (54, .int .i64 (I64 (Int.tmod (U32 (t28 + x5_1)) 32)))]) (w' := W32) (by kernel_rfl) ?_
                              obtain ⟨y36, hy, h⟩ := Option.bind_eq_some_iff.mp h
                              rw [show (U32 ((U32 ((rd x0_1 (Int.tmod x6_1 (a0.length : Int))) + t28)) + x5_1)) = y36 from Option.some.inj hy]
                              clear hy
                              obtain ⟨t38, ht38, h⟩ := Option.bind_eq_some_iff.mp h
                              refine RunF.call (d := some 55) (g := 41) (args := #[.int .u32 y36, .int .i64 (I64 (Int.tmod (U32 (t28 + x5_1)) 32))]) (k2 := (pin Go.Proofs.Try.f27 [1, 0, 1, 1, 1, 1, 1, 1, 1, 1, 0] 14)) (by kernel_rfl) (words_Rol32.calls k y36 (I64 (Int.tmod (U32 (t28 + x5_1)) 32)) t38 _ ht38) ?_
                              rintro _ W37 ⟨rfl, hM_⟩
                              replace hM : Mem w0 W37 (Gs [⟨.slice Ap0 a0.length cp0, 43, 1, nums .u32 x0_1⟩, ⟨.slice A3_0 x3_0.length c3_0, 43, 1, nums .u32 (x3_1.set (Int.tmod x6_1 26 : Int).toNat t28)⟩] [FT]) := (Mem.callG (hM.as (H' := Gs [⟨.slice Ap0 a0.length cp0, 43, 1, nums .u32 x0_1⟩, ⟨.slice A3_0 x3_0.length c3_0, 43, 1, nums .u32 (x3_1.set (Int.tmod x6_1 26 : Int).toNat t28)⟩] [FT]) rfl) hM_.grp).as rfl
                              clear hM_ ht38
                              refine RunF.go 7 [0, 3, 4, 5, 6, 56, 57, 58] (k' := (pin Go.Proofs.Try.f27 [1, 0, 1, 1, 1, 1, 1, 1, 1, 1, 1, 0] 3)) (L' := [(0, .slice Ap0 a0.length cp0), (3, .slice A3_0 x3_0.length c3_0), (4, .int .u32 t28), (5, .int .u32 t38), (6, .int .i64 x6_1), (56, .slice Ap0 a0.length cp0), (57, .int .i64 (Int.tmod x6_1 (a0.length : Int))), (58, .int .u32 t38)]) (w' := W37) (by kernel_rfl) ?_
                              rcases two (decide (0 ≤ (Int.tmod x6_1 (a0.length : Int)))) with c40 | c40
                              · replace h := of_true h c40
                                rcases two (decide ((Int.tmod x6_1 (a0.length : Int)) < (a0.length : Int))) with c41 | c41
                                · replace h := of_true h c41
                                  obtain ⟨q39, hAq39, hcq39, hfq39, hlq39⟩ := hM.num_at 0 rfl (i := Int.tmod x6_1 (a0.length : Int)) (of_decide_eq_true c40) (by have h_ := of_decide_eq_true c41; omega)
                                  refine RunF.y (idx_own (d := some 59) (A := Ap0) (m := a0.length) (i := Int.tmod x6_1 (a0.length : Int)) (k2 := (pin Go.Proofs.Try.f27 [1, 0, 1, 1, 1, 1, 1, 1, 1, 1, 1, 0] 4)) (by kernel_rfl) (of_decide_eq_true c40) (by have h_ := of_decide_eq_true c41; omega) hAq39) trivial ?_
                                  obtain ⟨g_, hA_, hc_, hf_, hl_⟩ := hM.num_at 0 rfl (i := Int.tmod x6_1 (a0.length : Int)) (of_decide_eq_true c40) (by have h_ := of_decide_eq_true c41; omega)
                                  obtain rfl : q39 = g_ := by rw [hAq39] at hA_; injection hA_ with hA_; injection hA_
                                  refine RunF.doesU (st_u (p := (⟨q39, (Int.tmod x6_1 (a0.length : Int) : Int).toNat, none⟩ : Addr)) (v := .int .u32 t38) (k2 := (pin Go.Proofs.Try.f27 [1, 0, 1, 1, 1, 1, 1, 1, 1, 1, 1, 0] 5)) (by kernel_rfl) hc_ hf_) ?_
                                  replace hM : Mem w0 (W37.setCell (⟨q39, (Int.tmod x6_1 (a0.length : Int) : Int).toNat, none⟩ : Addr) (.int .u32 t38)) (Gs [⟨.slice Ap0 a0.length cp0, 43, 1, nums .u32 (x0_1.set (Int.tmod x6_1 (a0.length : Int) : Int).toNat t38)⟩, ⟨.slice A3_0 x3_0.length c3_0, 43, 1, nums .u32 (x3_1.set (Int.tmod x6_1 26 : Int).toNat t28)⟩] [FT]) := Mem.put_num [] (Gs [⟨.slice A3_0 x3_0.length c3_0, 43, 1, nums .u32 (x3_1.set (Int.tmod x6_1 26 : Int).toNat t28)⟩] [FT]) (hM.as rfl) hAq39 _ hl_ _
                                  generalize W37.setCell (⟨q39, (Int.tmod x6_1 (a0.length : Int) : Int).toNat, none⟩ : Addr) (.int .u32 t38) = W42 at hM ⊢
                                  clear hc_ hf_ hl_ hA_ hcq39
                                  refine RunF.go 13 [0, 3, 4, 5, 6, 63] (k' := (pl Go.Proofs.Try.f27 [1, 0, 1, 1, 1, 1, 1, 1, 1, 1, 1, 1, 0, 1, 1])) (L' := [(0, .slice Ap0 a0.length cp0), (3, .slice A3_0 x3_0.length c3_0), (4, .int .u32 t28), (5, .int .u32 t38), (6, .int .i64 (I64 (x6_1 + 1))), (63, .bool (decide ((I64 (x6_1 + 1)) < 78)))]) (w' := W42) (by kernel_rfl) ?_
                                  rcases two (decide ((I64 (x6_1 + 1)) < 78)) with c43 | c43
                                  · replace h := of_true h c43
                                    refine RunF.know 63 (b := true) (by kernel_rfl) c43 ?_
                                    refine RunF.go 4 [0, 3, 4, 5, 6] (k' := (pl Go.Proofs.Try.f27 [1, 0, 1, 1, 1, 1, 1])) (L' := [(0, .slice Ap0 a0.length cp0), (3, .slice A3_0 x3_0.length c3_0), (4, .int .u32 t28), (5, .int .u32 t38), (6, .int .i64 (I64 (x6_1 + 1)))]) (w' := W42) (by kernel_rfl) ?_
                                    exact ih1 k (by omega) (x0_1.set (Int.tmod x6_1 (a0.length : Int) : Int).toNat t38) (x3_1.set (Int.tmod x6_1 26 : Int).toNat t28) t28 t38 (I64 (x6_1 + 1)) _ (Mem.pickF (hM.as (H' := Gs [⟨.slice Ap0 a0.length cp0, 43, 1, nums .u32 (x0_1.set (Int.tmod x6_1 (a0.length : Int) : Int).toNat t38)⟩, ⟨.slice A3_0 x3_0.length c3_0, 43, 1, nums .u32 (x3_1.set (Int.tmod x6_1 26 : Int).toNat t28)⟩] [FT]) rfl) [0, 1, 2] rfl rfl rfl) h
                                  · replace h := of_false h c43
                                    refine RunF.know 63 (b := false) (by kernel_rfl) c43 ?_
                                    refine RunF.go 7 [2] (k' := (pl Go.Proofs.Try.f27 [1, 0, 1, 1, 1, 1, 1, 1, 1, 1, 1, 1, 1, 1])) (L' := [(2, .slice A3_0 x3_0.length c3_0)]) (w' := W42) (by kernel_rfl) ?_
                                    obtain rfl := Option.some.inj h
                                    exact RunF.ret1 2 (.slice A3_0 x3_0.length c3_0) (fn := Go.Proofs.Try.f27) Go.Proofs.Try.func27 (by kernel_rfl) (by kernel_rfl) (by kernel_rfl) ⟨_, rfl, A3_0, x3_0.length, c3_0, rfl, (Mem.pickF (hM.as (H' := Gs [⟨.slice Ap0 a0.length cp0, 43, 1, nums .u32 (x0_1.set (Int.tmod x6_1 (a0.length : Int) : Int).toNat t38)⟩, ⟨.slice A3_0 x3_0.length c3_0, 43, 1, nums .u32 (x3_1.set (Int.tmod x6_1 26 : Int).toNat t28)⟩] [FT]) rfl) [1, 2] rfl rfl rfl)⟩
                                · replace h := of_false h c41
                                  cases h
                              · replace h := of_false h c40
                                cases h
                            · replace h := of_false h c35
                              cases h
                          · replace h := of_false h c34
                            cases h
                        · replace h := of_false h c31
                          cases h
                      · replace h := of_false h c30
                        cases h
                    · replace h := of_false h c25
                      cases h
                  · replace h := of_false h c24
                    cases h
          exact l1 k (Nat.le_refl _) a0 x3_0 0 0 0 _ (Mem.pickF (hM.as (H' := Gs [⟨.slice Ap0 a0.length cp0, 43, 1, nums .u32 a0⟩, ⟨.slice A3_0 x3_0.length c3_0, 43, 1, nums .u32 x3_0⟩] [FT]) rfl) [0, 1, 2] rfl rfl rfl) h
  exact l0 k (Nat.le_refl _) (some ⟨g2, 0, none⟩) 1 ([3084996963] : List Int) _ (Mem.pickF (hM.as (H' := Gs [⟨.slice (some ⟨g2, 0, none⟩) 1 1, 43, 1, nums .u32 [3084996963]⟩, ⟨.slice Ap0 a0.length cp0, 43, 1, nums .u32 a0⟩] [FT]) rfl) [1, 0, 2] rfl rfl rfl) h

/-! ### scrim/small.New: function 14 -/
def small_New.f (k : Nat) (a0 : Int) (a1 : List Int) : Option (Option ((List Int) × Int) × Int) := if (a0 == 4) = true then (if ((a1.length : Int) != 16) = true then (some (none, 4)) else ((small_loaded.f k a1 (a0 == 8)).bind fun t4 => (if (a0 == 8) = true then ((small_grow.f k t4).bind fun t11 => (some ((some (t11, a0)), 0))) else (some ((some (t4, a0)), 0))))) else (if (a0 == 8) = true then (if ((a1.length : Int) != 16) = true then (some (none, 4)) else ((small_loaded.f k a1 (a0 == 8)).bind fun t31 => (if (a0 == 8) = true then ((small_grow.f k t31).bind fun t38 => (some ((some (t38, a0)), 0))) else (some ((some (t31, a0)), 0))))) else (if (a0 == 5) = true then (if ((a1.length : Int) != 32) = true then (some (none, 4)) else ((small_loaded.f k a1 (a0 == 8)).bind fun t58 => (if (a0 == 8) = true then ((small_grow.f k t58).bind fun t65 => (some ((some (t65, a0)), 0))) else (some ((some (t58, a0)), 0))))) else (some (none, 2))))
set_option maxRecDepth 100000 in
set_option maxHeartbeats 8000000 in
theorem small_New.calls (k : Nat) (a0 : Int) (Ap1 : Option Addr) (np1 cp1 : Nat) (a1 : List Int) (r : Option ((List Int) × Int) × Int) (w : World) (hr1 : Rd w (.slice Ap1 np1 cp1) (nums .u8 a1)) (h : small_New.f k a0 a1 = some r) :
    Calls Go.Proofs.Try.prog 14 #[.int .i64 a0, (.slice Ap1 np1 cp1)] w (Ret fun v w' => ∃ (v0' : Value) (F0' : List Ent), v = .tuple #[v0', .int .i64 r.2] ∧ (rOpt (rPtr Rs_small_Small)) (Oks F0') v0' r.1 ∧ Mem w w' (Gs [] [F0'])) := by
  obtain rfl : a1.length = np1 := by have h_ := hr1.1; simpa [nums_length, bools_length, strs_length] using h_
  unfold small_New.f at h
  refine calls_of [.int .i64 a0, .slice Ap1 a1.length cp1] (fn := Go.Proofs.Try.f14) Go.Proofs.Try.func14 (by kernel_rfl) (by kernel_rfl) ?_
  have hM := Mem.refl w
  refine RunF.go 21 [0, 1, 6, 8, 9] (k' := (pl Go.Proofs.Try.f14 [1, 1, 0, 1, 0, 0, 1])) (L' := [(0, .int .i64 a0), (1, .slice Ap1 a1.length cp1), (6, .int .i64 16), (8, .int .i64 a0), (9, .bool (a0 == 4))]) (w' := w) (by kernel_rfl) ?_
  rcases two ((a0 == 4)) with c1 | c1
  · replace h := of_true h c1
    refine RunF.know 9 (b := true) (by kernel_rfl) c1 ?_
    refine RunF.go 13 [0, 1, 17] (k' := (pl Go.Proofs.Try.f14 [1, 1, 1, 0, 1])) (L' := [(0, .int .i64 a0), (1, .slice Ap1 a1.length cp1), (17, .bool ((a1.length : Int) != 16))]) (w' := w) (by kernel_rfl) ?_
    rcases two (((a1.length : Int) != 16)) with c2 | c2
    · replace h := of_true h c2
      refine RunF.know 17 (b := true) (by kernel_rfl) c2 ?_
      refine RunF.go 6 [4, 5] (k' := (pl Go.Proofs.Try.f14 [1, 1, 1, 0, 1, 0, 1])) (L' := [(4, .pointer none), (5, .int .i64 4)]) (w' := w) (by kernel_rfl) ?_
      obtain rfl := Option.some.inj h
      exact RunF.ret2 4 5 (.pointer none) (.int .i64 4) (fn := Go.Proofs.Try.f14) Go.Proofs.Try.func14 (by kernel_rfl) (by kernel_rfl) (by kernel_rfl) (by kernel_rfl) ⟨_, rfl, .pointer none, ([] : List Ent), rfl, (.inl ⟨rfl, rfl⟩), (Mem.pickF (hM.as (H' := Gs [] []) rfl) [] rfl rfl (by simp [Gs]))⟩
    · replace h := of_false h c2
      refine RunF.know 17 (b := false) (by kernel_rfl) c2 ?_
      refine RunF.go 7 [0, 18, 20] (k' := (pin Go.Proofs.Try.f14 [1, 1, 1, 1, 0] 3)) (L' := [(0, .int .i64 a0), (18, .slice Ap1 a1.length cp1), (20, .bool (a0 == 8))]) (w' := w) (by kernel_rfl) ?_
      obtain ⟨t4, ht4, h⟩ := Option.bind_eq_some_iff.mp h
      refine RunF.call (d := some 21) (g := 26) (args := #[.slice Ap1 a1.length cp1, .bool (a0 == 8)]) (k2 := (pin Go.Proofs.Try.f14 [1, 1, 1, 1, 0] 4)) (by kernel_rfl) (small_loaded.calls k Ap1 a1.length cp1 a1 (a0 == 8) t4 _ (hr1.mono hM.below) ht4) ?_
      rintro _ W3 ⟨A5, n6, c7, rfl, hM_⟩
      obtain rfl : t4.length = n6 := by have h_ := (hM_.rd 0 rfl).1; simpa [nums_length, bools_length, strs_length] using h_
      replace hM := hM.call hM_
      clear hM_ ht4
      refine RunF.go 8 [0, 7, 23] (k' := (pl Go.Proofs.Try.f14 [1, 1, 1, 1, 1, 0, 1])) (L' := [(0, .int .i64 a0), (7, .slice A5 t4.length c7), (23, .bool (a0 == 8))]) (w' := W3) (by kernel_rfl) ?_
      rcases two ((a0 == 8)) with c9 | c9
      · replace h := of_true h c9
        refine RunF.know 23 (b := true) (by kernel_rfl) c9 ?_
        refine RunF.go 3 [0, 24] (k' := (pin Go.Proofs.Try.f14 [1, 1, 1, 1, 1, 0, 1, 0] 1)) (L' := [(0, .int .i64 a0), (24, .slice A5 t4.length c7)]) (w' := W3) (by kernel_rfl) ?_
        obtain ⟨t11, ht11, h⟩ := Option.bind_eq_some_iff.mp h
        refine RunF.call (d := some 25) (g := 27) (args := #[.slice A5 t4.length c7]) (k2 := (pin Go.Proofs.Try.f14 [1, 1, 1, 1, 1, 0, 1, 0] 2)) (by kernel_rfl) (small_grow.calls k A5 t4.length c7 t4 t11 _ w (Gs [] []) (Mem.pickF (hM.as (H' := Gs [⟨.slice A5 t4.length c7, 43, 1, nums .u32 t4⟩] []) rfl) [0] rfl rfl (by simp [Gs])) ht11) ?_
        rintro _ W10 ⟨A12, n13, c14, rfl, hM_⟩
        obtain rfl : t11.length = n13 := by have h_ := (hM_.rd 0 rfl).1; simpa [nums_length, bools_length, strs_length] using h_
        replace hM : Mem w W10 [⟨.slice A12 t11.length c14, 43, 1, nums .u32 t11⟩] := hM_.as (by simp [Gs])
        clear hM_ ht11
        refine RunF.go 6 [26, 27] (k' := (pin Go.Proofs.Try.f14 [1, 1, 1, 1, 1, 1, 0] 2)) (L' := [(26, .slice A12 t11.length c14), (27, .int .i64 a0)]) (w' := W10) (by kernel_rfl) ?_
        obtain ⟨Fq16, hfq16, hM⟩ := Mem.freezeS (H1 := []) (H2 := []) (Fs := []) (A := A12) (n := t11.length) (c := c14) (ty := 43) (cs := nums .u32 t11) (hM.as rfl)
        refine RunF.go 1 [28] (k' := (pin Go.Proofs.Try.f14 [1, 1, 1, 1, 1, 1, 0] 3)) (L' := [(28, .agg ([.slice A12 t11.length c14, .int .i64 a0]).toArray)]) (w' := W10) (by kernel_rfl) ?_
        refine RunF.newVar 63 ([.slice A12 t11.length c14, .int .i64 a0]) (d := some 29) (k2 := (pin Go.Proofs.Try.f14 [1, 1, 1, 1, 1, 1, 0] 4)) hM (by kernel_rfl) ?_
        intro g17 W18 hM
        obtain ⟨Fq20, hfq20, hM⟩ := Mem.freezeP (H1 := []) (H2 := []) (Fs := [Fq16]) (g := g17) (ty := 63) (cs := [.slice A12 t11.length c14, .int .i64 a0]) (hM.as rfl)
        have hs21 : rPtr Rs_small_Small (andZ (Oks Fq20) (Oks Fq16)) (.pointer (some ⟨g17, 0, none⟩)) (t11, a0) := ⟨g17, _, rfl, hfq20.up (fun _ hz_ => hz_.1), _, _, rfl, ((up_nums .u32) _ _ _ _ (fun _ hz_ => hz_.2) (rnums_of hfq16 (Mem.oks (hM.as (H' := Gs [] [Fq20, Fq16]) rfl) 1 rfl))), rfl⟩
        refine RunF.go 3 [4, 5] (k' := (pl Go.Proofs.Try.f14 [1, 1, 1, 1, 1, 1, 1])) (L' := [(4, .pointer (some ⟨g17, 0, none⟩)), (5, .int .i64 0)]) (w' := W18) (by kernel_rfl) ?_
        obtain rfl := Option.some.inj h
        exact RunF.ret2 4 5 (.pointer (some ⟨g17, 0, none⟩)) (.int .i64 0) (fn := Go.Proofs.Try.f14) Go.Proofs.Try.func14 (by kernel_rfl) (by kernel_rfl) (by kernel_rfl) (by kernel_rfl) ⟨_, rfl, .pointer (some ⟨g17, 0, none⟩), (Fq20 ++ Fq16), rfl, (up_opt (up_ptr up_Rs_small_Small)) _ _ _ _ (fun _ (hz_ : Oks _ _) => (And.intro hz_.left hz_.right)) (.inr ⟨(t11, a0), rfl, hs21⟩), (Mem.pickF (hM.as (H' := Gs [] [Fq20, Fq16]) rfl) [0, 1] rfl rfl (by simp [Gs]))⟩
      · replace h := of_false h c9
        refine RunF.know 23 (b := false) (by kernel_rfl) c9 ?_
        refine RunF.go 6 [26, 27] (k' := (pin Go.Proofs.Try.f14 [1, 1, 1, 1, 1, 1, 0] 2)) (L' := [(26, .slice A5 t4.length c7), (27, .int .i64 a0)]) (w' := W3) (by kernel_rfl) ?_
        obtain ⟨Fq22, hfq22, hM⟩ := Mem.freezeS (H1 := []) (H2 := []) (Fs := []) (A := A5) (n := t4.length) (c := c7) (ty := 43) (cs := nums .u32 t4) (hM.as rfl)
        refine RunF.go 1 [28] (k' := (pin Go.Proofs.Try.f14 [1, 1, 1, 1, 1, 1, 0] 3)) (L' := [(28, .agg ([.slice A5 t4.length c7, .int .i64 a0]).toArray)]) (w' := W3) (by kernel_rfl) ?_
        refine RunF.newVar 63 ([.slice A5 t4.length c7, .int .i64 a0]) (d := some 29) (k2 := (pin Go.Proofs.Try.f14 [1, 1, 1, 1, 1, 1, 0] 4)) hM (by kernel_rfl) ?_
        intro g23 W24 hM
        obtain ⟨Fq26, hfq26, hM⟩ := Mem.freezeP (H1 := []) (H2 := []) (Fs := [Fq22]) (g := g23) (ty := 63) (cs := [.slice A5 t4.length c7, .int .i64 a0]) (hM.as rfl)
        have hs27 : rPtr Rs_small_Small (andZ (Oks Fq26) (Oks Fq22)) (.pointer (some ⟨g23, 0, none⟩)) (t4, a0) := ⟨g23, _, rfl, hfq26.up (fun _ hz_ => hz_.1), _, _, rfl, ((up_nums .u32) _ _ _ _ (fun _ hz_ => hz_.2) (rnums_of hfq22 (Mem.oks (hM.as (H' := Gs [] [Fq26, Fq22]) rfl) 1 rfl))), rfl⟩
        refine RunF.go 3 [4, 5] (k' := (pl Go.Proofs.Try.f14 [1, 1, 1, 1, 1, 1, 1])) (L' := [(4, .pointer (some ⟨g23, 0, none⟩)), (5, .int .i64 0)]) (w' := W24) (by kernel_rfl) ?_
        obtain rfl := Option.some.inj h
        exact RunF.ret2 4 5 (.pointer (some ⟨g23, 0, none⟩)) (.int .i64 0) (fn := Go.Proofs.Try.f14) Go.Proofs.Try.func14 (by kernel_rfl) (by kernel_rfl) (by kernel_rfl) (by kernel_rfl) ⟨_, rfl, .pointer (some ⟨g23, 0, none⟩), (Fq26 ++ Fq22), rfl, (up_opt (up_ptr up_Rs_small_Small)) _ _ _ _ (fun _ (hz_ : Oks _ _) => (And.intro hz_.left hz_.right)) (.inr ⟨(t4, a0), rfl, hs27⟩), (Mem.pickF (hM.as (H' := Gs [] [Fq26, Fq22]) rfl) [0, 1] rfl rfl (by simp [Gs]))⟩
  · replace h := of_false h c1
    refine RunF.know 9 (b := false) (by kernel_rfl) c1 ?_
    refine RunF.go 5 [0, 1, 6, 8, 9] (k' := (pl Go.Proofs.Try.f14 [1, 1, 0, 1, 0, 1])) (L' := [(0, .int .i64 a0), (1, .slice Ap1 a1.length cp1), (6, .int .i64 16), (8, .int .i64 a0), (9, .bool (a0 == 8))]) (w' := w) (by kernel_rfl) ?_
    rcases two ((a0 == 8)) with c28 | c28
    · replace h := of_true h c28
      refine RunF.know 9 (b := true) (by kernel_rfl) c28 ?_
      refine RunF.go 11 [0, 1, 17] (k' := (pl Go.Proofs.Try.f14 [1, 1, 1, 0, 1])) (L' := [(0, .int .i64 a0), (1, .slice Ap1 a1.length cp1), (17, .bool ((a1.length : Int) != 16))]) (w' := w) (by kernel_rfl) ?_
      rcases two (((a1.length : Int) != 16)) with c29 | c29
      · replace h := of_true h c29
        refine RunF.know 17 (b := true) (by kernel_rfl) c29 ?_
        refine RunF.go 6 [4, 5] (k' := (pl Go.Proofs.Try.f14 [1, 1, 1, 0, 1, 0, 1])) (L' := [(4, .pointer none), (5, .int .i64 4)]) (w' := w) (by kernel_rfl) ?_
        obtain rfl := Option.some.inj h
        exact RunF.ret2 4 5 (.pointer none) (.int .i64 4) (fn := Go.Proofs.Try.f14) Go.Proofs.Try.func14 (by kernel_rfl) (by kernel_rfl) (by kernel_rfl) (by kernel_rfl) ⟨_, rfl, .pointer none, ([] : List Ent), rfl, (.inl ⟨rfl, rfl⟩), (Mem.pickF (hM.as (H' := Gs [] []) rfl) [] rfl rfl (by simp [Gs]))⟩
      · replace h := of_false h c29
        refine RunF.know 17 (b := false) (by kernel_rfl) c29 ?_
        refine RunF.go 7 [0, 18, 20] (k' := (pin Go.Proofs.Try.f14 [1, 1, 1, 1, 0] 3)) (L' := [(0, .int .i64 a0), (18, .slice Ap1 a1.length cp1), (20, .bool (a0 == 8))]) (w' := w) (by kernel_rfl) ?_
        obtain ⟨t31, ht31, h⟩ := Option.bind_eq_some_iff.mp h
        refine RunF.call (d := some 21) (g := 26) (args := #[.slice Ap1 a1.length cp1, .bool (a0 == 8)]) (k2 := (pin Go.Proofs.Try.f14 [1, 1, 1, 1, 0] 4)) (by kernel_rfl) (small_loaded.calls k Ap1 a1.length cp1 a1 (a0 == 8) t31 _ (hr1.mono hM.below) ht31) ?_
        rintro _ W30 ⟨A32, n33, c34, rfl, hM_⟩
        obtain rfl : t31.length = n33 := by have h_ := (hM_.rd 0 rfl).1; simpa [nums_length, bools_length, strs_length] using h_
        replace hM := hM.call hM_
        clear hM_ ht31
        refine RunF.go 8 [0, 7, 23] (k' := (pl Go.Proofs.Try.f14 [1, 1, 1, 1, 1, 0, 1])) (L' := [(0, .int .i64 a0), (7, .slice A32 t31.length c34), (23, .bool (a0 == 8))]) (w' := W30) (by kernel_rfl) ?_
        rcases two ((a0 == 8)) with c36 | c36
        · replace h := of_true h c36
          refine RunF.know 23 (b := true) (by kernel_rfl) c36 ?_
          refine RunF.go 3 [0, 24] (k' := (pin Go.Proofs.Try.f14 [1, 1, 1, 1, 1, 0, 1, 0] 1)) (L' := [(0, .int .i64 a0), (24, .slice A32 t31.length c34)]) (w' := W30) (by kernel_rfl) ?_
          obtain ⟨t38, ht38, h⟩ := Option.bind_eq_some_iff.mp h
          refine RunF.call (d := some 25) (g := 27) (args := #[.slice A32 t31.length c34]) (k2 := (pin Go.Proofs.Try.f14 [1, 1, 1, 1, 1, 0, 1, 0] 2)) (by kernel_rfl) (small_grow.calls k A32 t31.length c34 t31 t38 _ w (Gs [] []) (Mem.pickF (hM.as (H' := Gs [⟨.slice A32 t31.length c34, 43, 1, nums .u32 t31⟩] []) rfl) [0] rfl rfl (by simp [Gs])) ht38) ?_
          rintro _ W37 ⟨A39, n40, c41, rfl, hM_⟩
          obtain rfl : t38.length = n40 := by have h_ := (hM_.rd 0 rfl).1; simpa [nums_length, bools_length, strs_length] using h_
          replace hM : Mem w W37 [⟨.slice A39 t38.length c41, 43, 1, nums .u32 t38⟩] := hM_.as (by simp [Gs])
          clear hM_ ht38
          refine RunF.go 6 [26, 27] (k' := (pin Go.Proofs.Try.f14 [1, 1, 1, 1, 1, 1, 0] 2)) (L' := [(26, .slice A39 t38.length c41), (27, .int .i64 a0)]) (w' := W37) (by kernel_rfl) ?_
          obtain ⟨Fq43, hfq43, hM⟩ := Mem.freezeS (H1 := []) (H2 := []) (Fs := []) (A := A39) (n := t38.length) (c := c41) (ty := 43) (cs := nums .u32 t38) (hM.as rfl)
          refine RunF.go 1 [28] (k' := (pin Go.Proofs.Try.f14 [1, 1, 1, 1, 1, 1, 0] 3)) (L' := [(28, .agg ([.slice A39 t38.length c41, .int .i64 a0]).toArray)]) (w' := W37) (by kernel_rfl) ?_
          refine RunF.newVar 63 ([.slice A39 t38.length c41, .int .i64 a0]) (d := some 29) (k2 := (pin Go.Proofs.Try.f14 [1, 1, 1, 1, 1, 1, 0] 4)) hM (by kernel_rfl) ?_
          intro g44 W45 hM
          obtain ⟨Fq47, hfq47, hM⟩ := Mem.freezeP (H1 := []) (H2 := []) (Fs := [Fq43]) (g := g44) (ty := 63) (cs := [.slice A39 t38.length c41, .int .i64 a0]) (hM.as rfl)
          have hs48 : rPtr Rs_small_Small (andZ (Oks Fq47) (Oks Fq43)) (.pointer (some ⟨g44, 0, none⟩)) (t38, a0) := ⟨g44, _, rfl, hfq47.up (fun _ hz_ => hz_.1), _, _, rfl, ((up_nums .u32) _ _ _ _ (fun _ hz_ => hz_.2) (rnums_of hfq43 (Mem.oks (hM.as (H' := Gs [] [Fq47, Fq43]) rfl) 1 rfl))), rfl⟩
          refine RunF.go 3 [4, 5] (k' := (pl Go.Proofs.Try.f14 [1, 1, 1, 1, 1, 1, 1])) (L' := [(4, .pointer (some ⟨g44, 0, none⟩)), (5, .int .i64 0)]) (w' := W45) (by kernel_rfl) ?_
          obtain rfl := Option.some.inj h
          exact RunF.ret2 4 5 (.pointer (some ⟨g44, 0, none⟩)) (.int .i64 0) (fn := Go.Proofs.Try.f14) Go.Proofs.Try.func14 (by kernel_rfl) (by kernel_rfl) (by kernel_rfl) (by kernel_rfl) ⟨_, rfl, .pointer (some ⟨g44, 0, none⟩), (Fq47 ++ Fq43), rfl, (up_opt (up_ptr up_Rs_small_Small)) _ _ _ _ (fun _ (hz_ : Oks _ _) => (And.intro hz_.left hz_.right)) (.inr ⟨(t38, a0), rfl, hs48⟩), (Mem.pickF (hM.as (H' := Gs [] [Fq47, Fq43]) rfl) [0, 1] rfl rfl (by simp [Gs]))⟩
        · replace h := of_false h c36
          refine RunF.know 23 (b := false) (by kernel_rfl) c36 ?_
          refine RunF.go 6 [26, 27] (k' := (pin Go.Proofs.Try.f14 [1, 1, 1, 1, 1, 1, 0] 2)) (L' := [(26, .slice A32 t31.length c34), (27, .int .i64 a0)]) (w' := W30) (by kernel_rfl) ?_
          obtain ⟨Fq49, hfq49, hM⟩ := Mem.freezeS (H1 := []) (H2 := []) (Fs := []) (A := A32) (n := t31.length) (c := c34) (ty := 43) (cs := nums .u32 t31) (hM.as rfl)
          refine RunF.go 1 [28] (k' := (pin Go.Proofs.Try.f14 [1, 1, 1, 1, 1, 1, 0] 3)) (L' := [(28, .agg ([.slice A32 t31.length c34, .int .i64 a0]).toArray)]) (w' := W30) (by kernel_rfl) ?_
          refine RunF.newVar 63 ([.slice A32 t31.length c34, .int .i64 a0]) (d := some 29) (k2 := (pin Go.Proofs.Try.f14 [1, 1, 1, 1, 1, 1, 0] 4)) hM (by kernel_rfl) ?_
          intro g50 W51 hM
          obtain ⟨Fq53, hfq53, hM⟩ := Mem.freezeP (H1 := []) (H2 := []) (Fs := [Fq49]) (g := g50) (ty := 63) (cs := [.slice A32 t31.length c34, .int .i64 a0]) (hM.as rfl)
          have hs54 : rPtr Rs_small_Small (andZ (Oks Fq53) (Oks Fq49)) (.pointer (some ⟨g50, 0, none⟩)) (t31, a0) := ⟨g50, _, rfl, hfq53.up (fun _ hz_ => hz_.1), _, _, rfl, ((up_nums .u32) _ _ _ _ (fun _ hz_ => hz_.2) (rnums_of hfq49 (Mem.oks (hM.as (H' := Gs [] [Fq53, Fq49]) rfl) 1 rfl))), rfl⟩
          refine RunF.go 3 [4, 5] (k' := (pl Go.Proofs.Try.f14 [1, 1, 1, 1, 1, 1, 1])) (L' := [(4, .pointer (some ⟨g50, 0, none⟩)), (5, .int .i64 0)]) (w' := W51) (by kernel_rfl) ?_
          obtain rfl := Option.some.inj h
          exact RunF.ret2 4 5 (.pointer (some ⟨g50, 0, none⟩)) (.int .i64 0) (fn := Go.Proofs.Try.f14) Go.Proofs.Try.func14 (by kernel_rfl) (by kernel_rfl) (by kernel_rfl) (by kernel_rfl) ⟨_, rfl, .pointer (some ⟨g50, 0, none⟩), (Fq53 ++ Fq49), rfl, (up_opt (up_ptr up_Rs_small_Small)) _ _ _ _ (fun _ (hz_ : Oks _ _) => (And.intro hz_.left hz_.right)) (.inr ⟨(t31, a0), rfl, hs54⟩), (Mem.pickF (hM.as (H' := Gs [] [Fq53, Fq49]) rfl) [0, 1] rfl rfl (by simp [Gs]))⟩
    · replace h := of_false h c28
      refine RunF.know 9 (b := false) (by kernel_rfl) c28 ?_
      refine RunF.go 6 [0, 1, 12] (k' := (pl Go.Proofs.Try.f14 [1, 1, 0, 1, 0, 1, 1, 1])) (L' := [(0, .int .i64 a0), (1, .slice Ap1 a1.length cp1), (12, .bool (a0 == 5))]) (w' := w) (by kernel_rfl) ?_
      rcases two ((a0 == 5)) with c55 | c55
      · replace h := of_true h c55
        refine RunF.know 12 (b := true) (by kernel_rfl) c55 ?_
        refine RunF.go 13 [0, 1, 17] (k' := (pl Go.Proofs.Try.f14 [1, 1, 1, 0, 1])) (L' := [(0, .int .i64 a0), (1, .slice Ap1 a1.length cp1), (17, .bool ((a1.length : Int) != 32))]) (w' := w) (by kernel_rfl) ?_
        rcases two (((a1.length : Int) != 32)) with c56 | c56
        · replace h := of_true h c56
          refine RunF.know 17 (b := true) (by kernel_rfl) c56 ?_
          refine RunF.go 6 [4, 5] (k' := (pl Go.Proofs.Try.f14 [1, 1, 1, 0, 1, 0, 1])) (L' := [(4, .pointer none), (5, .int .i64 4)]) (w' := w) (by kernel_rfl) ?_
          obtain rfl := Option.some.inj h
          exact RunF.ret2 4 5 (.pointer none) (.int .i64 4) (fn := Go.Proofs.Try.f14) Go.Proofs.Try.func14 (by kernel_rfl) (by kernel_rfl) (by kernel_rfl) (by kernel_rfl) ⟨_, rfl, .pointer none, ([] : List Ent), rfl, (.inl ⟨rfl, rfl⟩), (Mem.pickF (hM.as (H' := Gs [] []) rfl) [] rfl rfl (by simp [Gs]))⟩
        · replace h := of_false h c56
          refine RunF.know 17 (b := false) (by kernel_rfl) c56 ?_
          refine RunF.go 7 [0, 18, 20] (k' := (pin Go.Proofs.Try.f14 [1, 1, 1, 1, 0] 3)) (L' := [(0, .int .i64 a0), (18, .slice Ap1 a1.length cp1), (20, .bool (a0 == 8))]) (w' := w) (by kernel_rfl) ?_
          obtain ⟨t58, ht58, h⟩ := Option.bind_eq_some_iff.mp h
          refine RunF.call (d := some 21) (g := 26) (args := #[.slice Ap1 a1.length cp1, .bool (a0 == 8)]) (k2 := (pin Go.Proofs.Try.f14 [1, 1, 1, 1, 0] 4)) (by kernel_rfl) (small_loaded.calls k Ap1 a1.length cp1 a1 (a0 == 8) t58 _ (hr1.mono hM.below) ht58) ?_
          rintro _ W57 ⟨A59, n60, c61, rfl, hM_⟩
          obtain rfl : t58.length = n60 := by have h_ := (hM_.rd 0 rfl).1; simpa [nums_length, bools_length, strs_length] using h_
          replace hM := hM.call hM_
          clear hM_ ht58
          refine RunF.go 8 [0, 7, 23] (k' := (pl Go.Proofs.Try.f14 [1, 1, 1, 1, 1, 0, 1])) (L' := [(0, .int .i64 a0), (7, .slice A59 t58.length c61), (23, .bool (a0 == 8))]) (w' := W57) (by kernel_rfl) ?_
          rcases two ((a0 == 8)) with c63 | c63
          · replace h := of_true h c63
            refine RunF.know 23 (b := true) (by kernel_rfl) c63 ?_
            refine RunF.go 3 [0, 24] (k' := (pin Go.Proofs.Try.f14 [1, 1, 1, 1, 1, 0, 1, 0] 1)) (L' := [(0, .int .i64 a0), (24, .slice A59 t58.length c61)]) (w' := W57) (by kernel_rfl) ?_
            obtain ⟨t65, ht65, h⟩ := Option.bind_eq_some_iff.mp h
            refine RunF.call (d := some 25) (g := 27) (args := #[.slice A59 t58.length c61]) (k2 := (pin Go.Proofs.Try.f14 [1, 1, 1, 1, 1, 0, 1, 0] 2)) (by kernel_rfl) (small_grow.calls k A59 t58.length c61 t58 t65 _ w (Gs [] []) (Mem.pickF (hM.as (H' := Gs [⟨.slice A59 t58.length c61, 43, 1, nums .u32 t58⟩] []) rfl) [0] rfl rfl (by simp [Gs])) ht65) ?_
            rintro _ W64 ⟨A66, n67, c68, rfl, hM_⟩
            obtain rfl : t65.length = n67 := by have h_ := (hM_.rd 0 rfl).1; simpa [nums_length, bools_length, strs_length] using h_
            replace hM : Mem w W64 [⟨.slice A66 t65.length c68, 43, 1, nums .u32 t65⟩] := hM_.as (by simp [Gs])
            clear hM_ ht65
            refine RunF.go 6 [26, 27] (k' := (pin Go.Proofs.Try.f14 [1, 1, 1, 1, 1, 1, 0] 2)) (L' := [(26, .slice A66 t65.length c68), (27, .int .i64 a0)]) (w' := W64) (by kernel_rfl) ?_
            obtain ⟨Fq70, hfq70, hM⟩ := Mem.freezeS (H1 := []) (H2 := []) (Fs := []) (A := A66) (n := t65.length) (c := c68) (ty := 43) (cs := nums .u32 t65) (hM.as rfl)
            refine RunF.go 1 [28] (k' := (pin Go.Proofs.Try.f14 [1, 1, 1, 1, 1, 1, 0] 3)) (L' := [(28, .agg ([.slice A66 t65.length c68, .int .i64 a0]).toArray)]) (w' := W64) (by kernel_rfl) ?_
            refine RunF.newVar 63 ([.slice A66 t65.length c68, .int .i64 a0]) (d := some 29) (k2 := (pin Go.Proofs.Try.f14 [1, 1, 1, 1, 1, 1, 0] 4)) hM (by kernel_rfl) ?_
            intro g71 W72 hM
            obtain ⟨Fq74, hfq74, hM⟩ := Mem.freezeP (H1 := []) (H2 := []) (Fs := [Fq70]) (g := g71) (ty := 63) (cs := [.slice A66 t65.length c68, .int .i64 a0]) (hM.as rfl)
            have hs75 : rPtr Rs_small_Small (andZ (Oks Fq74) (Oks Fq70)) (.pointer (some ⟨g71, 0, none⟩)) (t65, a0) := ⟨g71, _, rfl, hfq74.up (fun _ hz_ => hz_.1), _, _, rfl, ((up_nums .u32) _ _ _ _ (fun _ hz_ => hz_.2) (rnums_of hfq70 (Mem.oks (hM.as (H' := Gs [] [Fq74, Fq70]) rfl) 1 rfl))), rfl⟩
            refine RunF.go 3 [4, 5] (k' := (pl Go.Proofs.Try.f14 [1, 1, 1, 1, 1, 1, 1])) (L' := [(4, .pointer (some ⟨g71, 0, none⟩)), (5, .int .i64 0)]) (w' := W72) (by kernel_rfl) ?_
            obtain rfl := Option.some.inj h
            exact RunF.ret2 4 5 (.pointer (some ⟨g71, 0, none⟩)) (.int .i64 0) (fn := Go.Proofs.Try.f14) Go.Proofs.Try.func14 (by kernel_rfl) (by kernel_rfl) (by kernel_rfl) (by kernel_rfl) ⟨_, rfl, .pointer (some ⟨g71, 0, none⟩), (Fq74 ++ Fq70), rfl, (up_opt (up_ptr up_Rs_small_Small)) _ _ _ _ (fun _ (hz_ : Oks _ _) => (And.intro hz_.left hz_.right)) (.inr ⟨(t65, a0), rfl, hs75⟩), (Mem.pickF (hM.as (H' := Gs [] [Fq74, Fq70]) rfl) [0, 1] rfl rfl (by simp [Gs]))⟩
          · replace h := of_false h c63
            refine RunF.know 23 (b := false) (by kernel_rfl) c63 ?_
            refine RunF.go 6 [26, 27] (k' := (pin Go.Proofs.Try.f14 [1, 1, 1, 1, 1, 1, 0] 2)) (L' := [(26, .slice A59 t58.length c61), (27, .int .i64 a0)]) (w' := W57) (by kernel_rfl) ?_
            obtain ⟨Fq76, hfq76, hM⟩ := Mem.freezeS (H1 := []) (H2 := []) (Fs := []) (A := A59) (n := t58.length) (c := c61) (ty := 43) (cs := nums .u32 t58) (hM.as rfl)
            refine RunF.go 1 [28] (k' := (pin Go.Proofs.Try.f14 [1, 1, 1, 1, 1, 1, 0] 3)) (L' := [(28, .agg ([.slice A59 t58.length c61, .int .i64 a0]).toArray)]) (w' := W57) (by kernel_rfl) ?_
            refine RunF.newVar 63 ([.slice A59 t58.length c61, .int .i64 a0]) (d := some 29) (k2 := (pin Go.Proofs.Try.f14 [1, 1, 1, 1, 1, 1, 0] 4)) hM (by kernel_rfl) ?_
            intro g77 W78 hM
            obtain ⟨Fq80, hfq80, hM⟩ := Mem.freezeP (H1 := []) (H2 := []) (Fs := [Fq76]) (g := g77) (ty := 63) (cs := [.slice A59 t58.length c61, .int .i64 a0]) (hM.as rfl)
            have hs81 : rPtr Rs_small_Small (andZ (Oks Fq80) (Oks Fq76)) (.pointer (some ⟨g77, 0, none⟩)) (t58, a0) := ⟨g77, _, rfl, hfq80.up (fun _ hz_ => hz_.1), _, _, rfl, ((up_nums .u32) _ _ _ _ (fun _ hz_ => hz_.2) (rnums_of hfq76 (Mem.oks (hM.as (H' := Gs [] [Fq80, Fq76]) rfl) 1 rfl))), rfl⟩
            refine RunF.go 3 [4, 5] (k' := (pl Go.Proofs.Try.f14 [1, 1, 1, 1, 1, 1, 1])) (L' := [(4, .pointer (some ⟨g77, 0, none⟩)), (5, .int .i64 0)]) (w' := W78) (by kernel_rfl) ?_
            obtain rfl := Option.some.inj h
            exact RunF.ret2 4 5 (.pointer (some ⟨g77, 0, none⟩)) (.int .i64 0) (fn := Go.Proofs.Try.f14) Go.Proofs.Try.func14 (by kernel_rfl) (by kernel_rfl) (by kernel_rfl) (by kernel_rfl) ⟨_, rfl, .pointer (some ⟨g77, 0, none⟩), (Fq80 ++ Fq76), rfl, (up_opt (up_ptr up_Rs_small_Small)) _ _ _ _ (fun _ (hz_ : Oks _ _) => (And.intro hz_.left hz_.right)) (.inr ⟨(t58, a0), rfl, hs81⟩), (Mem.pickF (hM.as (H' := Gs [] [Fq80, Fq76]) rfl) [0, 1] rfl rfl (by simp [Gs]))⟩
      · replace h := of_false h c55
        refine RunF.know 12 (b := false) (by kernel_rfl) c55 ?_
        refine RunF.go 6 [4, 5] (k' := (pl Go.Proofs.Try.f14 [1, 1, 0, 1, 0, 1, 1, 1, 1, 1])) (L' := [(4, .pointer none), (5, .int .i64 2)]) (w' := w) (by kernel_rfl) ?_
        obtain rfl := Option.some.inj h
        exact RunF.ret2 4 5 (.pointer none) (.int .i64 2) (fn := Go.Proofs.Try.f14) Go.Proofs.Try.func14 (by kernel_rfl) (by kernel_rfl) (by kernel_rfl) (by kernel_rfl) ⟨_, rfl, .pointer none, ([] : List Ent), rfl, (.inl ⟨rfl, rfl⟩), (Mem.pickF (hM.as (H' := Gs [] []) rfl) [] rfl rfl (by simp [Gs]))⟩

/-! ### scrim/scrimlaw8.tags: function 15 -/
def scrimlaw8_tags.f (k : Nat)  : Option (List Int) := some ([4, 5, 8] : List Int)
set_option maxRecDepth 100000 in
theorem scrimlaw8_tags.calls (k : Nat)  (r : List Int) (w : World) (h : scrimlaw8_tags.f k = some r) :
    Calls Go.Proofs.Try.prog 15 #[] w (Ret fun v w' => ∃ A0' n0' c0', v = .slice A0' n0' c0' ∧ Mem w w' [⟨.slice A0' n0' c0', 3, 1, nums .i64 r⟩]) := by
  unfold scrimlaw8_tags.f at h
  refine calls_of [] (fn := Go.Proofs.Try.f15) Go.Proofs.Try.func15 (by kernel_rfl) (by kernel_rfl) ?_
  have hM := Mem.refl w
  refine RunF.go 6 [] (k' := (pin Go.Proofs.Try.f15 [1, 0] 0)) (L' := []) (w' := w) (by kernel_rfl) ?_
  refine RunF.new 3 1 3 (nums .i64 [4, 5, 8]) (d := some 1) (k2 := (pin Go.Proofs.Try.f15 [1, 0] 1)) hM (by simp [nums, bools, strs]) (by kernel_rfl) (by kernel_rfl) ?_
  replace hM := hM
  intro g1 W2 hM
  refine RunF.go 2 [0] (k' := (pl Go.Proofs.Try.f15 [1, 1])) (L' := [(0, .slice (some ⟨g1, 0, none⟩) 3 3)]) (w' := W2) (by kernel_rfl) ?_
  obtain rfl := Option.some.inj h
  exact RunF.ret1 0 (.slice (some ⟨g1, 0, none⟩) 3 3) (fn := Go.Proofs.Try.f15) Go.Proofs.Try.func15 (by kernel_rfl) (by kernel_rfl) (by kernel_rfl) ⟨_, rfl, (some ⟨g1, 0, none⟩), 3, 3, rfl, (hM.pick [0] rfl rfl)⟩

/-! ### scrim/scrimlaw8.size: function 16 -/
def scrimlaw8_size.f (k : Nat) (a0 : Int) : Option (Int) := if (decide (0 ≤ a0)) = true then (if (decide (a0 < (3 : Int))) = true then (some (rd ([16, 32, 16] : List Int) a0)) else (none)) else (none)
set_option maxRecDepth 100000 in
theorem scrimlaw8_size.calls (k : Nat) (a0 : Int) (r : Int) (w : World) (h : scrimlaw8_size.f k a0 = some r) :
    Calls Go.Proofs.Try.prog 16 #[.int .i64 a0] w (Ret fun v w' => v = .int .i64 r ∧ Mem w w' []) := by
  unfold scrimlaw8_size.f at h
  refine calls_of [.int .i64 a0] (fn := Go.Proofs.Try.f16) Go.Proofs.Try.func16 (by kernel_rfl) (by kernel_rfl) ?_
  have hM := Mem.refl w
  refine RunF.go 6 [0] (k' := (pin Go.Proofs.Try.f16 [1, 0] 0)) (L' := [(0, .int .i64 a0)]) (w' := w) (by kernel_rfl) ?_
  refine RunF.new 3 1 3 (nums .i64 [16, 32, 16]) (d := some 3) (k2 := (pin Go.Proofs.Try.f16 [1, 0] 1)) hM (by simp [nums, bools, strs]) (by kernel_rfl) (by kernel_rfl) ?_
  replace hM := hM
  intro g1 W2 hM
  refine RunF.go 1 [3, 4] (k' := (pin Go.Proofs.Try.f16 [1, 0] 2)) (L' := [(3, .slice (some ⟨g1, 0, none⟩) 3 3), (4, .int .i64 a0)]) (w' := W2) (by kernel_rfl) ?_
  rcases two (decide (0 ≤ a0)) with c5 | c5
  · replace h := of_true h c5
    rcases two (decide (a0 < (3 : Int))) with c6 | c6
    · replace h := of_true h c6
      obtain ⟨q4, hAq4, hcq4, hfq4, hlq4⟩ := hM.num_at 0 rfl (i := a0) (of_decide_eq_true c5) (by have h_ := of_decide_eq_true c6; omega)
      refine RunF.y (idx_own (d := some 5) (A := (some ⟨g1, 0, none⟩)) (m := 3) (i := a0) (k2 := (pin Go.Proofs.Try.f16 [1, 0] 3)) (by kernel_rfl) (of_decide_eq_true c5) (by have h_ := of_decide_eq_true c6; omega) hAq4) trivial ?_
      refine RunF.y (ld_y (d := some 6) (p := ⟨q4, (a0 : Int).toNat, none⟩) (k2 := (pin Go.Proofs.Try.f16 [1, 0] 4)) (.int .i64 (rd ([16, 32, 16] : List Int) a0)) (by kernel_rfl)) hcq4 ?_
      refine RunF.go 2 [2] (k' := (pl Go.Proofs.Try.f16 [1, 1])) (L' := [(2, .int .i64 (rd ([16, 32, 16] : List Int) a0))]) (w' := W2) (by kernel_rfl) ?_
      obtain rfl := Option.some.inj h
      exact RunF.ret1 2 (.int .i64 (rd ([16, 32, 16] : List Int) a0)) (fn := Go.Proofs.Try.f16) Go.Proofs.Try.func16 (by kernel_rfl) (by kernel_rfl) (by kernel_rfl) ⟨_, rfl, rfl, (hM.pick [] rfl rfl)⟩
    · replace h := of_false h c6
      cases h
  · replace h := of_false h c5
    cases h

/-! ### scrim/small.stir: function 47 -/
def small_stir.f (k : Nat) (a0 : Int) (a1 : Int) : Option (Int) := some (bxor .u32 (U32 ((bxor .u32 (shl .u32 a0 4) (shr a0 5)) + a0)) a1)
set_option maxRecDepth 100000 in
theorem small_stir.calls (k : Nat) (a0 : Int) (a1 : Int) (r : Int) (w : World) (h : small_stir.f k a0 a1 = some r) :
    Calls Go.Proofs.Try.prog 47 #[.int .u32 a0, .int .u32 a1] w (Ret fun v w' => v = .int .u32 r ∧ Mem w w' []) := by
  unfold small_stir.f at h
  refine calls_of [.int .u32 a0, .int .u32 a1] (fn := Go.Proofs.Try.f47) Go.Proofs.Try.func47 (by kernel_rfl) (by kernel_rfl) ?_
  have hM := Mem.refl w
  refine RunF.go 17 [4] (k' := (pl Go.Proofs.Try.f47 [1, 1])) (L' := [(4, .int .u32 (bxor .u32 (U32 ((bxor .u32 (shl .u32 a0 4) (shr a0 5)) + a0)) a1))]) (w' := w) (by kernel_rfl) ?_
  obtain rfl := Option.some.inj h
  exact RunF.ret1 4 (.int .u32 (bxor .u32 (U32 ((bxor .u32 (shl .u32 a0 4) (shr a0 5)) + a0)) a1)) (fn := Go.Proofs.Try.f47) Go.Proofs.Try.func47 (by kernel_rfl) (by kernel_rfl) (by kernel_rfl) ⟨_, rfl, rfl, (hM.pick [] rfl rfl)⟩

/-! ### (*scrim/small.Small).xtea: function 30 -/
mutual
def small_Small_xtea.l0 : Nat → ((List Int) × Int) → Bool → Int → Int → Int → Int → Option (Int × Int)
  | 0, _, _, _, _, _, _ => none
  | k + 1, a0, a3, x1_0, x2_0, x10_0, x11_0 => if (x11_0 == 32) = true then (some (x1_0, x2_0)) else (if a3 = true then (if (decide (0 ≤ (band .u32 (shr x10_0 11) 3))) = true then (if (decide ((band .u32 (shr x10_0 11) 3) < (a0.1.length : Int))) = true then ((some (U32 (x10_0 + (rd a0.1 (band .u32 (shr x10_0 11) 3))) : Int)).bind fun y8 => ((small_stir.f k x1_0 y8).bind fun t10 => (if (decide (0 ≤ (band .u32 (U32 (x10_0 - 2654435769)) 3))) = true then (if (decide ((band .u32 (U32 (x10_0 - 2654435769)) 3) < (a0.1.length : Int))) = true then ((some (U32 ((U32 (x10_0 - 2654435769)) + (rd a0.1 (band .u32 (U32 (x10_0 - 2654435769)) 3))) : Int)).bind fun y14 => ((small_stir.f k (U32 (x2_0 - t10)) y14).bind fun t16 => (small_Small_xtea.l0 k a0 a3 (U32 (x1_0 - t16)) (U32 (x2_0 - t10)) (U32 (x10_0 - 2654435769)) (I64 (x11_0 + 1))))) else (none)) else (none)))) else (none)) else (none)) else (if (decide (0 ≤ (band .u32 x10_0 3))) = true then (if (decide ((band .u32 x10_0 3) < (a0.1.length : Int))) = true then ((small_stir.f k x2_0 (U32 (x10_0 + (rd a0.1 (band .u32 x10_0 3))))).bind fun t21 => ((some (band .u32 (shr (U32 (x10_0 + 2654435769)) 11) 3 : Int)).bind fun y22 => (if (decide (0 ≤ y22)) = true then (if (decide (y22 < (a0.1.length : Int))) = true then ((some (U32 ((U32 (x10_0 + 2654435769)) + (rd a0.1 y22)) : Int)).bind fun y26 => ((small_stir.f k (U32 (x1_0 + t21)) y26).bind fun t28 => (small_Small_xtea.l0 k a0 a3 (U32 (x1_0 + t21)) (U32 (x2_0 + t28)) (U32 (x10_0 + 2654435769)) (I64 (x11_0 + 1))))) else (none)) else (none)))) else (none)) else (none)))
def small_Small_xtea.l1 : Nat → ((List Int) × Int) → Bool → Int → Int → Int → Int → Option (Int × Int)
  | 0, _, _, _, _, _, _ => none
  | k + 1, a0, a3, x1_1, x2_1, x10_1, x11_1 => if (x11_1 == 32) = true then (some (x1_1, x2_1)) else (if a3 = true then (if (decide (0 ≤ (band .u32 (shr x10_1 11) 3))) = true then (if (decide ((band .u32 (shr x10_1 11) 3) < (a0.1.length : Int))) = true then ((some (U32 (x10_1 + (rd a0.1 (band .u32 (shr x10_1 11) 3))) : Int)).bind fun y34 => ((small_stir.f k x1_1 y34).bind fun t36 => (if (decide (0 ≤ (band .u32 (U32 (x10_1 - 2654435769)) 3))) = true then (if (decide ((band .u32 (U32 (x10_1 - 2654435769)) 3) < (a0.1.length : Int))) = true then ((some (U32 ((U32 (x10_1 - 2654435769)) + (rd a0.1 (band .u32 (U32 (x10_1 - 2654435769)) 3))) : Int)).bind fun y40 => ((small_stir.f k (U32 (x2_1 - t36)) y40).bind fun t42 => (small_Small_xtea.l1 k a0 a3 (U32 (x1_1 - t42)) (U32 (x2_1 - t36)) (U32 (x10_1 - 2654435769)) (I64 (x11_1 + 1))))) else (none)) else (none)))) else (none)) else (none)) else (if (decide (0 ≤ (band .u32 x10_1 3))) = true then (if (decide ((band .u32 x10_1 3) < (a0.1.length : Int))) = true then ((small_stir.f k x2_1 (U32 (x10_1 + (rd a0.1 (band .u32 x10_1 3))))).bind fun t47 => ((some (band .u32 (shr (U32 (x10_1 + 2654435769)) 11) 3 : Int)).bind fun y48 => (if (decide (0 ≤ y48)) = true then (if (decide (y48 < (a0.1.length : Int))) = true then ((some (U32 ((U32 (x10_1 + 2654435769)) + (rd a0.1 y48)) : Int)).bind fun y52 => ((small_stir.f k (U32 (x1_1 + t47)) y52).bind fun t54 => (small_Small_xtea.l1 k a0 a3 (U32 (x1_1 + t47)) (U32 (x2_1 + t54)) (U32 (x10_1 + 2654435769)) (I64 (x11_1 + 1))))) else (none)) else (none)))) else (none)) else (none)))
end
def small_Small_xtea.f (k : Nat) (a0 : ((List Int) × Int)) (a1 : Int) (a2 : Int) (a3 : Bool) : Option (Int × Int) := if a3 = true then (small_Small_xtea.l0 k a0 a3 a1 a2 3337565984 0) else (small_Small_xtea.l1 k a0 a3 a1 a2 0 0)
set_option maxRecDepth 100000 in
set_option maxHeartbeats 8000000 in
theorem small_Small_xtea.calls (k : Nat) (vp0 : Value) (Zp0 : Zp) (a0 : ((List Int) × Int)) (a1 : Int) (a2 : Int) (a3 : Bool) (r : Int × Int) (w : World) (hp0 : (rPtr Rs_small_Small) Zp0 vp0 a0) (hZp0 : ∀ W, Kept w W → Zp0 W) (h : small_Small_xtea.f k a0 a1 a2 a3 = some r) :
    Calls Go.Proofs.Try.prog 30 #[vp0, .int .u32 a1, .int .u32 a2, .bool a3] w (Ret fun v w' => v = .tuple #[.int .u32 r.1, .int .u32 r.2] ∧ Mem w w' []) := by
  obtain ⟨gp0, _, rfl, hco1, _, _, rfl, ⟨Ao1_0, co1_0, rfl, ho1_0⟩, rfl⟩ := id hp0
  unfold small_Small_xtea.f at h
  refine calls_of [.pointer (some ⟨gp0, 0, none⟩), .int .u32 a1, .int .u32 a2, .bool a3] (fn := Go.Proofs.Try.f30) Go.Proofs.Try.func30 (by kernel_rfl) (by kernel_rfl) ?_
  have hM := Mem.refl w
  refine RunF.go 16 [0, 1, 2, 3, 10, 11, 12] (k' := (pl Go.Proofs.Try.f30 [1, 0, 1, 0, 1])) (L' := [(0, .pointer (some ⟨gp0, 0, none⟩)), (1, .int .u32 a1), (2, .int .u32 a2), (3, .bool a3), (10, .int .u32 0), (11, .int .i64 0), (12, .bool a3)]) (w' := w) (by kernel_rfl) ?_
  rcases two (a3) with c2 | c2
  · replace h := of_true h c2
    refine RunF.know 12 (b := true) (by kernel_rfl) c2 ?_
    refine RunF.go 6 [0, 1, 2, 3, 10, 11] (k' := (pl Go.Proofs.Try.f30 [1, 0, 1, 1, 1])) (L' := [(0, .pointer (some ⟨gp0, 0, none⟩)), (1, .int .u32 a1), (2, .int .u32 a2), (3, .bool a3), (10, .int .u32 3337565984), (11, .int .i64 0)]) (w' := w) (by kernel_rfl) ?_
    have l0 : ∀ (k_ : Nat), k_ ≤ k → ∀ (x1_0 : Int) (x2_0 : Int) (x10_0 : Int) (x11_0 : Int) (W : World) (hM : Mem w W []) (h : small_Small_xtea.l0 k_ a0 a3 x1_0 x2_0 x10_0 x11_0 = some r), RunF Go.Proofs.Try.prog (Ret fun v w' => v = .tuple #[.int .u32 r.1, .int .u32 r.2] ∧ Mem w w' []) 30 (pl Go.Proofs.Try.f30 [1, 0, 1, 1, 1]) 82 [(0, .pointer (some ⟨gp0, 0, none⟩)), (1, .int .u32 x1_0), (2, .int .u32 x2_0), (3, .bool a3), (10, .int .u32 x10_0), (11, .int .i64 x11_0)] W := by
      intro k_
      induction k_ using Nat.strongRecOn with
      | _ k_ ih0 =>
        intro hk x1_0 x2_0 x10_0 x11_0 W hM h
        cases k_ with
        | zero => exact absurd h (by simp [small_Small_xtea.l0])
        | succ k =>
          simp only [small_Small_xtea.l0] at h
          replace ih0 : ∀ m, m ≤ k → _ := fun m hm => ih0 m (by omega) (by omega)
          refine RunF.go 6 [0, 1, 2, 3, 10, 11, 14] (k' := (pl Go.Proofs.Try.f30 [1, 0, 1, 1, 1, 0, 1])) (L' := [(0, .pointer (some ⟨gp0, 0, none⟩)), (1, .int .u32 x1_0), (2, .int .u32 x2_0), (3, .bool a3), (10, .int .u32 x10_0), (11, .int .i64 x11_0), (14, .bool (x11_0 == 32))]) (w' := W) (by kernel_rfl) ?_
          rcases two ((x11_0 == 32)) with c3 | c3
          · replace h := of_true h c3
            refine RunF.know 14 (b := true) (by kernel_rfl) c3 ?_
            refine RunF.go 8 [8, 9] (k' := (pl Go.Proofs.Try.f30 [1, 0, 1, 1, 1, 0, 1, 0, 1])) (L' := [(8, .int .u32 x1_0), (9, .int .u32 x2_0)]) (w' := W) (by kernel_rfl) ?_
            obtain rfl := Option.some.inj h
            exact RunF.ret2 8 9 (.int .u32 x1_0) (.int .u32 x2_0) (fn := Go.Proofs.Try.f30) Go.Proofs.Try.func30 (by kernel_rfl) (by kernel_rfl) (by kernel_rfl) (by kernel_rfl) ⟨_, rfl, rfl, (hM.pick [] rfl rfl)⟩
          · replace h := of_false h c3
            refine RunF.know 14 (b := false) (by kernel_rfl) c3 ?_
            refine RunF.go 13 [0, 1, 2, 3, 10, 11, 19] (k' := (pl Go.Proofs.Try.f30 [1, 0, 1, 1, 1, 1, 1, 0, 1])) (L' := [(0, .pointer (some ⟨gp0, 0, none⟩)), (1, .int .u32 x1_0), (2, .int .u32 x2_0), (3, .bool a3), (10, .int .u32 x10_0), (11, .int .i64 (I64 (x11_0 + 1))), (19, .bool a3)]) (w' := W) (by kernel_rfl) ?_
            rcases two (a3) with c4 | c4
            · replace h := of_true h c4
              refine RunF.know 19 (b := true) (by kernel_rfl) c4 ?_
              refine RunF.go 9 [0, 1, 3, 10, 11, 20, 21, 22, 25] (k' := (pin Go.Proofs.Try.f30 [1, 0, 1, 1, 1, 1, 1, 0, 1, 0, 0] 6)) (L' := [(0, .pointer (some ⟨gp0, 0, none⟩)), (1, .int .u32 x1_0), (3, .bool a3), (10, .int .u32 x10_0), (11, .int .i64 (I64 (x11_0 + 1))), (20, .int .u32 x2_0), (21, .int .u32 x1_0), (22, .int .u32 x10_0), (25, .pointer (some ⟨gp0, 0, none⟩))]) (w' := W) (by kernel_rfl) ?_
              refine RunF.y (ld_y (d := some 26) (p := ⟨gp0, 0, none⟩) (k2 := (pin Go.Proofs.Try.f30 [1, 0, 1, 1, 1, 1, 1, 0, 1, 0, 0] 7)) (.slice Ao1_0 a0.1.length co1_0) (by kernel_rfl)) (hco1 _ (hZp0 _ hM.kept) 0 _ rfl) ?_
              refine RunF.go 3 [0, 1, 3, 10, 11, 20, 21, 22, 26, 29] (k' := (pin Go.Proofs.Try.f30 [1, 0, 1, 1, 1, 1, 1, 0, 1, 0, 0] 10)) (L' := [(0, .pointer (some ⟨gp0, 0, none⟩)), (1, .int .u32 x1_0), (3, .bool a3), (10, .int .u32 x10_0), (11, .int .i64 (I64 (x11_0 + 1))), (20, .int .u32 x2_0), (21, .int .u32 x1_0), (22, .int .u32 x10_0), (26, .slice Ao1_0 a0.1.length co1_0), (29, .int .u32 (band .u32 (shr x10_0 11) 3))]) (w' := W) (by kernel_rfl) ?_
              rcases two (decide (0 ≤ (band .u32 (shr x10_0 11) 3))) with c6 | c6
              · replace h := of_true h c6
                rcases two (decide ((band .u32 (shr x10_0 11) 3) < (a0.1.length : Int))) with c7 | c7
                · replace h := of_true h c7
                  obtain ⟨q5, hAq5, hcq5⟩ := Rd.num (ho1_0 _ (hZp0 _ hM.kept)) (i := band .u32 (shr x10_0 11) 3) (of_decide_eq_true c6) (by have h_ := of_decide_eq_true c7; omega)
                  refine RunF.y (idx_y (d := some 30) (A := Ao1_0) (m := a0.1.length) (i := band .u32 (shr x10_0 11) 3) (k2 := (pin Go.Proofs.Try.f30 [1, 0, 1, 1, 1, 1, 1, 0, 1, 0, 0] 11)) (by kernel_rfl) (of_decide_eq_true c6) (by have h_ := of_decide_eq_true c7; omega) hAq5) trivial ?_
                  refine RunF.y (ld_y (d := some 31) (p := (q5.add (band .u32 (shr x10_0 11) 3 : Int).toNat)) (k2 := (pin Go.Proofs.Try.f30 [1, 0, 1, 1, 1, 1, 1, 0, 1, 0, 0] 12)) (.int .u32 (rd a0.1 (band .u32 (shr x10_0 11) 3))) (by kernel_rfl)) hcq5 ?_
                  refine RunF.go 1 [0, 1, 3, 10, 11, 20, 21, 32] (k' := (pin Go.Proofs.Try.f30 [1, 0, 1, 1, 1, 1, 1, 0, 1, 0, 0] 13)) (L' := [(0, .pointer (some ⟨gp0, 0, none⟩)), (1, .int .u32 x1_0), (3, .bool a3), (10, .int .u32 x10_0), (11, .int .i64 (I64 (x11_0 + 1))), (20, .int .u32 x2_0), (21, .int .u32 x1_0), (32, .int .u32 (U32 (x10_0 + (rd a0.1 (band .u32 (shr x10_0 11) 3)))))]) (w' := W) (by kernel_rfl) ?_
                  obtain ⟨y8, hy, h⟩ := Option.bind_eq_some_iff.mp h
                  rw [show (U32 (x10_0 + (rd a0.1 (band .u32 (shr x10_0 11) 3)))) = y8 from Option.some.inj hy]
                  clear hy
                  obtain ⟨t10, ht10, h⟩ := Option.bind_eq_some_iff.mp h
                  refine RunF.call (d := some 33) (g := 47) (args := #[.int .u32 x1_0, .int .u32 y8]) (k2 := (pin Go.Proofs.Try.f30 [1, 0, 1, 1, 1, 1, 1, 0, 1, 0, 0] 14)) (by kernel_rfl) (small_stir.calls k x1_0 y8 t10 _ ht10) ?_
                  rintro _ W9 ⟨rfl, hM_⟩
                  replace hM := hM.call hM_
                  clear hM_ ht10
                  refine RunF.go 16 [0, 2, 3, 10, 11, 37, 38, 39, 42] (k' := (pin Go.Proofs.Try.f30 [1, 0, 1, 1, 1, 1, 1, 0, 1, 0, 1, 1] 6)) (L' := [(0, .pointer (some ⟨gp0, 0, none⟩)), (2, .int .u32 (U32 (x2_0 - t10))), (3, .bool a3), (10, .int .u32 (U32 (x10_0 - 2654435769))), (11, .int .i64 (I64 (x11_0 + 1))), (37, .int .u32 x1_0), (38, .int .u32 (U32 (x2_0 - t10))), (39, .int .u32 (U32 (x10_0 - 2654435769))), (42, .pointer (some ⟨gp0, 0, none⟩))]) (w' := W9) (by kernel_rfl) ?_
                  refine RunF.y (ld_y (d := some 43) (p := ⟨gp0, 0, none⟩) (k2 := (pin Go.Proofs.Try.f30 [1, 0, 1, 1, 1, 1, 1, 0, 1, 0, 1, 1] 7)) (.slice Ao1_0 a0.1.length co1_0) (by kernel_rfl)) (hco1 _ (hZp0 _ hM.kept) 0 _ rfl) ?_
                  refine RunF.go 2 [0, 2, 3, 10, 11, 37, 38, 39, 43, 45] (k' := (pin Go.Proofs.Try.f30 [1, 0, 1, 1, 1, 1, 1, 0, 1, 0, 1, 1] 9)) (L' := [(0, .pointer (some ⟨gp0, 0, none⟩)), (2, .int .u32 (U32 (x2_0 - t10))), (3, .bool a3), (10, .int .u32 (U32 (x10_0 - 2654435769))), (11, .int .i64 (I64 (x11_0 + 1))), (37, .int .u32 x1_0), (38, .int .u32 (U32 (x2_0 - t10))), (39, .int .u32 (U32 (x10_0 - 2654435769))), (43, .slice Ao1_0 a0.1.length co1_0), (45, .int .u32 (band .u32 (U32 (x10_0 - 2654435769)) 3))]) (w' := W9) (by kernel_rfl) ?_
                  rcases two (decide (0 ≤ (band .u32 (U32 (x10_0 - 2654435769)) 3))) with c12 | c12
                  · replace h := of_true h c12
                    rcases two (decide ((band .u32 (U32 (x10_0 - 2654435769)) 3) < (a0.1.length : Int))) with c13 | c13
                    · replace h := of_true h c13
                      obtain ⟨q11, hAq11, hcq11⟩ := Rd.num (ho1_0 _ (hZp0 _ hM.kept)) (i := band .u32 (U32 (x10_0 - 2654435769)) 3) (of_decide_eq_true c12) (by have h_ := of_decide_eq_true c13; omega)
                      refine RunF.y (idx_y (d := some 46) (A := Ao1_0) (m := a0.1.length) (i := band .u32 (U32 (x10_0 - 2654435769)) 3) (k2 := (pin Go.Proofs.Try.f30 [1, 0, 1, 1, 1, 1, 1, 0, 1, 0, 1, 1] 10)) (by kernel_rfl) (of_decide_eq_true c12) (by have h_ := of_decide_eq_true c13; omega) hAq11) trivial ?_
                      refine RunF.y (ld_y (d := some 47) (p := (q11.add (band .u32 (U32 (x10_0 - 2654435769)) 3 : Int).toNat)) (k2 := (pin Go.Proofs.Try.f30 [1, 0, 1, 1, 1, 1, 1, 0, 1, 0, 1, 1] 11)) (.int .u32 (rd a0.1 (band .u32 (U32 (x10_0 - 2654435769)) 3))) (by kernel_rfl)) hcq11 ?_
                      refine RunF.go 1 [0, 2, 3, 10, 11, 37, 38, 48] (k' := (pin Go.Proofs.Try.f30 [1, 0, 1, 1, 1, 1, 1, 0, 1, 0, 1, 1] 12)) (L' := [(0, .pointer (some ⟨gp0, 0, none⟩)), (2, .int .u32 (U32 (x2_0 - t10))), (3, .bool a3), (10, .int .u32 (U32 (x10_0 - 2654435769))), (11, .int .i64 (I64 (x11_0 + 1))), (37, .int .u32 x1_0), (38, .int .u32 (U32 (x2_0 - t10))), (48, .int .u32 (U32 ((U32 (x10_0 - 2654435769)) + (rd a0.1 (band .u32 (U32 (x10_0 - 2654435769)) 3)))))]) (w' := W9) (by kernel_rfl) ?_
                      obtain ⟨y14, hy, h⟩ := Option.bind_eq_some_iff.mp h
                      rw [show (U32 ((U32 (x10_0 - 2654435769)) + (rd a0.1 (band .u32 (U32 (x10_0 - 2654435769)) 3)))) = y14 from Option.some.inj hy]
                      clear hy
                      obtain ⟨t16, ht16, h⟩ := Option.bind_eq_some_iff.mp h
                      refine RunF.call (d := some 49) (g := 47) (args := #[.int .u32 (U32 (x2_0 - t10)), .int .u32 y14]) (k2 := (pin Go.Proofs.Try.f30 [1, 0, 1, 1, 1, 1, 1, 0, 1, 0, 1, 1] 13)) (by kernel_rfl) (small_stir.calls k (U32 (x2_0 - t10)) y14 t16 _ ht16) ?_
                      rintro _ W15 ⟨rfl, hM_⟩
                      replace hM := hM.call hM_
                      clear hM_ ht16
                      refine RunF.go 6 [0, 1, 2, 3, 10, 11] (k' := (pl Go.Proofs.Try.f30 [1, 0, 1, 1, 1])) (L' := [(0, .pointer (some ⟨gp0, 0, none⟩)), (1, .int .u32 (U32 (x1_0 - t16))), (2, .int .u32 (U32 (x2_0 - t10))), (3, .bool a3), (10, .int .u32 (U32 (x10_0 - 2654435769))), (11, .int .i64 (I64 (x11_0 + 1)))]) (w' := W15) (by kernel_rfl) ?_
                      exact ih0 k (by omega) (U32 (x1_0 - t16)) (U32 (x2_0 - t10)) (U32 (x10_0 - 2654435769)) (I64 (x11_0 + 1)) _ (hM.pick [] rfl rfl) h
                    · replace h := of_false h c13
                      cases h
                  · replace h := of_false h c12
                    cases h
                · replace h := of_false h c7
                  cases h
              · replace h := of_false h c6
                cases h
            · replace h := of_false h c4
              refine RunF.know 19 (b := false) (by kernel_rfl) c4 ?_
              refine RunF.go 9 [0, 2, 3, 10, 11, 51, 52, 53, 56] (k' := (pin Go.Proofs.Try.f30 [1, 0, 1, 1, 1, 1, 1, 0, 1, 1, 0] 6)) (L' := [(0, .pointer (some ⟨gp0, 0, none⟩)), (2, .int .u32 x2_0), (3, .bool a3), (10, .int .u32 x10_0), (11, .int .i64 (I64 (x11_0 + 1))), (51, .int .u32 x1_0), (52, .int .u32 x2_0), (53, .int .u32 x10_0), (56, .pointer (some ⟨gp0, 0, none⟩))]) (w' := W) (by kernel_rfl) ?_
              refine RunF.y (ld_y (d := some 57) (p := ⟨gp0, 0, none⟩) (k2 := (pin Go.Proofs.Try.f30 [1, 0, 1, 1, 1, 1, 1, 0, 1, 1, 0] 7)) (.slice Ao1_0 a0.1.length co1_0) (by kernel_rfl)) (hco1 _ (hZp0 _ hM.kept) 0 _ rfl) ?_
              refine RunF.go 2 [0, 2, 3, 10, 11, 51, 52, 53, 57, 59] (k' := (pin Go.Proofs.Try.f30 [1, 0, 1, 1, 1, 1, 1, 0, 1, 1, 0] 9)) (L' := [(0, .pointer (some ⟨gp0, 0, none⟩)), (2, .int .u32 x2_0), (3, .bool a3), (10, .int .u32 x10_0), (11, .int .i64 (I64 (x11_0 + 1))), (51, .int .u32 x1_0), (52, .int .u32 x2_0), (53, .int .u32 x10_0), (57, .slice Ao1_0 a0.1.length co1_0), (59, .int .u32 (band .u32 x10_0 3))]) (w' := W) (by kernel_rfl) ?_
              rcases two (decide (0 ≤ (band .u32 x10_0 3))) with c18 | c18
              · replace h := of_true h c18
                rcases two (decide ((band .u32 x10_0 3) < (a0.1.length : Int))) with c19 | c19
                · replace h := of_true h c19
                  obtain ⟨q17, hAq17, hcq17⟩ := Rd.num (ho1_0 _ (hZp0 _ hM.kept)) (i := band .u32 x10_0 3) (of_decide_eq_true c18) (by have h_ := of_decide_eq_true c19; omega)
                  refine RunF.y (idx_y (d := some 60) (A := Ao1_0) (m := a0.1.length) (i := band .u32 x10_0 3) (k2 := (pin Go.Proofs.Try.f30 [1, 0, 1, 1, 1, 1, 1, 0, 1, 1, 0] 10)) (by kernel_rfl) (of_decide_eq_true c18) (by have h_ := of_decide_eq_true c19; omega) hAq17) trivial ?_
                  refine RunF.y (ld_y (d := some 61) (p := (q17.add (band .u32 x10_0 3 : Int).toNat)) (k2 := (pin Go.Proofs.Try.f30 [1, 0, 1, 1, 1, 1, 1, 0, 1, 1, 0] 11)) (.int .u32 (rd a0.1 (band .u32 x10_0 3))) (by kernel_rfl)) hcq17 ?_
                  refine RunF.go 1 [0, 2, 3, 10, 11, 51, 52, 62] (k' := (pin Go.Proofs.Try.f30 [1, 0, 1, 1, 1, 1, 1, 0, 1, 1, 0] 12)) (L' := [(0, .pointer (some ⟨gp0, 0, none⟩)), (2, .int .u32 x2_0), (3, .bool a3), (10, .int .u32 x10_0), (11, .int .i64 (I64 (x11_0 + 1))), (51, .int .u32 x1_0), (52, .int .u32 x2_0), (62, .int .u32 (U32 (x10_0 + (rd a0.1 (band .u32 x10_0 3)))))]) (w' := W) (by kernel_rfl) ?_
                  obtain ⟨t21, ht21, h⟩ := Option.bind_eq_some_iff.mp h
                  refine RunF.call (d := some 63) (g := 47) (args := #[.int .u32 x2_0, .int .u32 (U32 (x10_0 + (rd a0.1 (band .u32 x10_0 3))))]) (k2 := (pin Go.Proofs.Try.f30 [1, 0, 1, 1, 1, 1, 1, 0, 1, 1, 0] 13)) (by kernel_rfl) (small_stir.calls k x2_0 (U32 (x10_0 + (rd a0.1 (band .u32 x10_0 3)))) t21 _ ht21) ?_
                  rintro _ W20 ⟨rfl, hM_⟩
                  replace hM := hM.call hM_
                  clear hM_ ht21
                  refine RunF.go 16 [0, 1, 3, 10, 11, 67, 68, 69, 72] (k' := (pin Go.Proofs.Try.f30 [1, 0, 1, 1, 1, 1, 1, 0, 1, 1, 1, 1] 6)) (L' := [(0, .pointer (some ⟨gp0, 0, none⟩)), (1, .int .u32 (U32 (x1_0 + t21))), (3, .bool a3), (10, .int .u32 (U32 (x10_0 + 2654435769))), (11, .int .i64 (I64 (x11_0 + 1))), (67, .int .u32 x2_0), (68, .int .u32 (U32 (x1_0 + t21))), (69, .int .u32 (U32 (x10_0 + 2654435769))), (72, .pointer (some ⟨gp0, 0, none⟩))]) (w' := W20) (by kernel_rfl) ?_
                  refine RunF.y (ld_y (d := some 73) (p := ⟨gp0, 0, none⟩) (k2 := (pin Go.Proofs.Try.f30 [1, 0, 1, 1, 1, 1, 1, 0, 1, 1, 1, 1] 7)) (.slice Ao1_0 a0.1.length co1_0) (by kernel_rfl)) (hco1 _ (hZp0 _ hM.kept) 0 _ rfl) ?_
                  refine RunF.go 3 [0, 1, 3, 10, 11, 67, 68, 69, 73, 76] (k' := (pin Go.Proofs.Try.f30 [1, 0, 1, 1, 1, 1, 1, 0, 1, 1, 1, 1] 10)) (L' := [(0, .pointer (some ⟨gp0, 0, none⟩)), (1, .int .u32 (U32 (x1_0 + t21))), (3, .bool a3), (10, .int .u32 (U32 (x10_0 + 2654435769))), (11, .int .i64 (I64 (x11_0 + 1))), (67, .int .u32 x2_0), (68, .int .u32 (U32 (x1_0 + t21))), (69, .int .u32 (U32 (x10_0 + 2654435769))), (73, .slice Ao1_0 a0.1.length co1_0), (76, .int .u32 (band .u32 (shr (U32 (x10_0 + 2654435769)) 11) 3))]) (w' := W20) (by kernel_rfl) ?_
                  obtain ⟨y22, hy, h⟩ := Option.bind_eq_some_iff.mp h
                  rw [show (band .u32 (shr (U32 (x10_0 + 2654435769)) 11) 3) = y22 from Option.some.inj hy]
                  clear hy
                  rcases two (decide (0 ≤ y22)) with c24 | c24
                  · replace h := of_true h c24
                    rcases two (decide (y22 < (a0.1.length : Int))) with c25 | c25
                    · replace h := of_true h c25
                      obtain ⟨q23, hAq23, hcq23⟩ := Rd.num (ho1_0 _ (hZp0 _ hM.kept)) (i := y22) (of_decide_eq_true c24) (by have h_ := of_decide_eq_true c25; omega)
                      refine RunF.y (idx_y (d := some 77) (A := Ao1_0) (m := a0.1.length) (i := y22) (k2 := (pin Go.Proofs.Try.f30 [1, 0, 1, 1, 1, 1, 1, 0, 1, 1, 1, 1] 11)) (by kernel_rfl) (of_decide_eq_true c24) (by have h_ := of_decide_eq_true c25; omega) hAq23) trivial ?_
                      refine RunF.y (ld_y (d := some 78) (p := (q23.add (y22 : Int).toNat)) (k2 := (pin Go.Proofs.Try.f30 [1, 0, 1, 1, 1, 1, 1, 0, 1, 1, 1, 1] 12)) (.int .u32 (rd a0.1 y22)) (by kernel_rfl)) hcq23 ?_
                      refine RunF.go 1 [0, 1, 3, 10, 11, 67, 68, 79] (k' := (pin Go.Proofs.Try.f30 [1, 0, 1, 1, 1, 1, 1, 0, 1, 1, 1, 1] 13)) (L' := [(0, .pointer (some ⟨gp0, 0, none⟩)), (1, .int .u32 (U32 (x1_0 + t21))), (3, .bool a3), (10, .int .u32 (U32 (x10_0 + 2654435769))), (11, .int .i64 (I64 (x11_0 + 1))), (67, .int .u32 x2_0), (68, .int .u32 (U32 (x1_0 + t21))), (79, .int .u32 (U32 ((U32 (x10_0 + 2654435769)) + (rd a0.1 y22))))]) (w' := W20) (by kernel_rfl) ?_
                      obtain ⟨y26, hy, h⟩ := Option.bind_eq_some_iff.mp h
                      rw [show (U32 ((U32 (x10_0 + 2654435769)) + (rd a0.1 y22))) = y26 from Option.some.inj hy]
                      clear hy
                      obtain ⟨t28, ht28, h⟩ := Option.bind_eq_some_iff.mp h
                      refine RunF.call (d := some 80) (g := 47) (args := #[.int .u32 (U32 (x1_0 + t21)), .int .u32 y26]) (k2 := (pin Go.Proofs.Try.f30 [1, 0, 1, 1, 1, 1, 1, 0, 1, 1, 1, 1] 14)) (by kernel_rfl) (small_stir.calls k (U32 (x1_0 + t21)) y26 t28 _ ht28) ?_
                      rintro _ W27 ⟨rfl, hM_⟩
                      replace hM := hM.call hM_
                      clear hM_ ht28
                      refine RunF.go 6 [0, 1, 2, 3, 10, 11] (k' := (pl Go.Proofs.Try.f30 [1, 0, 1, 1, 1])) (L' := [(0, .pointer (some ⟨gp0, 0, none⟩)), (1, .int .u32 (U32 (x1_0 + t21))), (2, .int .u32 (U32 (x2_0 + t28))), (3, .bool a3), (10, .int .u32 (U32 (x10_0 + 2654435769))), (11, .int .i64 (I64 (x11_0 + 1)))]) (w' := W27) (by kernel_rfl) ?_
                      exact ih0 k (by omega) (U32 (x1_0 + t21)) (U32 (x2_0 + t28)) (U32 (x10_0 + 2654435769)) (I64 (x11_0 + 1)) _ (hM.pick [] rfl rfl) h
                    · replace h := of_false h c25
                      cases h
                  · replace h := of_false h c24
                    cases h
                · replace h := of_false h c19
                  cases h
              · replace h := of_false h c18
                cases h
    exact l0 k (Nat.le_refl _) a1 a2 3337565984 0 _ (hM.pick [] rfl rfl) h
  · replace h := of_false h c2
    refine RunF.know 12 (b := false) (by kernel_rfl) c2 ?_
    refine RunF.go 4 [0, 1, 2, 3, 10, 11] (k' := (pl Go.Proofs.Try.f30 [1, 0, 1, 1, 1])) (L' := [(0, .pointer (some ⟨gp0, 0, none⟩)), (1, .int .u32 a1), (2, .int .u32 a2), (3, .bool a3), (10, .int .u32 0), (11, .int .i64 0)]) (w' := w) (by kernel_rfl) ?_
    have l1 : ∀ (k_ : Nat), k_ ≤ k → ∀ (x1_1 : Int) (x2_1 : Int) (x10_1 : Int) (x11_1 : Int) (W : World) (hM : Mem w W []) (h : small_Small_xtea.l1 k_ a0 a3 x1_1 x2_1 x10_1 x11_1 = some r), RunF Go.Proofs.Try.prog (Ret fun v w' => v = .tuple #[.int .u32 r.1, .int .u32 r.2] ∧ Mem w w' []) 30 (pl Go.Proofs.Try.f30 [1, 0, 1, 1, 1]) 82 [(0, .pointer (some ⟨gp0, 0, none⟩)), (1, .int .u32 x1_1), (2, .int .u32 x2_1), (3, .bool a3), (10, .int .u32 x10_1), (11, .int .i64 x11_1)] W := by
      intro k_
      induction k_ using Nat.strongRecOn with
      | _ k_ ih1 =>
        intro hk x1_1 x2_1 x10_1 x11_1 W hM h
        cases k_ with
        | zero => exact absurd h (by simp [small_Small_xtea.l1])
        | succ k =>
          simp only [small_Small_xtea.l1] at h
          replace ih1 : ∀ m, m ≤ k → _ := fun m hm => ih1 m (by omega) (by omega)
          refine RunF.go 6 [0, 1, 2, 3, 10, 11, 14] (k' := (pl Go.Proofs.Try.f30 [1, 0, 1, 1, 1, 0, 1])) (L' := [(0, .pointer (some ⟨gp0, 0, none⟩)), (1, .int .u32 x1_1), (2, .int .u32 x2_1), (3, .bool a3), (10, .int .u32 x10_1), (11, .int .i64 x11_1), (14, .bool (x11_1 == 32))]) (w' := W) (by kernel_rfl) ?_
          rcases two ((x11_1 == 32)) with c29 | c29
          · replace h := of_true h c29
            refine RunF.know 14 (b := true) (by kernel_rfl) c29 ?_
            refine RunF.go 8 [8, 9] (k' := (pl Go.Proofs.Try.f30 [1, 0, 1, 1, 1, 0, 1, 0, 1])) (L' := [(8, .int .u32 x1_1), (9, .int .u32 x2_1)]) (w' := W) (by kernel_rfl) ?_
            obtain rfl := Option.some.inj h
            exact RunF.ret2 8 9 (.int .u32 x1_1) (.int .u32 x2_1) (fn := Go.Proofs.Try.f30) Go.Proofs.Try.func30 (by kernel_rfl) (by kernel_rfl) (by kernel_rfl) (by kernel_rfl) ⟨_, rfl, rfl, (hM.pick [] rfl rfl)⟩
          · replace h := of_false h c29
            refine RunF.know 14 (b := false) (by kernel_rfl) c29 ?_
            refine RunF.go 13 [0, 1, 2, 3, 10, 11, 19] (k' := (pl Go.Proofs.Try.f30 [1, 0, 1, 1, 1, 1, 1, 0, 1])) (L' := [(0, .pointer (some ⟨gp0, 0, none⟩)), (1, .int .u32 x1_1), (2, .int .u32 x2_1), (3, .bool a3), (10, .int .u32 x10_1), (11, .int .i64 (I64 (x11_1 + 1))), (19, .bool a3)]) (w' := W) (by kernel_rfl) ?_
            rcases two (a3) with c30 | c30
            · replace h := of_true h c30
              refine RunF.know 19 (b := true) (by kernel_rfl) c30 ?_
              refine RunF.go 9 [0, 1, 3, 10, 11, 20, 21, 22, 25] (k' := (pin Go.Proofs.Try.f30 [1, 0, 1, 1, 1, 1, 1, 0, 1, 0, 0] 6)) (L' := [(0, .pointer (some ⟨gp0, 0, none⟩)), (1, .int .u32 x1_1), (3, .bool a3), (10, .int .u32 x10_1), (11, .int .i64 (I64 (x11_1 + 1))), (20, .int .u32 x2_1), (21, .int .u32 x1_1), (22, .int .u32 x10_1), (25, .pointer (some ⟨gp0, 0, none⟩))]) (w' := W) (by kernel_rfl) ?_
              refine RunF.y (ld_y (d := some 26) (p := ⟨gp0, 0, none⟩) (k2 := (pin Go.Proofs.Try.f30 [1, 0, 1, 1, 1, 1, 1, 0, 1, 0, 0] 7)) (.slice Ao1_0 a0.1.length co1_0) (by kernel_rfl)) (hco1 _ (hZp0 _ hM.kept) 0 _ rfl) ?_
              refine RunF.go 3 [0, 1, 3, 10, 11, 20, 21, 22, 26, 29] (k' := (pin Go.Proofs.Try.f30 [1, 0, 1, 1, 1, 1, 1, 0, 1, 0, 0] 10)) (L' := [(0, .pointer (some ⟨gp0, 0, none⟩)), (1, .int .u32 x1_1), (3, .bool a3), (10, .int .u32 x10_1), (11, .int .i64 (I64 (x11_1 + 1))), (20, .int .u32 x2_1), (21, .int .u32 x1_1), (22, .int .u32 x10_1), (26, .slice Ao1_0 a0.1.length co1_0), (29, .int .u32 (band .u32 (shr x10_1 11) 3))]) (w' := W) (by kernel_rfl) ?_
              rcases two (decide (0 ≤ (band .u32 (shr x10_1 11) 3))) with c32 | c32
              · replace h := of_true h c32
                rcases two (decide ((band .u32 (shr x10_1 11) 3) < (a0.1.length : Int))) with c33 | c33
                · replace h := of_true h c33
                  obtain ⟨q31, hAq31, hcq31⟩ := Rd.num (ho1_0 _ (hZp0 _ hM.kept)) (i := band .u32 (shr x10_1 11) 3) (of_decide_eq_true c32) (by have h_ := of_decide_eq_true c33; omega)
                  refine RunF.y (idx_y (d := some 30) (A := Ao1_0) (m := a0.1.length) (i := band .u32 (shr x10_1 11) 3) (k2 := (pin Go.Proofs.Try.f30 [1, 0, 1, 1, 1, 1, 1, 0, 1, 0, 0] 11)) (by kernel_rfl) (of_decide_eq_true c32) (by have h_ := of_decide_eq_true c33; omega) hAq31) trivial ?_
                  refine RunF.y (ld_y (d := some 31) (p := (q31.add (band .u32 (shr x10_1 11) 3 : Int).toNat)) (k2 := (pin Go.Proofs.Try.f30 [1, 0, 1, 1, 1, 1, 1, 0, 1, 0, 0] 12)) (.int .u32 (rd a0.1 (band .u32 (shr x10_1 11) 3))) (by kernel_rfl)) hcq31 ?_
                  refine RunF.go 1 [0, 1, 3, 10, 11, 20, 21, 32] (k' := (pin Go.Proofs.Try.f30 [1, 0, 1, 1, 1, 1, 1, 0, 1, 0, 0] 13)) (L' := [(0, .pointer (some ⟨gp0, 0, none⟩)), (1, .int .u32 x1_1), (3, .bool a3), (10, .int .u32 x10_1), (11, .int .i64 (I64 (x11_1 + 1))), (20, .int .u32 x2_1), (21, .int .u32 x1_1), (32, .int .u32 (U32 (x10_1 + (rd a0.1 (band .u32 (shr x10_1 11) 3)))))]) (w' := W) (by kernel_rfl) ?_
                  obtain ⟨y34, hy, h⟩ := Option.bind_eq_some_iff.mp h
                  rw [show (U32 (x10_1 + (rd a0.1 (band .u32 (shr x10_1 11) 3)))) = y34 from Option.some.inj hy]
                  clear hy
                  obtain ⟨t36, ht36, h⟩ := Option.bind_eq_some_iff.mp h
                  refine RunF.call (d := some 33) (g := 47) (args := #[.int .u32 x1_1, .int .u32 y34]) (k2 := (pin Go.Proofs.Try.f30 [1, 0, 1, 1, 1, 1, 1, 0, 1, 0, 0] 14)) (by kernel_rfl) (small_stir.calls k x1_1 y34 t36 _ ht36) ?_
                  rintro _ W35 ⟨rfl, hM_⟩
                  replace hM := hM.call hM_
                  clear hM_ ht36
                  refine RunF.go 16 [0, 2, 3, 10, 11, 37, 38, 39, 42] (k' := (pin Go.Proofs.Try.f30 [1, 0, 1, 1, 1, 1, 1, 0, 1, 0, 1, 1] 6)) (L' := [(0, .pointer (some ⟨gp0, 0, none⟩)), (2, .int .u32 (U32 (x2_1 - t36))), (3, .bool a3), (10, .int .u32 (U32 (x10_1 - 2654435769))), (11, .int .i64 (I64 (x11_1 + 1))), (37, .int .u32 x1_1), (38, .int .u32 (U32 (x2_1 - t36))), (39, .int .u32 (U32 (x10_1 - 2654435769))), (42, .pointer (some ⟨gp0, 0, none⟩))]) (w' := W35) (by kernel_rfl) ?_
                  refine RunF.y (ld_y (d := some 43) (p := ⟨gp0, 0, none⟩) (k2 := (pin Go.Proofs.Try.f30 [1, 0, 1, 1, 1, 1, 1, 0, 1, 0, 1, 1] 7)) (.slice Ao1_0 a0.1.length co1_0) (by kernel_rfl)) (hco1 _ (hZp0 _ hM.kept) 0 _ rfl) ?_
                  refine RunF.go 2 [0, 2, 3, 10, 11, 37, 38, 39, 43, 45] (k' := (pin Go.Proofs.Try.f30 [1, 0, 1, 1, 1, 1, 1, 0, 1, 0, 1, 1] 9)) (L' := [(0, .pointer (some ⟨gp0, 0, none⟩)), (2, .int .u32 (U32 (x2_1 - t36))), (3, .bool a3), (10, .int .u32 (U32 (x10_1 - 2654435769))), (11, .int .i64 (I64 (x11_1 + 1))), (37, .int .u32 x1_1), (38, .int .u32 (U32 (x2_1 - t36))), (39, .int .u32 (U32 (x10_1 - 2654435769))), (43, .slice Ao1_0 a0.1.length co1_0), (45, .int .u32 (band .u32 (U32 (x10_1 - 2654435769)) 3))]) (w' := W35) (by kernel_rfl) ?_
                  rcases two (decide (0 ≤ (band .u32 (U32 (x10_1 - 2654435769)) 3))) with c38 | c38
                  · replace h := of_true h c38
                    rcases two (decide ((band .u32 (U32 (x10_1 - 2654435769)) 3) < (a0.1.length : Int))) with c39 | c39
                    · replace h := of_true h c39
                      obtain ⟨q37, hAq37, hcq37⟩ := Rd.num (ho1_0 _ (hZp0 _ hM.kept)) (i := band .u32 (U32 (x10_1 - 2654435769)) 3) (of_decide_eq_true c38) (by have h_ := of_decide_eq_true c39; omega)
                      refine RunF.y (idx_y (d := some 46) (A := Ao1_0) (m := a0.1.length) (i := band .u32 (U32 (x10_1 - 2654435769)) 3) (k2 := (pin Go.Proofs.Try.f30 [1, 0, 1, 1, 1, 1, 1, 0, 1, 0, 1, 1] 10)) (by kernel_rfl) (of_decide_eq_true c38) (by have h_ := of_decide_eq_true c39; omega) hAq37) trivial ?_
                      refine RunF.y (ld_y (d := some 47) (p := (q37.add (band .u32 (U32 (x10_1 - 2654435769)) 3 : Int).toNat)) (k2 := (pin Go.Proofs.Try.f30 [1, 0, 1, 1, 1, 1, 1, 0, 1, 0, 1, 1] 11)) (.int .u32 (rd a0.1 (band .u32 (U32 (x10_1 - 2654435769)) 3))) (by kernel_rfl)) hcq37 ?_
                      refine RunF.go 1 [0, 2, 3, 10, 11, 37, 38, 48] (k' := (pin Go.Proofs.Try.f30 [1, 0, 1, 1, 1, 1, 1, 0, 1, 0, 1, 1] 12)) (L' := [(0, .pointer (some ⟨gp0, 0, none⟩)), (2, .int .u32 (U32 (x2_1 - t36))), (3, .bool a3), (10, .int .u32 (U32 (x10_1 - 2654435769))), (11, .int .i64 (I64 (x11_1 + 1))), (37, .int .u32 x1_1), (38, .int .u32 (U32 (x2_1 - t36))), (48, .int .u32 (U32 ((U32 (x10_1 - 2654435769)) + (rd a0.1 (band .u32 (U32 (x10_1 - 2654435769)) 3)))))]) (w' := W35) (by kernel_rfl) ?_
                      obtain ⟨y40, hy, h⟩ := Option.bind_eq_some_iff.mp h
                      rw [show (U32 ((U32 (x10_1 - 2654435769)) + (rd a0.1 (band .u32 (U32 (x10_1 - 2654435769)) 3)))) = y40 from Option.some.inj hy]
                      clear hy
                      obtain ⟨t42, ht42, h⟩ := Option.bind_eq_some_iff.mp h
                      refine RunF.call (d := some 49) (g := 47) (args := #[.int .u32 (U32 (x2_1 - t36)), .int .u32 y40]) (k2 := (pin Go.Proofs.Try.f30 [1, 0, 1, 1, 1, 1, 1, 0, 1, 0, 1, 1] 13)) (by kernel_rfl) (small_stir.calls k (U32 (x2_1 - t36)) y40 t42 _ ht42) ?_
                      rintro _ W41 ⟨rfl, hM_⟩
                      replace hM := hM.call hM_
                      clear hM_ ht42
                      refine RunF.go 6 [0, 1, 2, 3, 10, 11] (k' := (pl Go.Proofs.Try.f30 [1, 0, 1, 1, 1])) (L' := [(0, .pointer (some ⟨gp0, 0, none⟩)), (1, .int .u32 (U32 (x1_1 - t42))), (2, .int .u32 (U32 (x2_1 - t36))), (3, .bool a3), (10, .int .u32 (U32 (x10_1 - 2654435769))), (11, .int .i64 (I64 (x11_1 + 1)))]) (w' := W41) (by kernel_rfl) ?_
                      exact ih1 k (by omega) (U32 (x1_1 - t42)) (U32 (x2_1 - t36)) (U32 (x10_1 - 2654435769)) (I64 (x11_1 + 1)) _ (hM.pick [] rfl rfl) h
                    · replace h := of_false h c39
                      cases h
                  · replace h := of_false h c38
                    cases h
                · replace h := of_false h c33
                  cases h
              · replace h := of_false h c32
                cases h
            · replace h := of_false h c30
              refine RunF.know 19 (b := false) (by kernel_rfl) c30 ?_
              refine RunF.go 9 [0, 2, 3, 10, 11, 51, 52, 53, 56] (k' := (pin Go.Proofs.Try.f30 [1, 0, 1, 1, 1, 1, 1, 0, 1, 1, 0] 6)) (L' := [(0, .pointer (some ⟨gp0, 0, none⟩)), (2, .int .u32 x2_1), (3, .bool a3), (10, .int .u32 x10_1), (11, .int .i64 (I64 (x11_1 + 1))), (51, .int .u32 x1_1), (52, .int .u32 x2_1), (53, .int .u32 x10_1), (56, .pointer (some ⟨gp0, 0, none⟩))]) (w' := W) (by kernel_rfl) ?_
              refine RunF.y (ld_y (d := some 57) (p := ⟨gp0, 0, none⟩) (k2 := (pin Go.Proofs.Try.f30 [1, 0, 1, 1, 1, 1, 1, 0, 1, 1, 0] 7)) (.slice Ao1_0 a0.1.length co1_0) (by kernel_rfl)) (hco1 _ (hZp0 _ hM.kept) 0 _ rfl) ?_
              refine RunF.go 2 [0, 2, 3, 10, 11, 51, 52, 53, 57, 59] (k' := (pin Go.Proofs.Try.f30 [1, 0, 1, 1, 1, 1, 1, 0, 1, 1, 0] 9)) (L' := [(0, .pointer (some ⟨gp0, 0, none⟩)), (2, .int .u32 x2_1), (3, .bool a3), (10, .int .u32 x10_1), (11, .int .i64 (I64 (x11_1 + 1))), (51, .int .u32 x1_1), (52, .int .u32 x2_1), (53, .int .u32 x10_1), (57, .slice Ao1_0 a0.1.length co1_0), (59, .int .u32 (band .u32 x10_1 3))]) (w' := W) (by kernel_rfl) ?_
              rcases two (decide (0 ≤ (band .u32 x10_1 3))) with c44 | c44
              · replace h := of_true h c44
                rcases two (decide ((band .u32 x10_1 3) < (a0.1.length : Int))) with c45 | c45
                · replace h := of_true h c45
                  obtain ⟨q43, hAq43, hcq43⟩ := Rd.num (ho1_0 _ (hZp0 _ hM.kept)) (i := band .u32 x10_1 3) (of_decide_eq_true c44) (by have h_ := of_decide_eq_true c45; omega)
                  refine RunF.y (idx_y (d := some 60) (A := Ao1_0) (m := a0.1.length) (i := band .u32 x10_1 3) (k2 := (pin Go.Proofs.Try.f30 [1, 0, 1, 1, 1, 1, 1, 0, 1, 1, 0] 10)) (by kernel_rfl) (of_decide_eq_true c44) (by have h_ := of_decide_eq_true c45; omega) hAq43) trivial ?_
                  refine RunF.y (ld_y (d := some 61) (p := (q43.add (band .u32 x10_1 3 : Int).toNat)) (k2 := (pin Go.Proofs.Try.f30 [1, 0, 1, 1, 1, 1, 1, 0, 1, 1, 0] 11)) (.int .u32 (rd a0.1 (band .u32 x10_1 3))) (by kernel_rfl)) hcq43 ?_
                  refine RunF.go 1 [0, 2, 3, 10, 11, 51, 52, 62] (k' := (pin Go.Proofs.Try.f30 [1, 0, 1, 1, 1, 1, 1, 0, 1, 1, 0] 12)) (L' := [(0, .pointer (some ⟨gp0, 0, none⟩)), (2, .int .u32 x2_1), (3, .bool a3), (10, .int .u32 x10_1), (11, .int .i64 (I64 (x11_1 + 1))), (51, .int .u32 x1_1), (52, .int .u32 x2_1), (62, .int .u32 (U32 (x10_1 + (rd a0.1 (band .u32 x10_1 3)))))]) (w' := W) (by kernel_rfl) ?_
                  obtain ⟨t47, ht47, h⟩ := Option.bind_eq_some_iff.mp h
                  refine RunF.call (d := some 63) (g := 47) (args := #[.int .u32 x2_1, .int .u32 (U32 (x10_1 + (rd a0.1 (band .u32 x10_1 3))))]) (k2 := (pin Go.Proofs.Try.f30 [1, 0, 1, 1, 1, 1, 1, 0, 1, 1, 0] 13)) (by kernel_rfl) (small_stir.calls k x2_1 (U32 (x10_1 + (rd a0.1 (band .u32 x10_1 3)))) t47 _ ht47) ?_
                  rintro _ W46 ⟨rfl, hM_⟩
                  replace hM := hM.call hM_
                  clear hM_ ht47
                  refine RunF.go 16 [0, 1, 3, 10, 11, 67, 68, 69, 72] (k' := (pin Go.Proofs.Try.f30 [1, 0, 1, 1, 1, 1, 1, 0, 1, 1, 1, 1] 6)) (L' := [(0, .pointer (some ⟨gp0, 0, none⟩)), (1, .int .u32 (U32 (x1_1 + t47))), (3, .bool a3), (10, .int .u32 (U32 (x10_1 + 2654435769))), (11, .int .i64 (I64 (x11_1 + 1))), (67, .int .u32 x2_1), (68, .int .u32 (U32 (x1_1 + t47))), (69, .int .u32 (U32 (x10_1 + 2654435769))), (72, .pointer (some ⟨gp0, 0, none⟩))]) (w' := W46) (by kernel_rfl) ?_
                  refine RunF.y (ld_y (d := some 73) (p := ⟨gp0, 0, none⟩) (k2 := (pin Go.Proofs.Try.f30 [1, 0, 1, 1, 1, 1, 1, 0, 1, 1, 1, 1] 7)) (.slice Ao1_0 a0.1.length co1_0) (by kernel_rfl)) (hco1 _ (hZp0 _ hM.kept) 0 _ rfl) ?_
                  refine RunF.go 3 [0, 1, 3, 10, 11, 67, 68, 69, 73, 76] (k' := (pin Go.Proofs.Try.f30 [1, 0, 1, 1, 1, 1, 1, 0, 1, 1, 1, 1] 10)) (L' := [(0, .pointer (some ⟨gp0, 0, none⟩)), (1, .int .u32 (U32 (x1_1 + t47))), (3, .bool a3), (10, .int .u32 (U32 (x10_1 + 2654435769))), (11, .int .i64 (I64 (x11_1 + 1))), (67, .int .u32 x2_1), (68, .int .u32 (U32 (x1_1 + t47))), (69, .int .u32 (U32 (x10_1 + 2654435769))), (73, .slice Ao1_0 a0.1.length co1_0), (76, .int .u32 (band .u32 (shr (U32 (x10_1 + 2654435769)) 11) 3))]) (w' := W46) (by kernel_rfl) ?_
                  obtain ⟨y48, hy, h⟩ := Option.bind_eq_some_iff.mp h
                  rw [show (band .u32 (shr (U32 (x10_1 + 2654435769)) 11) 3) = y48 from Option.some.inj hy]
                  clear hy
                  rcases two (decide (0 ≤ y48)) with c50 | c50
                  · replace h := of_true h c50
                    rcases two (decide (y48 < (a0.1.length : Int))) with c51 | c51
                    · replace h := of_true h c51
                      obtain ⟨q49, hAq49, hcq49⟩ := Rd.num (ho1_0 _ (hZp0 _ hM.kept)) (i := y48) (of_decide_eq_true c50) (by have h_ := of_decide_eq_true c51; omega)
                      refine RunF.y (idx_y (d := some 77) (A := Ao1_0) (m := a0.1.length) (i := y48) (k2 := (pin Go.Proofs.Try.f30 [1, 0, 1, 1, 1, 1, 1, 0, 1, 1, 1, 1] 11)) (by kernel_rfl) (of_decide_eq_true c50) (by have h_ := of_decide_eq_true c51; omega) hAq49) trivial ?_
                      refine RunF.y (ld_y (d := some 78) (p := (q49.add (y48 : Int).toNat)) (k2 := (pin Go.Proofs.Try.f30 [1, 0, 1, 1, 1, 1, 1, 0, 1, 1, 1, 1] 12)) (.int .u32 (rd a0.1 y48)) (by kernel_rfl)) hcq49 ?_
                      refine RunF.go 1 [0, 1, 3, 10, 11, 67, 68, 79] (k' := (pin Go.Proofs.Try.f30 [1, 0, 1, 1, 1, 1, 1, 0, 1, 1, 1, 1] 13)) (L' := [(0, .pointer (some ⟨gp0, 0, none⟩)), (1, .int .u32 (U32 (x1_1 + t47))), (3, .bool a3), (10, .int .u32 (U32 (x10_1 + 2654435769))), (11, .int .i64 (I64 (x11_1 + 1))), (67, .int .u32 x2_1), (68, .int .u32 (U32 (x1_1 + t47))), (79, .int .u32 (U32 ((U32 (x10_1 + 2654435769)) + (rd a0.1 y48))))]) (w' := W46) (by kernel_rfl) ?_
                      obtain ⟨y52, hy, h⟩ := Option.bind_eq_some_iff.mp h
                      rw [show (U32 ((U32 (x10_1 + 2654435769)) + (rd a0.1 y48))) = y52 from Option.some.inj hy]
                      clear hy
                      obtain ⟨t54, ht54, h⟩ := Option.bind_eq_some_iff.mp h
                      refine RunF.call (d := some 80) (g := 47) (args := #[.int .u32 (U32 (x1_1 + t47)), .int .u32 y52]) (k2 := (pin Go.Proofs.Try.f30 [1, 0, 1, 1, 1, 1, 1, 0, 1, 1, 1, 1] 14)) (by kernel_rfl) (small_stir.calls k (U32 (x1_1 + t47)) y52 t54 _ ht54) ?_
                      rintro _ W53 ⟨rfl, hM_⟩
                      replace hM := hM.call hM_
                      clear hM_ ht54
                      refine RunF.go 6 [0, 1, 2, 3, 10, 11] (k' := (pl Go.Proofs.Try.f30 [1, 0, 1, 1, 1])) (L' := [(0, .pointer (some ⟨gp0, 0, none⟩)), (1, .int .u32 (U32 (x1_1 + t47))), (2, .int .u32 (U32 (x2_1 + t54))), (3, .bool a3), (10, .int .u32 (U32 (x10_1 + 2654435769))), (11, .int .i64 (I64 (x11_1 + 1)))]) (w' := W53) (by kernel_rfl) ?_
                      exact ih1 k (by omega) (U32 (x1_1 + t47)) (U32 (x2_1 + t54)) (U32 (x10_1 + 2654435769)) (I64 (x11_1 + 1)) _ (hM.pick [] rfl rfl) h
                    · replace h := of_false h c51
                      cases h
                  · replace h := of_false h c50
                    cases h
                · replace h := of_false h c45
                  cases h
              · replace h := of_false h c44
                cases h
    exact l1 k (Nat.le_refl _) a1 a2 0 0 _ (hM.pick [] rfl rfl) h

/-! ### scrim/small.rows: function 39 -/
def small_rows.f (k : Nat)  : Option (List ByteArray) := some ([(⟨#[67, 52, 54, 50, 65, 53, 66, 57, 69, 56, 68, 55, 48, 51, 70, 49]⟩ : ByteArray), (⟨#[54, 56, 50, 51, 57, 65, 53, 67, 49, 69, 52, 55, 66, 68, 48, 70]⟩ : ByteArray), (⟨#[66, 51, 53, 56, 50, 70, 65, 68, 69, 49, 55, 52, 67, 57, 54, 48]⟩ : ByteArray), (⟨#[67, 56, 50, 49, 68, 52, 70, 54, 55, 48, 65, 53, 51, 69, 57, 66]⟩ : ByteArray), (⟨#[55, 70, 53, 65, 56, 49, 54, 68, 48, 57, 51, 69, 66, 52, 50, 67]⟩ : ByteArray), (⟨#[53, 68, 70, 54, 57, 50, 67, 65, 66, 55, 56, 49, 52, 51, 69, 48]⟩ : ByteArray), (⟨#[56, 69, 50, 53, 54, 57, 49, 67, 70, 52, 66, 48, 68, 65, 51, 55]⟩ : ByteArray), (⟨#[49, 55, 69, 68, 48, 53, 56, 51, 52, 70, 65, 54, 57, 67, 66, 50]⟩ : ByteArray)] : List ByteArray)
set_option maxRecDepth 100000 in
theorem small_rows.calls (k : Nat)  (r : List ByteArray) (w : World) (h : small_rows.f k = some r) :
    Calls Go.Proofs.Try.prog 39 #[] w (Ret fun v w' => v = .agg (strs r).toArray ∧ r.length = 8 ∧ Mem w w' []) := by
  unfold small_rows.f at h
  refine calls_of [] (fn := Go.Proofs.Try.f39) Go.Proofs.Try.func39 (by kernel_rfl) (by kernel_rfl) ?_
  have hM := Mem.refl w
  refine RunF.go 2 [] (k' := (pin Go.Proofs.Try.f39 [0] 0)) (L' := []) (w' := w) (by kernel_rfl) ?_
  refine RunF.newVar 70 (strs (List.replicate 8 ByteArray.empty)) (d := some 0) (k2 := (pin Go.Proofs.Try.f39 [0] 1)) hM (by kernel_rfl) ?_
  intro g1 W2 hM
  refine RunF.go 4 [0, 1] (k' := (pin Go.Proofs.Try.f39 [1, 0] 1)) (L' := [(0, .pointer (some ⟨g1, 0, none⟩)), (1, .agg (strs ([(⟨#[67, 52, 54, 50, 65, 53, 66, 57, 69, 56, 68, 55, 48, 51, 70, 49]⟩ : ByteArray), (⟨#[54, 56, 50, 51, 57, 65, 53, 67, 49, 69, 52, 55, 66, 68, 48, 70]⟩ : ByteArray), (⟨#[66, 51, 53, 56, 50, 70, 65, 68, 69, 49, 55, 52, 67, 57, 54, 48]⟩ : ByteArray), (⟨#[67, 56, 50, 49, 68, 52, 70, 54, 55, 48, 65, 53, 51, 69, 57, 66]⟩ : ByteArray), (⟨#[55, 70, 53, 65, 56, 49, 54, 68, 48, 57, 51, 69, 66, 52, 50, 67]⟩ : ByteArray), (⟨#[53, 68, 70, 54, 57, 50, 67, 65, 66, 55, 56, 49, 52, 51, 69, 48]⟩ : ByteArray), (⟨#[56, 69, 50, 53, 54, 57, 49, 67, 70, 52, 66, 48, 68, 65, 51, 55]⟩ : ByteArray), (⟨#[49, 55, 69, 68, 48, 53, 56, 51, 52, 70, 65, 54, 57, 67, 66, 50]⟩ : ByteArray)] : List ByteArray)).toArray)]) (w' := W2) (by kernel_rfl) ?_
  refine RunF.doesU (stv_u (N := 8) (cells := (strs ([(⟨#[67, 52, 54, 50, 65, 53, 66, 57, 69, 56, 68, 55, 48, 51, 70, 49]⟩ : ByteArray), (⟨#[54, 56, 50, 51, 57, 65, 53, 67, 49, 69, 52, 55, 66, 68, 48, 70]⟩ : ByteArray), (⟨#[66, 51, 53, 56, 50, 70, 65, 68, 69, 49, 55, 52, 67, 57, 54, 48]⟩ : ByteArray), (⟨#[67, 56, 50, 49, 68, 52, 70, 54, 55, 48, 65, 53, 51, 69, 57, 66]⟩ : ByteArray), (⟨#[55, 70, 53, 65, 56, 49, 54, 68, 48, 57, 51, 69, 66, 52, 50, 67]⟩ : ByteArray), (⟨#[53, 68, 70, 54, 57, 50, 67, 65, 66, 55, 56, 49, 52, 51, 69, 48]⟩ : ByteArray), (⟨#[56, 69, 50, 53, 54, 57, 49, 67, 70, 52, 66, 48, 68, 65, 51, 55]⟩ : ByteArray), (⟨#[49, 55, 69, 68, 48, 53, 56, 51, 52, 70, 65, 54, 57, 67, 66, 50]⟩ : ByteArray)] : List ByteArray)).toArray) (old := (strs (List.replicate 8 ByteArray.empty)).toArray) (ty := 70) (k2 := (pin Go.Proofs.Try.f39 [1, 0] 2)) (by kernel_rfl) (by rw [List.size_toArray]; simp only [nums_length, bools_length, strs_length]; exact rfl) (hM.block 0 rfl) (by rw [List.size_toArray]; simp only [nums_length, bools_length, strs_length]; exact List.length_replicate) (all_strs _)) ?_
  replace hM : Mem w (W2.setRow g1 (strs ([(⟨#[67, 52, 54, 50, 65, 53, 66, 57, 69, 56, 68, 55, 48, 51, 70, 49]⟩ : ByteArray), (⟨#[54, 56, 50, 51, 57, 65, 53, 67, 49, 69, 52, 55, 66, 68, 48, 70]⟩ : ByteArray), (⟨#[66, 51, 53, 56, 50, 70, 65, 68, 69, 49, 55, 52, 67, 57, 54, 48]⟩ : ByteArray), (⟨#[67, 56, 50, 49, 68, 52, 70, 54, 55, 48, 65, 53, 51, 69, 57, 66]⟩ : ByteArray), (⟨#[55, 70, 53, 65, 56, 49, 54, 68, 48, 57, 51, 69, 66, 52, 50, 67]⟩ : ByteArray), (⟨#[53, 68, 70, 54, 57, 50, 67, 65, 66, 55, 56, 49, 52, 51, 69, 48]⟩ : ByteArray), (⟨#[56, 69, 50, 53, 54, 57, 49, 67, 70, 52, 66, 48, 68, 65, 51, 55]⟩ : ByteArray), (⟨#[49, 55, 69, 68, 48, 53, 56, 51, 52, 70, 65, 54, 57, 67, 66, 50]⟩ : ByteArray)] : List ByteArray)).toArray) [⟨.pointer (some ⟨g1, 0, none⟩), 70, 0, strs ([(⟨#[67, 52, 54, 50, 65, 53, 66, 57, 69, 56, 68, 55, 48, 51, 70, 49]⟩ : ByteArray), (⟨#[54, 56, 50, 51, 57, 65, 53, 67, 49, 69, 52, 55, 66, 68, 48, 70]⟩ : ByteArray), (⟨#[66, 51, 53, 56, 50, 70, 65, 68, 69, 49, 55, 52, 67, 57, 54, 48]⟩ : ByteArray), (⟨#[67, 56, 50, 49, 68, 52, 70, 54, 55, 48, 65, 53, 51, 69, 57, 66]⟩ : ByteArray), (⟨#[55, 70, 53, 65, 56, 49, 54, 68, 48, 57, 51, 69, 66, 52, 50, 67]⟩ : ByteArray), (⟨#[53, 68, 70, 54, 57, 50, 67, 65, 66, 55, 56, 49, 52, 51, 69, 48]⟩ : ByteArray), (⟨#[56, 69, 50, 53, 54, 57, 49, 67, 70, 52, 66, 48, 68, 65, 51, 55]⟩ : ByteArray), (⟨#[49, 55, 69, 68, 48, 53, 56, 51, 52, 70, 65, 54, 57, 67, 66, 50]⟩ : ByteArray)] : List ByteArray)⟩] := Mem.setAll [] [] (hM.pick [0] rfl rfl)
  generalize W2.setRow g1 (strs ([(⟨#[67, 52, 54, 50, 65, 53, 66, 57, 69, 56, 68, 55, 48, 51, 70, 49]⟩ : ByteArray), (⟨#[54, 56, 50, 51, 57, 65, 53, 67, 49, 69, 52, 55, 66, 68, 48, 70]⟩ : ByteArray), (⟨#[66, 51, 53, 56, 50, 70, 65, 68, 69, 49, 55, 52, 67, 57, 54, 48]⟩ : ByteArray), (⟨#[67, 56, 50, 49, 68, 52, 70, 54, 55, 48, 65, 53, 51, 69, 57, 66]⟩ : ByteArray), (⟨#[55, 70, 53, 65, 56, 49, 54, 68, 48, 57, 51, 69, 66, 52, 50, 67]⟩ : ByteArray), (⟨#[53, 68, 70, 54, 57, 50, 67, 65, 66, 55, 56, 49, 52, 51, 69, 48]⟩ : ByteArray), (⟨#[56, 69, 50, 53, 54, 57, 49, 67, 70, 52, 66, 48, 68, 65, 51, 55]⟩ : ByteArray), (⟨#[49, 55, 69, 68, 48, 53, 56, 51, 52, 70, 65, 54, 57, 67, 66, 50]⟩ : ByteArray)] : List ByteArray)).toArray = W4 at hM ⊢
  refine RunF.go 1 [0] (k' := (pl Go.Proofs.Try.f39 [1, 1])) (L' := [(0, .pointer (some ⟨g1, 0, none⟩))]) (w' := W4) (by kernel_rfl) ?_
  obtain rfl := Option.some.inj h
  exact RunF.retc (t := 0) (ty := 70) (N := 8) (g := g1) (strs ([(⟨#[67, 52, 54, 50, 65, 53, 66, 57, 69, 56, 68, 55, 48, 51, 70, 49]⟩ : ByteArray), (⟨#[54, 56, 50, 51, 57, 65, 53, 67, 49, 69, 52, 55, 66, 68, 48, 70]⟩ : ByteArray), (⟨#[66, 51, 53, 56, 50, 70, 65, 68, 69, 49, 55, 52, 67, 57, 54, 48]⟩ : ByteArray), (⟨#[67, 56, 50, 49, 68, 52, 70, 54, 55, 48, 65, 53, 51, 69, 57, 66]⟩ : ByteArray), (⟨#[55, 70, 53, 65, 56, 49, 54, 68, 48, 57, 51, 69, 66, 52, 50, 67]⟩ : ByteArray), (⟨#[53, 68, 70, 54, 57, 50, 67, 65, 66, 55, 56, 49, 52, 51, 69, 48]⟩ : ByteArray), (⟨#[56, 69, 50, 53, 54, 57, 49, 67, 70, 52, 66, 48, 68, 65, 51, 55]⟩ : ByteArray), (⟨#[49, 55, 69, 68, 48, 53, 56, 51, 52, 70, 65, 54, 57, 67, 66, 50]⟩ : ByteArray)] : List ByteArray)) (fn := Go.Proofs.Try.f39) Go.Proofs.Try.func39 (by kernel_rfl) (by kernel_rfl) (by kernel_rfl) (by kernel_rfl) (by simp only [nums_length, bools_length, strs_length]; exact rfl) (hM.block 0 rfl) ⟨_, rfl, rfl, rfl, (hM.pick [] rfl rfl)⟩

/-! ### scrim/small.sign: function 40 -/
def small_sign.f (k : Nat) (a0 : Int) : Option (Int) := if (decide (a0 ≥ 65)) = true then (some (U32 ((U32 (U8 (a0 - 65))) + 10))) else (some (U32 (U8 (a0 - 48))))
set_option maxRecDepth 100000 in
theorem small_sign.calls (k : Nat) (a0 : Int) (r : Int) (w : World) (h : small_sign.f k a0 = some r) :
    Calls Go.Proofs.Try.prog 40 #[.int .u8 a0] w (Ret fun v w' => v = .int .u32 r ∧ Mem w w' []) := by
  unfold small_sign.f at h
  refine calls_of [.int .u8 a0] (fn := Go.Proofs.Try.f40) Go.Proofs.Try.func40 (by kernel_rfl) (by kernel_rfl) ?_
  have hM := Mem.refl w
  refine RunF.go 10 [0, 4] (k' := (pl Go.Proofs.Try.f40 [1, 0, 1])) (L' := [(0, .int .u8 a0), (4, .bool (decide (a0 ≥ 65)))]) (w' := w) (by kernel_rfl) ?_
  rcases two (decide (a0 ≥ 65)) with c1 | c1
  · replace h := of_true h c1
    refine RunF.know 4 (b := true) (by kernel_rfl) c1 ?_
    refine RunF.go 9 [2] (k' := (pl Go.Proofs.Try.f40 [1, 0, 1, 0, 1])) (L' := [(2, .int .u32 (U32 ((U32 (U8 (a0 - 65))) + 10)))]) (w' := w) (by kernel_rfl) ?_
    obtain rfl := Option.some.inj h
    exact RunF.ret1 2 (.int .u32 (U32 ((U32 (U8 (a0 - 65))) + 10))) (fn := Go.Proofs.Try.f40) Go.Proofs.Try.func40 (by kernel_rfl) (by kernel_rfl) (by kernel_rfl) ⟨_, rfl, rfl, (hM.pick [] rfl rfl)⟩
  · replace h := of_false h c1
    refine RunF.know 4 (b := false) (by kernel_rfl) c1 ?_
    refine RunF.go 9 [2] (k' := (pl Go.Proofs.Try.f40 [1, 1, 1])) (L' := [(2, .int .u32 (U32 (U8 (a0 - 48))))]) (w' := w) (by kernel_rfl) ?_
    obtain rfl := Option.some.inj h
    exact RunF.ret1 2 (.int .u32 (U32 (U8 (a0 - 48)))) (fn := Go.Proofs.Try.f40) Go.Proofs.Try.func40 (by kernel_rfl) (by kernel_rfl) (by kernel_rfl) ⟨_, rfl, rfl, (hM.pick [] rfl rfl)⟩

/-! ### scrim/small.G: function 21 -/
def small_G.l0 : Nat → Int → Int → (List ByteArray) → Int → Int → Option (Int)
  | 0, _, _, _, _, _ => none
  | k + 1, a0, a1, t2, x5_0, x12_0 => if (decide (x12_0 < 8)) = true then (if (decide (0 ≤ x12_0)) = true then (if (decide (x12_0 < (8 : Int))) = true then (if (decide (0 ≤ (I64 (4 * x12_0)))) = true then ((some (band .u32 (shrv .u32 (U32 (a0 + a1)) (I64 (4 * x12_0))) 15 : Int)).bind fun y7 => (if (decide (0 ≤ y7)) = true then (if (decide (y7 < ((rds t2 x12_0).size : Int))) = true then ((small_sign.f k (sb (rds t2 x12_0) y7)).bind fun t11 => (if (decide (0 ≤ (I64 (4 * x12_0)))) = true then ((some (bor .u32 x5_0 (shlv .u32 t11 (I64 (4 * x12_0))) : Int)).bind fun y13 => (small_G.l0 k a0 a1 t2 y13 (I64 (x12_0 + 1)))) else (none))) else (none)) else (none))) else (none)) else (none)) else (none)) else ((words_Rol32.f k x5_0 11).bind fun t15 => (some t15))
def small_G.f (k : Nat) (a0 : Int) (a1 : Int) : Option (Int) := (small_rows.f k).bind fun t2 => (small_G.l0 k a0 a1 t2 0 0)
set_option maxRecDepth 100000 in
theorem small_G.calls (k : Nat) (a0 : Int) (a1 : Int) (r : Int) (w : World) (h : small_G.f k a0 a1 = some r) :
    Calls Go.Proofs.Try.prog 21 #[.int .u32 a0, .int .u32 a1] w (Ret fun v w' => v = .int .u32 r ∧ Mem w w' []) := by
  unfold small_G.f at h
  refine calls_of [.int .u32 a0, .int .u32 a1] (fn := Go.Proofs.Try.f21) Go.Proofs.Try.func21 (by kernel_rfl) (by kernel_rfl) ?_
  have hM := Mem.refl w
  refine RunF.go 18 [0, 5] (k' := (pin Go.Proofs.Try.f21 [1, 1, 1, 0, 0] 0)) (L' := [(0, .int .u32 (U32 (a0 + a1))), (5, .int .u32 0)]) (w' := w) (by kernel_rfl) ?_
  obtain ⟨t2, ht2, h⟩ := Option.bind_eq_some_iff.mp h
  refine RunF.call (d := some 11) (g := 39) (args := #[]) (k2 := (pin Go.Proofs.Try.f21 [1, 1, 1, 0, 0] 1)) (by kernel_rfl) (small_rows.calls k t2 _ ht2) ?_
  rintro _ W1 ⟨rfl, hNt2_0, hM_⟩
  replace hM := hM.call hM_
  clear hM_ ht2
  refine RunF.go 4 [0, 5, 11, 12] (k' := (pl Go.Proofs.Try.f21 [1, 1, 1, 0, 1, 0, 0])) (L' := [(0, .int .u32 (U32 (a0 + a1))), (5, .int .u32 0), (11, .agg (strs t2).toArray), (12, .int .i64 0)]) (w' := W1) (by kernel_rfl) ?_
  have l0 : ∀ (k_ : Nat), k_ ≤ k → ∀ (x5_0 : Int) (x12_0 : Int) (W : World) (hM : Mem w W []) (h : small_G.l0 k_ a0 a1 t2 x5_0 x12_0 = some r), RunF Go.Proofs.Try.prog (Ret fun v w' => v = .int .u32 r ∧ Mem w w' []) 21 (pl Go.Proofs.Try.f21 [1, 1, 1, 0, 1, 0, 0]) 32 [(0, .int .u32 (U32 (a0 + a1))), (5, .int .u32 x5_0), (11, .agg (strs t2).toArray), (12, .int .i64 x12_0)] W := by
    intro k_
    induction k_ using Nat.strongRecOn with
    | _ k_ ih0 =>
      intro hk x5_0 x12_0 W hM h
      cases k_ with
      | zero => exact absurd h (by simp [small_G.l0])
      | succ k =>
        simp only [small_G.l0] at h
        replace ih0 : ∀ m, m ≤ k → _ := fun m hm => ih0 m (by omega) (by omega)
        refine RunF.go 5 [0, 5, 11, 12, 13] (k' := (pl Go.Proofs.Try.f21 [1, 1, 1, 0, 1, 0, 0, 1, 0])) (L' := [(0, .int .u32 (U32 (a0 + a1))), (5, .int .u32 x5_0), (11, .agg (strs t2).toArray), (12, .int .i64 x12_0), (13, .bool (decide (x12_0 < 8)))]) (w' := W) (by kernel_rfl) ?_
        rcases two (decide (x12_0 < 8)) with c3 | c3
        · replace h := of_true h c3
          refine RunF.know 13 (b := true) (by kernel_rfl) c3 ?_
          refine RunF.go 7 [0, 5, 11, 12, 14] (k' := (pin Go.Proofs.Try.f21 [1, 1, 1, 0, 1, 0, 0, 1, 1, 0, 0, 0] 1)) (L' := [(0, .int .u32 (U32 (a0 + a1))), (5, .int .u32 x5_0), (11, .agg (strs t2).toArray), (12, .int .i64 x12_0), (14, .int .i64 x12_0)]) (w' := W) (by kernel_rfl) ?_
          rcases two (decide (0 ≤ x12_0)) with c4 | c4
          · replace h := of_true h c4
            rcases two (decide (x12_0 < (8 : Int))) with c5 | c5
            · replace h := of_true h c5
              refine RunF.y (idxVal_y (d := some 15) (cs := (strs t2).toArray) (len := 8) (i := x12_0) (u := .string (rds t2 x12_0)) (k2 := (pin Go.Proofs.Try.f21 [1, 1, 1, 0, 1, 0, 0, 1, 1, 0, 0, 0] 2)) (by kernel_rfl) (of_decide_eq_true c4) (of_decide_eq_true c5) (by rw [List.getElem?_toArray]; exact strs_at (of_decide_eq_true c4) (by rw [show t2.length = 8 from hNt2_0]; exact (of_decide_eq_true c5)))) trivial ?_
              refine RunF.go 9 [0, 6, 11, 12, 16, 17, 18, 20] (k' := (pin Go.Proofs.Try.f21 [1, 1, 1, 0, 1, 0, 0, 1, 1, 0, 0, 1] 5)) (L' := [(0, .int .u32 (U32 (a0 + a1))), (6, .int .i64 x12_0), (11, .agg (strs t2).toArray), (12, .int .i64 x12_0), (16, .int .u32 x5_0), (17, .string (rds t2 x12_0)), (18, .int .u32 (U32 (a0 + a1))), (20, .int .i64 (I64 (4 * x12_0)))]) (w' := W) (by kernel_rfl) ?_
              rcases two (decide (0 ≤ (I64 (4 * x12_0)))) with c6 | c6
              · replace h := of_true h c6
                refine RunF.y (sh_y (d := some 21) (b := false) (kd := .u32) (x := U32 (a0 + a1)) (y := I64 (4 * x12_0)) (k2 := (pin Go.Proofs.Try.f21 [1, 1, 1, 0, 1, 0, 0, 1, 1, 0, 0, 1] 6)) (by kernel_rfl) c6) trivial ?_
                refine RunF.go 1 [0, 6, 11, 12, 16, 17, 22] (k' := (pin Go.Proofs.Try.f21 [1, 1, 1, 0, 1, 0, 0, 1, 1, 0, 0, 1] 7)) (L' := [(0, .int .u32 (U32 (a0 + a1))), (6, .int .i64 x12_0), (11, .agg (strs t2).toArray), (12, .int .i64 x12_0), (16, .int .u32 x5_0), (17, .string (rds t2 x12_0)), (22, .int .u32 (band .u32 (shrv .u32 (U32 (a0 + a1)) (I64 (4 * x12_0))) 15))]) (w' := W) (by kernel_rfl) ?_
                obtain ⟨y7, hy, h⟩ := Option.bind_eq_some_iff.mp h
                rw [show (band .u32 (shrv .u32 (U32 (a0 + a1)) (I64 (4 * x12_0))) 15) = y7 from Option.some.inj hy]
                clear hy
                rcases two (decide (0 ≤ y7)) with c8 | c8
                · replace h := of_true h c8
                  rcases two (decide (y7 < ((rds t2 x12_0).size : Int))) with c9 | c9
                  · replace h := of_true h c9
                    refine RunF.y (idxStr_y (d := some 23) (s := rds t2 x12_0) (i := y7) (k2 := (pin Go.Proofs.Try.f21 [1, 1, 1, 0, 1, 0, 0, 1, 1, 0, 0, 1] 8)) (by kernel_rfl) (of_decide_eq_true c8) (of_decide_eq_true c9)) trivial ?_
                    obtain ⟨t11, ht11, h⟩ := Option.bind_eq_some_iff.mp h
                    refine RunF.call (d := some 24) (g := 40) (args := #[.int .u8 (sb (rds t2 x12_0) y7)]) (k2 := (pin Go.Proofs.Try.f21 [1, 1, 1, 0, 1, 0, 0, 1, 1, 0, 0, 1] 9)) (by kernel_rfl) (small_sign.calls k (sb (rds t2 x12_0) y7) t11 _ ht11) ?_
                    rintro _ W10 ⟨rfl, hM_⟩
                    replace hM := hM.call hM_
                    clear hM_ ht11
                    refine RunF.go 2 [0, 11, 12, 16, 24, 26] (k' := (pin Go.Proofs.Try.f21 [1, 1, 1, 0, 1, 0, 0, 1, 1, 0, 0, 1] 11)) (L' := [(0, .int .u32 (U32 (a0 + a1))), (11, .agg (strs t2).toArray), (12, .int .i64 x12_0), (16, .int .u32 x5_0), (24, .int .u32 t11), (26, .int .i64 (I64 (4 * x12_0)))]) (w' := W10) (by kernel_rfl) ?_
                    rcases two (decide (0 ≤ (I64 (4 * x12_0)))) with c12 | c12
                    · replace h := of_true h c12
                      refine RunF.y (sh_y (d := some 27) (b := true) (kd := .u32) (x := t11) (y := I64 (4 * x12_0)) (k2 := (pin Go.Proofs.Try.f21 [1, 1, 1, 0, 1, 0, 0, 1, 1, 0, 0, 1] 12)) (by kernel_rfl) c12) trivial ?_
                      refine RunF.go 9 [0, 5, 11, 12] (k' := (pl Go.Proofs.Try.f21 [1, 1, 1, 0, 1, 0, 0])) (L' := [(0, .int .u32 (U32 (a0 + a1))), (5, .int .u32 (bor .u32 x5_0 (shlv .u32 t11 (I64 (4 * x12_0))))), (11, .agg (strs t2).toArray), (12, .int .i64 (I64 (x12_0 + 1)))]) (w' := W10) (by kernel_rfl) ?_
                      obtain ⟨y13, hy, h⟩ := Option.bind_eq_some_iff.mp h
                      rw [show (bor .u32 x5_0 (shlv .u32 t11 (I64 (4 * x12_0)))) = y13 from Option.some.inj hy]
                      clear hy
                      exact ih0 k (by omega) y13 (I64 (x12_0 + 1)) _ (hM.pick [] rfl rfl) h
                    · replace h := of_false h c12
                      cases h
                  · replace h := of_false h c9
                    cases h
                · replace h := of_false h c8
                  cases h
              · replace h := of_false h c6
                cases h
            · replace h := of_false h c5
              cases h
          · replace h := of_false h c4
            cases h
        · replace h := of_false h c3
          refine RunF.know 13 (b := false) (by kernel_rfl) c3 ?_
          refine RunF.go 5 [30] (k' := (pin Go.Proofs.Try.f21 [1, 1, 1, 1, 0] 1)) (L' := [(30, .int .u32 x5_0)]) (w' := W) (by kernel_rfl) ?_
          obtain ⟨t15, ht15, h⟩ := Option.bind_eq_some_iff.mp h
          refine RunF.call (d := some 31) (g := 41) (args := #[.int .u32 x5_0, .int .i64 11]) (k2 := (pin Go.Proofs.Try.f21 [1, 1, 1, 1, 0] 2)) (by kernel_rfl) (words_Rol32.calls k x5_0 11 t15 _ ht15) ?_
          rintro _ W14 ⟨rfl, hM_⟩
          replace hM := hM.call hM_
          clear hM_ ht15
          refine RunF.go 2 [4] (k' := (pl Go.Proofs.Try.f21 [1, 1, 1, 1, 1])) (L' := [(4, .int .u32 t15)]) (w' := W14) (by kernel_rfl) ?_
          obtain rfl := Option.some.inj h
          exact RunF.ret1 4 (.int .u32 t15) (fn := Go.Proofs.Try.f21) Go.Proofs.Try.func21 (by kernel_rfl) (by kernel_rfl) (by kernel_rfl) ⟨_, rfl, rfl, (hM.pick [] rfl rfl)⟩
  exact l0 k (Nat.le_refl _) 0 0 _ (hM.pick [] rfl rfl) h

/-! ### slices.Clone[[]uint32,uint32]: function 48 -/
def slices_Clone_uint32_uint32.f (k : Nat) (a0 : List Int) : Option (List Int) := if (decide (([] : List Int).length + a0.length ≤ 1000000000)) = true then (some (([] : List Int) ++ a0)) else (none)
set_option maxRecDepth 100000 in
theorem slices_Clone_uint32_uint32.calls (k : Nat) (Ap0 : Option Addr) (np0 cp0 : Nat) (a0 : List Int) (r : List Int) (w : World) (hr0 : Rd w (.slice Ap0 np0 cp0) (nums .u32 a0)) (h : slices_Clone_uint32_uint32.f k a0 = some r) :
    Calls Go.Proofs.Try.prog 48 #[(.slice Ap0 np0 cp0)] w (Ret fun v w' => ∃ A0' n0' c0', v = .slice A0' n0' c0' ∧ Mem w w' [⟨.slice A0' n0' c0', 43, 1, nums .u32 r⟩]) := by
  obtain rfl : a0.length = np0 := by have h_ := hr0.1; simpa [nums_length, bools_length, strs_length] using h_
  unfold slices_Clone_uint32_uint32.f at h
  refine calls_of [.slice Ap0 a0.length cp0] (fn := Go.Proofs.Try.f48) Go.Proofs.Try.func48 (by kernel_rfl) (by kernel_rfl) ?_
  have hM := Mem.refl w
  refine RunF.go 8 [0, 3] (k' := (pin Go.Proofs.Try.f48 [1, 0, 0] 1)) (L' := [(0, .slice Ap0 a0.length cp0), (3, .slice Ap0 a0.length cp0)]) (w' := w) (by kernel_rfl) ?_
  rcases (hr0.mono hM.below).isnil with ⟨rfl, hn_⟩ | ⟨a1, rfl⟩
  · obtain rfl : a0 = [] := by simpa [nums, bools, strs] using hn_
    replace h : (some ([] : List Int)) = some r := by simpa using h
    clear hn_
    refine RunF.go 7 [2] (k' := (pl Go.Proofs.Try.f48 [1, 0, 1, 0, 1])) (L' := [(2, .slice none 0 0)]) (w' := w) (by kernel_rfl) ?_
    replace hM := hM.nil 43
    obtain rfl := Option.some.inj h
    exact RunF.ret1 2 (.slice none 0 0) (fn := Go.Proofs.Try.f48) Go.Proofs.Try.func48 (by kernel_rfl) (by kernel_rfl) (by kernel_rfl) ⟨_, rfl, none, 0, 0, rfl, (hM.pick [0] rfl rfl)⟩
  · refine RunF.go 6 [0] (k' := (pin Go.Proofs.Try.f48 [1, 1, 0] 0)) (L' := [(0, .slice (some a1) a0.length cp0)]) (w' := w) (by kernel_rfl) ?_
    refine RunF.new 43 1 0 (nums .u32 []) (d := some 5) (k2 := (pin Go.Proofs.Try.f48 [1, 1, 0] 1)) hM (by simp [nums, bools, strs]) (by kernel_rfl) (by kernel_rfl) ?_
    replace hM := hM
    intro g2 W3 hM
    refine RunF.go 1 [5, 6] (k' := (pin Go.Proofs.Try.f48 [1, 1, 0] 2)) (L' := [(5, .slice (some ⟨g2, 0, none⟩) 0 0), (6, .slice (some a1) a0.length cp0)]) (w' := W3) (by kernel_rfl) ?_
    rcases two (decide (([] : List Int).length + a0.length ≤ 1000000000)) with c9 | c9
    · replace h := of_true h c9
      have h_ := of_decide_eq_true c9
      obtain ⟨A5, n6, c7, W8, hD, hM', hS_⟩ := app_does (P := Go.Proofs.Try.prog) (n := 8) (k := (pin Go.Proofs.Try.f48 [1, 1, 0] 2)) (L := [(5, .slice (some ⟨g2, 0, none⟩) 0 0), (6, .slice (some a1) a0.length cp0)]) (d := some 7) (e := 43) (A := (some ⟨g2, 0, none⟩)) (m := 0) (c := 0) (A2 := (some a1)) (m2 := a0.length) (c2 := cp0) (cs := nums .u32 ([] : List Int)) (ys := nums .u32 a0) (k2 := (pin Go.Proofs.Try.f48 [1, 1, 0] 3)) [] [] (by kernel_rfl) (hM.pick [0] rfl rfl) (hr0.mono hM.below) (one_nums _ _) (by omega)
      rw [nums_append] at hM'
      replace hM := hM'; clear h_ hM'
      obtain rfl : (([] : List Int) ++ a0).length = n6 := by have h_ := (hM.rd 0 rfl).1; simpa only [nums_length, bools_length, strs_length] using h_
      refine RunF.does hD ?_
      clear hD hS_
      refine RunF.go 2 [2] (k' := (pl Go.Proofs.Try.f48 [1, 1, 1])) (L' := [(2, .slice A5 ((([] : List Int) ++ a0).length) c7)]) (w' := W8) (by kernel_rfl) ?_
      obtain rfl := Option.some.inj h
      exact RunF.ret1 2 (.slice A5 ((([] : List Int) ++ a0).length) c7) (fn := Go.Proofs.Try.f48) Go.Proofs.Try.func48 (by kernel_rfl) (by kernel_rfl) (by kernel_rfl) ⟨_, rfl, A5, (([] : List Int) ++ a0).length, c7, rfl, (hM.pick [0] rfl rfl)⟩
    · replace h := of_false h c9
      cases h

/-! ### slices.Reverse[[]uint32,uint32]: function 49 -/
def slices_Reverse_uint32_uint32.l0 : Nat → (List Int) → (List Int) → Int → Int → Option (List Int)
  | 0, _, _, _, _ => none
  | k + 1, a0, x0_0, x2_0, x3_0 => if (decide (x2_0 < x3_0)) = true then (if (decide (0 ≤ x3_0)) = true then (if (decide (x3_0 < (a0.length : Int))) = true then (if (decide (0 ≤ x2_0)) = true then (if (decide (x2_0 < (a0.length : Int))) = true then (if (decide (0 ≤ x2_0)) = true then (if (decide (x2_0 < (a0.length : Int))) = true then (if (decide (0 ≤ x3_0)) = true then (if (decide (x3_0 < (a0.length : Int))) = true then (slices_Reverse_uint32_uint32.l0 k a0 ((x0_0.set (x2_0 : Int).toNat (rd x0_0 x3_0)).set (x3_0 : Int).toNat (rd x0_0 x2_0)) (I64 (x2_0 + 1)) (I64 (x3_0 - 1))) else (none)) else (none)) else (none)) else (none)) else (none)) else (none)) else (none)) else (none)) else (some x0_0)
def slices_Reverse_uint32_uint32.f (k : Nat) (a0 : List Int) : Option (List Int) := slices_Reverse_uint32_uint32.l0 k a0 a0 0 (I64 ((a0.length : Int) - 1))
set_option maxRecDepth 100000 in
theorem slices_Reverse_uint32_uint32.calls (k : Nat) (Ap0 : Option Addr) (np0 cp0 : Nat) (a0 : List Int) (r : List Int) (w : World) (w0 : World) (FT : List Ent) (hM0 : Mem w0 w (Gs [⟨.slice Ap0 np0 cp0, 43, 1, nums .u32 a0⟩] [FT])) (h : slices_Reverse_uint32_uint32.f k a0 = some r) :
    Calls Go.Proofs.Try.prog 49 #[(.slice Ap0 np0 cp0)] w (Ret fun v w' => v = .tuple #[] ∧ Mem w0 w' (Gs [⟨.slice Ap0 a0.length cp0, 43, 1, nums .u32 r⟩] [FT])) := by
  obtain rfl : a0.length = np0 := by have h_ := (hM0.rd 0 rfl).1; simpa [nums_length, bools_length, strs_length] using h_
  unfold slices_Reverse_uint32_uint32.f at h
  refine calls_of [.slice Ap0 a0.length cp0] (fn := Go.Proofs.Try.f49) Go.Proofs.Try.func49 (by kernel_rfl) (by kernel_rfl) ?_
  have hM := hM0
  refine RunF.go 10 [0, 2, 3] (k' := (pl Go.Proofs.Try.f49 [1, 0, 0])) (L' := [(0, .slice Ap0 a0.length cp0), (2, .int .i64 0), (3, .int .i64 (I64 ((a0.length : Int) - 1)))]) (w' := w) (by kernel_rfl) ?_
  have l0 : ∀ (k_ : Nat), k_ ≤ k → ∀ (x0_0 : List Int) (x2_0 : Int) (x3_0 : Int) (W : World) (hM : Mem w0 W (Gs [⟨.slice Ap0 a0.length cp0, 43, 1, nums .u32 x0_0⟩] [FT])) (h : slices_Reverse_uint32_uint32.l0 k_ a0 x0_0 x2_0 x3_0 = some r), RunF Go.Proofs.Try.prog (Ret fun v w' => v = .tuple #[] ∧ Mem w0 w' (Gs [⟨.slice Ap0 a0.length cp0, 43, 1, nums .u32 r⟩] [FT])) 49 (pl Go.Proofs.Try.f49 [1, 0, 0]) 28 [(0, .slice Ap0 a0.length cp0), (2, .int .i64 x2_0), (3, .int .i64 x3_0)] W := by
    intro k_
    induction k_ using Nat.strongRecOn with
    | _ k_ ih0 =>
      intro hk x0_0 x2_0 x3_0 W hM h
      cases k_ with
      | zero => exact absurd h (by simp [slices_Reverse_uint32_uint32.l0])
      | succ k =>
        simp only [slices_Reverse_uint32_uint32.l0] at h
        replace ih0 : ∀ m, m ≤ k → _ := fun m hm => ih0 m (by omega) (by omega)
        refine RunF.go 7 [0, 2, 3, 9] (k' := (pl Go.Proofs.Try.f49 [1, 0, 0, 0, 1])) (L' := [(0, .slice Ap0 a0.length cp0), (2, .int .i64 x2_0), (3, .int .i64 x3_0), (9, .bool (decide (x2_0 < x3_0)))]) (w' := W) (by kernel_rfl) ?_
        rcases two (decide (x2_0 < x3_0)) with c2 | c2
        · replace h := of_true h c2
          refine RunF.know 9 (b := true) (by kernel_rfl) c2 ?_
          refine RunF.go 4 [0, 2, 3] (k' := (pl Go.Proofs.Try.f49 [1, 0, 0, 1, 0, 0])) (L' := [(0, .slice Ap0 a0.length cp0), (2, .int .i64 x2_0), (3, .int .i64 x3_0)]) (w' := W) (by kernel_rfl) ?_
          refine RunF.draw (Still ({ W with drawn := W.drawn + 1 } : World) [.slice Ap0 a0.length cp0]) (by kernel_rfl) (by kernel_rfl) ?_
          have hMd4 := hM.drew
          have hS := Still.refl ({ W with drawn := W.drawn + 1 } : World) [.slice Ap0 a0.length cp0]
          generalize ({ W with drawn := W.drawn + 1 } : World) = W3 at hMd4 hS ⊢
          replace hM := hMd4
          refine RunAny.y 0 (by kernel_rfl) (yl_pure (d := some 14) (v := .slice Ap0 a0.length cp0) (k2 := [.inRegion (opsOf (pl Go.Proofs.Try.f49 [1, 0, 0, 1, 0, 0])) []]) fun w => by kernel_rfl) (fun _ _ => trivial) hS ?_
          refine RunAny.y 1 (by kernel_rfl) (yl_pure (d := some 15) (v := .int .i64 x2_0) (k2 := [.inRegion (opsOf (pl Go.Proofs.Try.f49 [1, 0, 0, 1, 0, 0])) []]) fun w => by kernel_rfl) (fun _ _ => trivial) hS ?_
          refine RunAny.y 2 (by kernel_rfl) (yl_pure (d := some 16) (v := .slice Ap0 a0.length cp0) (k2 := [.inRegion (opsOf (pl Go.Proofs.Try.f49 [1, 0, 0, 1, 0, 0])) []]) fun w => by kernel_rfl) (fun _ _ => trivial) hS ?_
          refine RunAny.y 3 (by kernel_rfl) (yl_pure (d := some 17) (v := .int .i64 x3_0) (k2 := [.inRegion (opsOf (pl Go.Proofs.Try.f49 [1, 0, 0, 1, 0, 0])) []]) fun w => by kernel_rfl) (fun _ _ => trivial) hS ?_
          refine RunAny.y 4 (by kernel_rfl) (yl_pure (d := some 18) (v := .slice Ap0 a0.length cp0) (k2 := [.inRegion (opsOf (pl Go.Proofs.Try.f49 [1, 0, 0, 1, 0, 0])) []]) fun w => by kernel_rfl) (fun _ _ => trivial) hS ?_
          refine RunAny.y 5 (by kernel_rfl) (yl_pure (d := some 19) (v := .int .i64 x3_0) (k2 := [.inRegion (opsOf (pl Go.Proofs.Try.f49 [1, 0, 0, 1, 0, 0])) []]) fun w => by kernel_rfl) (fun _ _ => trivial) hS ?_
          rcases two (decide (0 ≤ x3_0)) with c6 | c6
          · replace h := of_true h c6
            rcases two (decide (x3_0 < (a0.length : Int))) with c7 | c7
            · replace h := of_true h c7
              obtain ⟨q5, hAq5, hcq5, hfq5, hlq5⟩ := hM.num_at 0 rfl (i := x3_0) (of_decide_eq_true c6) (by have h_ := of_decide_eq_true c7; omega)
              refine RunAny.y 6 (by kernel_rfl) (idx_own (d := some 20) (A := Ap0) (m := a0.length) (i := x3_0) (k2 := [.inRegion (opsOf (pl Go.Proofs.Try.f49 [1, 0, 0, 1, 0, 0])) []]) (by kernel_rfl) (of_decide_eq_true c6) (by have h_ := of_decide_eq_true c7; omega) hAq5) (fun _ _ => trivial) hS ?_
              refine RunAny.y 8 (by kernel_rfl) (yl_pure (d := some 22) (v := .slice Ap0 a0.length cp0) (k2 := [.inRegion (opsOf (pl Go.Proofs.Try.f49 [1, 0, 0, 1, 0, 0])) []]) fun w => by kernel_rfl) (fun _ _ => trivial) hS ?_
              refine RunAny.y 9 (by kernel_rfl) (yl_pure (d := some 23) (v := .int .i64 x2_0) (k2 := [.inRegion (opsOf (pl Go.Proofs.Try.f49 [1, 0, 0, 1, 0, 0])) []]) fun w => by kernel_rfl) (fun _ _ => trivial) hS ?_
              rcases two (decide (0 ≤ x2_0)) with c9 | c9
              · replace h := of_true h c9
                rcases two (decide (x2_0 < (a0.length : Int))) with c10 | c10
                · replace h := of_true h c10
                  obtain ⟨q8, hAq8, hcq8, hfq8, hlq8⟩ := hM.num_at 0 rfl (i := x2_0) (of_decide_eq_true c9) (by have h_ := of_decide_eq_true c10; omega)
                  refine RunAny.y 10 (by kernel_rfl) (idx_own (d := some 24) (A := Ap0) (m := a0.length) (i := x2_0) (k2 := [.inRegion (opsOf (pl Go.Proofs.Try.f49 [1, 0, 0, 1, 0, 0])) []]) (by kernel_rfl) (of_decide_eq_true c9) (by have h_ := of_decide_eq_true c10; omega) hAq8) (fun _ _ => trivial) hS ?_
                  have J11 : ∀ (W12 : World) (hS : Still W12 [.slice Ap0 a0.length cp0] W12) (hM : Mem w0 W12 (Gs [⟨.slice Ap0 a0.length cp0, 43, 1, nums .u32 x0_0⟩] [FT])) , RunAny Go.Proofs.Try.prog (Ret fun v w' => v = .tuple #[] ∧ Mem w0 w' (Gs [⟨.slice Ap0 a0.length cp0, 43, 1, nums .u32 r⟩] [FT])) 49 (rest1 (pl Go.Proofs.Try.f49 [1, 0, 0, 1, 0, 0])) 28 (opsOf (pl Go.Proofs.Try.f49 [1, 0, 0, 1, 0, 0])) (Still W12 [.slice Ap0 a0.length cp0]) 4 [0, 1, 2, 3, 4, 5, 6, 8, 9, 10, 7, 11] [(0, .slice Ap0 a0.length cp0), (2, .int .i64 x2_0), (3, .int .i64 x3_0), (14, .slice Ap0 a0.length cp0), (15, .int .i64 x2_0), (16, .slice Ap0 a0.length cp0), (17, .int .i64 x3_0), (18, .slice Ap0 a0.length cp0), (19, .int .i64 x3_0), (20, .pointer (some ⟨q5, (x3_0 : Int).toNat, none⟩)), (21, .int .u32 (rd x0_0 x3_0)), (22, .slice Ap0 a0.length cp0), (23, .int .i64 x2_0), (24, .pointer (some ⟨q8, (x2_0 : Int).toNat, none⟩)), (25, .int .u32 (rd x0_0 x2_0))] W12 := by
                    intro W12 hS hM 
                    rcases two (decide (0 ≤ x2_0)) with c14 | c14
                    · replace h := of_true h c14
                      rcases two (decide (x2_0 < (a0.length : Int))) with c15 | c15
                      · replace h := of_true h c15
                        obtain ⟨q13, hAq13, hcq13, hfq13, hlq13⟩ := hM.num_at 0 rfl (i := x2_0) (of_decide_eq_true c14) (by have h_ := of_decide_eq_true c15; omega)
                        refine RunAny.y 12 (by kernel_rfl) (idx_own (d := some 26) (A := Ap0) (m := a0.length) (i := x2_0) (k2 := [.inRegion (opsOf (pl Go.Proofs.Try.f49 [1, 0, 0, 1, 0, 0])) []]) (by kernel_rfl) (of_decide_eq_true c14) (by have h_ := of_decide_eq_true c15; omega) hAq13) (fun _ _ => trivial) hS ?_
                        obtain ⟨g_, hA_, hc_, hf_, hl_⟩ := hM.num_at 0 rfl (i := x2_0) (of_decide_eq_true c14) (by have h_ := of_decide_eq_true c15; omega)
                        obtain rfl : q13 = g_ := by rw [hAq13] at hA_; injection hA_ with hA_; injection hA_
                        have hS' := hS.set (v := .slice Ap0 a0.length cp0) (g := q13) (i := (x2_0 : Int).toNat) (by simp) (by rw [hAq13]; rfl) (.int .u32 (rd x0_0 x3_0))
                        refine RunAny.doesU 13 (by kernel_rfl) (st_u (p := (⟨q13, (x2_0 : Int).toNat, none⟩ : Addr)) (v := .int .u32 (rd x0_0 x3_0)) (k2 := [.inRegion (opsOf (pl Go.Proofs.Try.f49 [1, 0, 0, 1, 0, 0])) []]) (by kernel_rfl) hc_ hf_) hS' ?_
                        replace hM : Mem w0 (W12.setCell (⟨q13, (x2_0 : Int).toNat, none⟩ : Addr) (.int .u32 (rd x0_0 x3_0))) (Gs [⟨.slice Ap0 a0.length cp0, 43, 1, nums .u32 (x0_0.set (x2_0 : Int).toNat (rd x0_0 x3_0))⟩] [FT]) := Mem.put_num [] (Gs [] [FT]) (hM.as rfl) hAq13 _ hl_ _
                        generalize W12.setCell (⟨q13, (x2_0 : Int).toNat, none⟩ : Addr) (.int .u32 (rd x0_0 x3_0)) = W16 at hM hS' ⊢
                        clear hc_ hf_ hl_ hA_ hcq13
                        replace hS := hS'
                        refine RunAny.rebase hS ?_
                        replace hS := Still.refl W16 [.slice Ap0 a0.length cp0]
                        rcases two (decide (0 ≤ x3_0)) with c18 | c18
                        · replace h := of_true h c18
                          rcases two (decide (x3_0 < (a0.length : Int))) with c19 | c19
                          · replace h := of_true h c19
                            obtain ⟨q17, hAq17, hcq17, hfq17, hlq17⟩ := hM.num_at 0 rfl (i := x3_0) (of_decide_eq_true c18) (by have h_ := of_decide_eq_true c19; omega)
                            refine RunAny.y 14 (by kernel_rfl) (idx_own (d := some 27) (A := Ap0) (m := a0.length) (i := x3_0) (k2 := [.inRegion (opsOf (pl Go.Proofs.Try.f49 [1, 0, 0, 1, 0, 0])) []]) (by kernel_rfl) (of_decide_eq_true c18) (by have h_ := of_decide_eq_true c19; omega) hAq17) (fun _ _ => trivial) hS ?_
                            obtain ⟨g_, hA_, hc_, hf_, hl_⟩ := hM.num_at 0 rfl (i := x3_0) (of_decide_eq_true c18) (by have h_ := of_decide_eq_true c19; omega)
                            obtain rfl : q17 = g_ := by rw [hAq17] at hA_; injection hA_ with hA_; injection hA_
                            have hS' := hS.set (v := .slice Ap0 a0.length cp0) (g := q17) (i := (x3_0 : Int).toNat) (by simp) (by rw [hAq17]; rfl) (.int .u32 (rd x0_0 x2_0))
                            refine RunAny.doesU 15 (by kernel_rfl) (st_u (p := (⟨q17, (x3_0 : Int).toNat, none⟩ : Addr)) (v := .int .u32 (rd x0_0 x2_0)) (k2 := [.inRegion (opsOf (pl Go.Proofs.Try.f49 [1, 0, 0, 1, 0, 0])) []]) (by kernel_rfl) hc_ hf_) hS' ?_
                            replace hM : Mem w0 (W16.setCell (⟨q17, (x3_0 : Int).toNat, none⟩ : Addr) (.int .u32 (rd x0_0 x2_0))) (Gs [⟨.slice Ap0 a0.length cp0, 43, 1, nums .u32 ((x0_0.set (x2_0 : Int).toNat (rd x0_0 x3_0)).set (x3_0 : Int).toNat (rd x0_0 x2_0))⟩] [FT]) := Mem.put_num [] (Gs [] [FT]) (hM.as rfl) hAq17 _ hl_ _
                            generalize W16.setCell (⟨q17, (x3_0 : Int).toNat, none⟩ : Addr) (.int .u32 (rd x0_0 x2_0)) = W20 at hM hS' ⊢
                            clear hc_ hf_ hl_ hA_ hcq17
                            replace hS := hS'
                            refine RunAny.rebase hS ?_
                            replace hS := Still.refl W20 [.slice Ap0 a0.length cp0]
                            refine RunAny.done (by kernel_rfl) ?_
                            clear hS
                            refine RunF.go 10 [0, 2, 3] (k' := (pl Go.Proofs.Try.f49 [1, 0, 0])) (L' := [(0, .slice Ap0 a0.length cp0), (2, .int .i64 (I64 (x2_0 + 1))), (3, .int .i64 (I64 (x3_0 - 1)))]) (w' := W20) (by kernel_rfl) ?_
                            exact ih0 k (by omega) ((x0_0.set (x2_0 : Int).toNat (rd x0_0 x3_0)).set (x3_0 : Int).toNat (rd x0_0 x2_0)) (I64 (x2_0 + 1)) (I64 (x3_0 - 1)) _ (Mem.pickF (hM.as (H' := Gs [⟨.slice Ap0 a0.length cp0, 43, 1, nums .u32 ((x0_0.set (x2_0 : Int).toNat (rd x0_0 x3_0)).set (x3_0 : Int).toNat (rd x0_0 x2_0))⟩] [FT]) rfl) [0, 1] rfl rfl rfl) h
                          · replace h := of_false h c19
                            cases h
                        · replace h := of_false h c18
                          cases h
                      · replace h := of_false h c15
                        cases h
                    · replace h := of_false h c14
                      cases h
                  have J21 : ∀ (W22 : World) (hS : Still W22 [.slice Ap0 a0.length cp0] W22) (hM : Mem w0 W22 (Gs [⟨.slice Ap0 a0.length cp0, 43, 1, nums .u32 x0_0⟩] [FT])) (hcq5 : W22.cell? ⟨q5, (x3_0 : Int).toNat, none⟩ = some (.int .u32 (rd x0_0 x3_0))), RunAny Go.Proofs.Try.prog (Ret fun v w' => v = .tuple #[] ∧ Mem w0 w' (Gs [⟨.slice Ap0 a0.length cp0, 43, 1, nums .u32 r⟩] [FT])) 49 (rest1 (pl Go.Proofs.Try.f49 [1, 0, 0, 1, 0, 0])) 28 (opsOf (pl Go.Proofs.Try.f49 [1, 0, 0, 1, 0, 0])) (Still W22 [.slice Ap0 a0.length cp0]) 5 [0, 1, 2, 3, 4, 5, 6, 8, 9, 10, 11] [(0, .slice Ap0 a0.length cp0), (2, .int .i64 x2_0), (3, .int .i64 x3_0), (14, .slice Ap0 a0.length cp0), (15, .int .i64 x2_0), (16, .slice Ap0 a0.length cp0), (17, .int .i64 x3_0), (18, .slice Ap0 a0.length cp0), (19, .int .i64 x3_0), (20, .pointer (some ⟨q5, (x3_0 : Int).toNat, none⟩)), (22, .slice Ap0 a0.length cp0), (23, .int .i64 x2_0), (24, .pointer (some ⟨q8, (x2_0 : Int).toNat, none⟩)), (25, .int .u32 (rd x0_0 x2_0))] W22 := by
                    intro W22 hS hM hcq5
                    refine RunAny.does 7 (by kernel_rfl) ((ld_y (d := some 21) (p := ⟨q5, (x3_0 : Int).toNat, none⟩) (k2 := [.inRegion (opsOf (pl Go.Proofs.Try.f49 [1, 0, 0, 1, 0, 0])) []]) (.int .u32 (rd x0_0 x3_0)) (by kernel_rfl)).does hcq5) hS ?_
                    exact RunAny.same [0, 1, 2, 3, 4, 5, 6, 8, 9, 10, 7, 11] (by kernel_rfl) [0, 2, 3, 14, 15, 16, 17, 18, 19, 20, 21, 22, 23, 24, 25] (by kernel_rfl) (J11 _ hS (Mem.pickF (hM.as (H' := (Gs [⟨.slice Ap0 a0.length cp0, 43, 1, nums .u32 x0_0⟩] [FT])) rfl) [0, 1] rfl rfl rfl))
                  have J23 : ∀ (W24 : World) (hS : Still W24 [.slice Ap0 a0.length cp0] W24) (hM : Mem w0 W24 (Gs [⟨.slice Ap0 a0.length cp0, 43, 1, nums .u32 x0_0⟩] [FT])) (hcq8 : W24.cell? ⟨q8, (x2_0 : Int).toNat, none⟩ = some (.int .u32 (rd x0_0 x2_0))), RunAny Go.Proofs.Try.prog (Ret fun v w' => v = .tuple #[] ∧ Mem w0 w' (Gs [⟨.slice Ap0 a0.length cp0, 43, 1, nums .u32 r⟩] [FT])) 49 (rest1 (pl Go.Proofs.Try.f49 [1, 0, 0, 1, 0, 0])) 28 (opsOf (pl Go.Proofs.Try.f49 [1, 0, 0, 1, 0, 0])) (Still W24 [.slice Ap0 a0.length cp0]) 5 [0, 1, 2, 3, 4, 5, 6, 8, 9, 10, 7] [(0, .slice Ap0 a0.length cp0), (2, .int .i64 x2_0), (3, .int .i64 x3_0), (14, .slice Ap0 a0.length cp0), (15, .int .i64 x2_0), (16, .slice Ap0 a0.length cp0), (17, .int .i64 x3_0), (18, .slice Ap0 a0.length cp0), (19, .int .i64 x3_0), (20, .pointer (some ⟨q5, (x3_0 : Int).toNat, none⟩)), (21, .int .u32 (rd x0_0 x3_0)), (22, .slice Ap0 a0.length cp0), (23, .int .i64 x2_0), (24, .pointer (some ⟨q8, (x2_0 : Int).toNat, none⟩))] W24 := by
                    intro W24 hS hM hcq8
                    refine RunAny.does 11 (by kernel_rfl) ((ld_y (d := some 25) (p := ⟨q8, (x2_0 : Int).toNat, none⟩) (k2 := [.inRegion (opsOf (pl Go.Proofs.Try.f49 [1, 0, 0, 1, 0, 0])) []]) (.int .u32 (rd x0_0 x2_0)) (by kernel_rfl)).does hcq8) hS ?_
                    exact RunAny.same [0, 1, 2, 3, 4, 5, 6, 8, 9, 10, 7, 11] (by kernel_rfl) [0, 2, 3, 14, 15, 16, 17, 18, 19, 20, 21, 22, 23, 24, 25] (by kernel_rfl) (J11 _ hS (Mem.pickF (hM.as (H' := (Gs [⟨.slice Ap0 a0.length cp0, 43, 1, nums .u32 x0_0⟩] [FT])) rfl) [0, 1] rfl rfl rfl))
                  refine RunAny.all [7, 11] (by kernel_rfl) (by simp) ?_
                  refine ⟨?_, ?_, trivial⟩
                  · refine Stepped.does 7 ((ld_y (d := some 21) (p := ⟨q5, (x3_0 : Int).toNat, none⟩) (k2 := [.inRegion (opsOf (pl Go.Proofs.Try.f49 [1, 0, 0, 1, 0, 0])) []]) (.int .u32 (rd x0_0 x3_0)) (by kernel_rfl)).does hcq5) hS ?_
                    exact RunAny.same [0, 1, 2, 3, 4, 5, 6, 8, 9, 10, 7] (by kernel_rfl) [0, 2, 3, 14, 15, 16, 17, 18, 19, 20, 21, 22, 23, 24] (by kernel_rfl) (J23 _ hS (Mem.pickF (hM.as (H' := (Gs [⟨.slice Ap0 a0.length cp0, 43, 1, nums .u32 x0_0⟩] [FT])) rfl) [0, 1] rfl rfl rfl) hcq8)
                  · refine Stepped.does 11 ((ld_y (d := some 25) (p := ⟨q8, (x2_0 : Int).toNat, none⟩) (k2 := [.inRegion (opsOf (pl Go.Proofs.Try.f49 [1, 0, 0, 1, 0, 0])) []]) (.int .u32 (rd x0_0 x2_0)) (by kernel_rfl)).does hcq8) hS ?_
                    exact RunAny.same [0, 1, 2, 3, 4, 5, 6, 8, 9, 10, 11] (by kernel_rfl) [0, 2, 3, 14, 15, 16, 17, 18, 19, 20, 22, 23, 24, 25] (by kernel_rfl) (J21 _ hS (Mem.pickF (hM.as (H' := (Gs [⟨.slice Ap0 a0.length cp0, 43, 1, nums .u32 x0_0⟩] [FT])) rfl) [0, 1] rfl rfl rfl) hcq5)
                · replace h := of_false h c10
                  cases h
              · replace h := of_false h c9
                cases h
            · replace h := of_false h c7
              cases h
          · replace h := of_false h c6
            cases h
        · replace h := of_false h c2
          refine RunF.know 9 (b := false) (by kernel_rfl) c2 ?_
          refine RunF.go 2 [] (k' := ([] : List Item)) (L' := []) (w' := W) (by kernel_rfl) ?_
          obtain rfl := Option.some.inj h
          exact RunF.ret0   (fn := Go.Proofs.Try.f49) Go.Proofs.Try.func49 (by kernel_rfl) (by kernel_rfl)  ⟨_, rfl, rfl, (Mem.pickF (hM.as (H' := Gs [⟨.slice Ap0 a0.length cp0, 43, 1, nums .u32 x0_0⟩] [FT]) rfl) [0, 1] rfl rfl rfl)⟩
  exact l0 k (Nat.le_refl _) a0 0 (I64 ((a0.length : Int) - 1)) _ (Mem.pickF (hM.as (H' := Gs [⟨.slice Ap0 a0.length cp0, 43, 1, nums .u32 a0⟩] [FT]) rfl) [0, 1] rfl rfl rfl) h

/-! ### slices.Grow[[]uint32,uint32]: function 60 -/
def slices_Grow_uint32_uint32.f (k : Nat) (a1 : Int) : Option (List Int) := if (decide (a1 < 0)) = true then (none) else (if (decide ((I64 (a1 - (I64 (0 - 0)))) > 0)) = true then (if (decide (0 < (I64 (a1 - (I64 (0 - 0)))))) = true then (if (decide ((I64 (a1 - (I64 (0 - 0)))) ≤ 1000000000)) = true then (some ((List.replicate (I64 (a1 - (I64 (0 - 0))) : Int).toNat (0 : Int)).take (0))) else (none)) else (none)) else (some ([] : List Int)))
set_option maxRecDepth 100000 in
theorem slices_Grow_uint32_uint32.calls (k : Nat) (a1 : Int) (r : List Int) (w : World) (h : slices_Grow_uint32_uint32.f k a1 = some r) :
    Calls Go.Proofs.Try.prog 60 #[.slice none 0 0, .int .i64 a1] w (Ret fun v w' => ∃ A0' n0' c0', v = .slice A0' n0' c0' ∧ Mem w w' [⟨.slice A0' n0' c0', 43, 1, nums .u32 r⟩]) := by
  unfold slices_Grow_uint32_uint32.f at h
  refine calls_of [.slice none 0 0, .int .i64 a1] (fn := Go.Proofs.Try.f60) Go.Proofs.Try.func60 (by kernel_rfl) (by kernel_rfl) ?_
  have hM := Mem.refl w
  refine RunF.go 10 [0, 1, 6] (k' := (pl Go.Proofs.Try.f60 [1, 0, 1])) (L' := [(0, .slice none 0 0), (1, .int .i64 a1), (6, .bool (decide (a1 < 0)))]) (w' := w) (by kernel_rfl) ?_
  rcases two (decide (a1 < 0)) with c1 | c1
  · replace h := of_true h c1
    refine RunF.know 6 (b := true) (by kernel_rfl) c1 ?_
    refine RunF.go 2 [0, 1] (k' := (pin Go.Proofs.Try.f60 [1, 0, 1, 0] 0)) (L' := [(0, .slice none 0 0), (1, .int .i64 a1)]) (w' := w) (by kernel_rfl) ?_
    cases h
  · replace h := of_false h c1
    refine RunF.know 6 (b := false) (by kernel_rfl) c1 ?_
    refine RunF.go 19 [0, 1, 16] (k' := (pl Go.Proofs.Try.f60 [1, 1, 0, 1, 1])) (L' := [(0, .slice none 0 0), (1, .int .i64 (I64 (a1 - (I64 (0 - 0))))), (16, .bool (decide ((I64 (a1 - (I64 (0 - 0)))) > 0)))]) (w' := w) (by kernel_rfl) ?_
    rcases two (decide ((I64 (a1 - (I64 (0 - 0)))) > 0)) with c2 | c2
    · replace h := of_true h c2
      refine RunF.know 16 (b := true) (by kernel_rfl) c2 ?_
      refine RunF.go 5 [0, 1, 17, 19] (k' := (pin Go.Proofs.Try.f60 [1, 1, 0, 1, 1, 0] 3)) (L' := [(0, .slice none 0 0), (1, .int .i64 (I64 (a1 - (I64 (0 - 0))))), (17, .slice none 0 0), (19, .int .i64 0)]) (w' := w) (by kernel_rfl) ?_
      refine RunF.y (reslice_y (d := some 20) (A := none) (m := 0) (c := 0) (h := 0) (k2 := (pin Go.Proofs.Try.f60 [1, 1, 0, 1, 1, 0] 4)) (by kernel_rfl) (by decide) (by decide) (by decide)) trivial ?_
      refine RunF.go 1 [0, 20, 21] (k' := (pin Go.Proofs.Try.f60 [1, 1, 0, 1, 1, 0] 5)) (L' := [(0, .slice none 0 0), (20, .slice none 0 0), (21, .int .i64 (I64 (a1 - (I64 (0 - 0)))))]) (w' := w) (by kernel_rfl) ?_
      rcases two (decide (0 < (I64 (a1 - (I64 (0 - 0)))))) with c6 | c6
      · replace h := of_true h c6
        rcases two (decide ((I64 (a1 - (I64 (0 - 0)))) ≤ 1000000000)) with c7 | c7
        · replace h := of_true h c7
          obtain ⟨g3, c4, W5, hD, hM'⟩ := apz_does (P := Go.Proofs.Try.prog) (n := 27) (k := (pin Go.Proofs.Try.f60 [1, 1, 0, 1, 1, 0] 5)) (L := [(0, .slice none 0 0), (20, .slice none 0 0), (21, .int .i64 (I64 (a1 - (I64 (0 - 0)))))]) (d := some 22) (e := 43) (z := .int .u32 0) (i := I64 (a1 - (I64 (0 - 0)))) (k2 := (pin Go.Proofs.Try.f60 [1, 1, 0, 1, 1, 0] 6)) (by kernel_rfl) (of_decide_eq_true c6) (of_decide_eq_true c7) hM
          rw [rep_nums] at hM'
          refine RunF.does hD ?_
          replace hM := hM'; clear hD hM'
          refine RunF.go 2 [22, 24] (k' := (pin Go.Proofs.Try.f60 [1, 1, 0, 1, 1, 0] 8)) (L' := [(22, .slice (some ⟨g3, 0, none⟩) ((I64 (a1 - (I64 (0 - 0))) : Int).toNat) c4), (24, .int .i64 0)]) (w' := W5) (by kernel_rfl) ?_
          refine RunF.y (reslice_y (d := some 25) (A := (some ⟨g3, 0, none⟩)) (m := (I64 (a1 - (I64 (0 - 0))) : Int).toNat) (c := c4) (h := 0) (k2 := (pin Go.Proofs.Try.f60 [1, 1, 0, 1, 1, 0] 9)) (by kernel_rfl) (by omega) (by omega) (own_le (hM.ok _ (List.mem_of_getElem? (i := 0) rfl)).1).2.1) trivial ?_
          replace hM := Mem.reslice [] [] (ty := 43) (A := (some ⟨g3, 0, none⟩)) (m := (I64 (a1 - (I64 (0 - 0))) : Int).toNat) (c := c4) (cs := nums .u32 (List.replicate (I64 (a1 - (I64 (0 - 0))) : Int).toNat (0 : Int))) (hM.pick [0] rfl rfl) (0 : Int).toNat (by have h_ : 0 ≤ ((I64 (a1 - (I64 (0 - 0))) : Int).toNat : Int) := (by omega); omega)
          rw [nums_take] at hM
          refine RunF.go 7 [4] (k' := (pl Go.Proofs.Try.f60 [1, 1, 1, 1])) (L' := [(4, .slice (some ⟨g3, 0, none⟩) 0 c4)]) (w' := W5) (by kernel_rfl) ?_
          obtain rfl := Option.some.inj h
          exact RunF.ret1 4 (.slice (some ⟨g3, 0, none⟩) 0 c4) (fn := Go.Proofs.Try.f60) Go.Proofs.Try.func60 (by kernel_rfl) (by kernel_rfl) (by kernel_rfl) ⟨_, rfl, (some ⟨g3, 0, none⟩), 0, c4, rfl, (hM.pick [0] rfl rfl)⟩
        · replace h := of_false h c7
          cases h
      · replace h := of_false h c6
        cases h
    · replace h := of_false h c2
      refine RunF.know 16 (b := false) (by kernel_rfl) c2 ?_
      refine RunF.go 7 [4] (k' := (pl Go.Proofs.Try.f60 [1, 1, 1, 1])) (L' := [(4, .slice none 0 0)]) (w' := w) (by kernel_rfl) ?_
      replace hM := hM.nil 43
      obtain rfl := Option.some.inj h
      exact RunF.ret1 4 (.slice none 0 0) (fn := Go.Proofs.Try.f60) Go.Proofs.Try.func60 (by kernel_rfl) (by kernel_rfl) (by kernel_rfl) ⟨_, rfl, none, 0, 0, rfl, (hM.pick [0] rfl rfl)⟩

/-! ### slices.Concat[[]uint32,uint32]: function 50 -/
mutual
def slices_Concat_uint32_uint32.l0 : Nat → (List (List Int)) → Int → Int → Option (List Int)
  | 0, _, _, _ => none
  | k + 1, a0, x3_0, x11_0 => if (decide (x11_0 < (a0.length : Int))) = true then (if (decide (0 ≤ x11_0)) = true then (if (decide (x11_0 < (a0.length : Int))) = true then ((some (I64 (x3_0 + ((rdr ([] : List Int) a0 x11_0).length : Int)) : Int)).bind fun y5 => (if (decide (y5 < 0)) = true then (none) else (slices_Concat_uint32_uint32.l0 k a0 y5 (I64 (x11_0 + 1))))) else (none)) else (none)) else ((slices_Grow_uint32_uint32.f k x3_0).bind fun t8 => (slices_Concat_uint32_uint32.l1 k a0 t8 0))
def slices_Concat_uint32_uint32.l1 : Nat → (List (List Int)) → (List Int) → Int → Option (List Int)
  | 0, _, _, _ => none
  | k + 1, a0, x6_1, x27_1 => if (decide (x27_1 < (a0.length : Int))) = true then (if (decide (0 ≤ x27_1)) = true then (if (decide (x27_1 < (a0.length : Int))) = true then (if (decide (x6_1.length + (rdr ([] : List Int) a0 x27_1).length ≤ 1000000000)) = true then (slices_Concat_uint32_uint32.l1 k a0 (x6_1 ++ (rdr ([] : List Int) a0 x27_1)) (I64 (x27_1 + 1))) else (none)) else (none)) else (none)) else (some x6_1)
end
def slices_Concat_uint32_uint32.f (k : Nat) (a0 : List (List Int)) : Option (List Int) := slices_Concat_uint32_uint32.l0 k a0 0 0
set_option maxRecDepth 100000 in
theorem slices_Concat_uint32_uint32.calls (k : Nat) (vp0 : Value) (Zp0 : Zp) (a0 : List (List Int)) (r : List Int) (w : World) (hp0 : (rRows (rNums .u32)) Zp0 vp0 a0) (hZp0 : ∀ W, Kept w W → Zp0 W) (h : slices_Concat_uint32_uint32.f k a0 = some r) :
    Calls Go.Proofs.Try.prog 50 #[vp0] w (Ret fun v w' => ∃ A0' n0' c0', v = .slice A0' n0' c0' ∧ Mem w w' [⟨.slice A0' n0' c0', 43, 1, nums .u32 r⟩]) := by
  obtain ⟨Ap0, cp0, cs0, rfl, hr0, hq0⟩ := hp0
  unfold slices_Concat_uint32_uint32.f at h
  refine calls_of [.slice Ap0 a0.length cp0] (fn := Go.Proofs.Try.f50) Go.Proofs.Try.func50 (by kernel_rfl) (by kernel_rfl) ?_
  have hM := Mem.refl w
  refine RunF.go 17 [0, 3, 9, 10, 11] (k' := (pl Go.Proofs.Try.f50 [1, 1, 0, 1, 0, 0])) (L' := [(0, .slice Ap0 a0.length cp0), (3, .int .i64 0), (9, .slice Ap0 a0.length cp0), (10, .int .i64 (a0.length : Int)), (11, .int .i64 0)]) (w' := w) (by kernel_rfl) ?_
  have l0 : ∀ (k_ : Nat), k_ ≤ k → ∀ (x3_0 : Int) (x11_0 : Int) (W : World) (hM : Mem w W []) (h : slices_Concat_uint32_uint32.l0 k_ a0 x3_0 x11_0 = some r), RunF Go.Proofs.Try.prog (Ret fun v w' => ∃ A0' n0' c0', v = .slice A0' n0' c0' ∧ Mem w w' [⟨.slice A0' n0' c0', 43, 1, nums .u32 r⟩]) 50 (pl Go.Proofs.Try.f50 [1, 1, 0, 1, 0, 0]) 36 [(0, .slice Ap0 a0.length cp0), (3, .int .i64 x3_0), (9, .slice Ap0 a0.length cp0), (10, .int .i64 (a0.length : Int)), (11, .int .i64 x11_0)] W := by
    intro k_
    induction k_ using Nat.strongRecOn with
    | _ k_ ih0 =>
      intro hk x3_0 x11_0 W hM h
      cases k_ with
      | zero => exact absurd h (by simp [slices_Concat_uint32_uint32.l0])
      | succ k =>
        simp only [slices_Concat_uint32_uint32.l0] at h
        replace ih0 : ∀ m, m ≤ k → _ := fun m hm => ih0 m (by omega) (by omega)
        refine RunF.go 5 [0, 3, 9, 10, 11, 12] (k' := (pl Go.Proofs.Try.f50 [1, 1, 0, 1, 0, 0, 1, 0])) (L' := [(0, .slice Ap0 a0.length cp0), (3, .int .i64 x3_0), (9, .slice Ap0 a0.length cp0), (10, .int .i64 (a0.length : Int)), (11, .int .i64 x11_0), (12, .bool (decide (x11_0 < (a0.length : Int))))]) (w' := W) (by kernel_rfl) ?_
        rcases two (decide (x11_0 < (a0.length : Int))) with c1 | c1
        · replace h := of_true h c1
          refine RunF.know 12 (b := true) (by kernel_rfl) c1 ?_
          refine RunF.go 6 [0, 3, 9, 10, 11] (k' := (pin Go.Proofs.Try.f50 [1, 1, 0, 1, 0, 0, 1, 1, 0, 0, 0] 0)) (L' := [(0, .slice Ap0 a0.length cp0), (3, .int .i64 x3_0), (9, .slice Ap0 a0.length cp0), (10, .int .i64 (a0.length : Int)), (11, .int .i64 x11_0)]) (w' := W) (by kernel_rfl) ?_
          rcases two (decide (0 ≤ x11_0)) with c3 | c3
          · replace h := of_true h c3
            rcases two (decide (x11_0 < (a0.length : Int))) with c4 | c4
            · replace h := of_true h c4
              obtain ⟨uq2, huq2, hvq2⟩ := Each2.at hq0 ([] : List Int) (i := x11_0) (of_decide_eq_true c3) (by have h_ : x11_0 < (a0.length : Int) := (of_decide_eq_true c4); first | exact h_ | (simpa using h_))
              obtain ⟨Aq2, cq2, rfl, hq2⟩ := hvq2
              obtain ⟨q2, hAq2, hcq2⟩ := RdF.elem hr0 (hZp0 _ hM.kept) huq2
              refine RunF.y (idx_y (d := some 13) (A := Ap0) (m := a0.length) (i := x11_0) (k2 := (pin Go.Proofs.Try.f50 [1, 1, 0, 1, 0, 0, 1, 1, 0, 0, 0] 1)) (by kernel_rfl) (of_decide_eq_true c3) (of_decide_eq_true c4) hAq2) trivial ?_
              refine RunF.y (ld_y (d := some 14) (p := (q2.add (x11_0 : Int).toNat)) (k2 := (pin Go.Proofs.Try.f50 [1, 1, 0, 1, 0, 0, 1, 1, 0, 0, 0] 2)) (.slice Aq2 ((rdr ([] : List Int) a0 x11_0).length) cq2) (by kernel_rfl)) hcq2 ?_
              refine RunF.go 15 [0, 3, 9, 10, 11, 20] (k' := (pl Go.Proofs.Try.f50 [1, 1, 0, 1, 0, 0, 1, 1, 0, 0, 1, 1, 1])) (L' := [(0, .slice Ap0 a0.length cp0), (3, .int .i64 (I64 (x3_0 + ((rdr ([] : List Int) a0 x11_0).length : Int)))), (9, .slice Ap0 a0.length cp0), (10, .int .i64 (a0.length : Int)), (11, .int .i64 x11_0), (20, .bool (decide ((I64 (x3_0 + ((rdr ([] : List Int) a0 x11_0).length : Int))) < 0)))]) (w' := W) (by kernel_rfl) ?_
              obtain ⟨y5, hy, h⟩ := Option.bind_eq_some_iff.mp h
              rw [show (I64 (x3_0 + ((rdr ([] : List Int) a0 x11_0).length : Int))) = y5 from Option.some.inj hy]
              clear hy
              rcases two (decide (y5 < 0)) with c6 | c6
              · replace h := of_true h c6
                refine RunF.know 20 (b := true) (by kernel_rfl) c6 ?_
                refine RunF.go 2 [0, 3, 9, 10, 11] (k' := (pin Go.Proofs.Try.f50 [1, 1, 0, 1, 0, 0, 1, 1, 0, 0, 1, 1, 1, 0] 0)) (L' := [(0, .slice Ap0 a0.length cp0), (3, .int .i64 y5), (9, .slice Ap0 a0.length cp0), (10, .int .i64 (a0.length : Int)), (11, .int .i64 x11_0)]) (w' := W) (by kernel_rfl) ?_
                cases h
              · replace h := of_false h c6
                refine RunF.know 20 (b := false) (by kernel_rfl) c6 ?_
                refine RunF.go 8 [0, 3, 9, 10, 11] (k' := (pl Go.Proofs.Try.f50 [1, 1, 0, 1, 0, 0])) (L' := [(0, .slice Ap0 a0.length cp0), (3, .int .i64 y5), (9, .slice Ap0 a0.length cp0), (10, .int .i64 (a0.length : Int)), (11, .int .i64 (I64 (x11_0 + 1)))]) (w' := W) (by kernel_rfl) ?_
                exact ih0 k (by omega) y5 (I64 (x11_0 + 1)) _ (hM.pick [] rfl rfl) h
            · replace h := of_false h c4
              cases h
          · replace h := of_false h c3
            cases h
        · replace h := of_false h c1
          refine RunF.know 12 (b := false) (by kernel_rfl) c1 ?_
          refine RunF.go 5 [0, 23] (k' := (pin Go.Proofs.Try.f50 [1, 1, 1, 0] 1)) (L' := [(0, .slice Ap0 a0.length cp0), (23, .int .i64 x3_0)]) (w' := W) (by kernel_rfl) ?_
          obtain ⟨t8, ht8, h⟩ := Option.bind_eq_some_iff.mp h
          refine RunF.call (d := some 24) (g := 60) (args := #[.slice none 0 0, .int .i64 x3_0]) (k2 := (pin Go.Proofs.Try.f50 [1, 1, 1, 0] 2)) (by kernel_rfl) (slices_Grow_uint32_uint32.calls k x3_0 t8 _ ht8) ?_
          rintro _ W7 ⟨A9, n10, c11, rfl, hM_⟩
          obtain rfl : t8.length = n10 := by have h_ := (hM_.rd 0 rfl).1; simpa [nums_length, bools_length, strs_length] using h_
          replace hM := hM.call hM_
          clear hM_ ht8
          refine RunF.go 11 [6, 25, 26, 27] (k' := (pl Go.Proofs.Try.f50 [1, 1, 1, 1, 0, 1, 0, 0])) (L' := [(6, .slice A9 t8.length c11), (25, .slice Ap0 a0.length cp0), (26, .int .i64 (a0.length : Int)), (27, .int .i64 0)]) (w' := W7) (by kernel_rfl) ?_
          have l1 : ∀ (k_ : Nat), k_ ≤ k → ∀ (A6_1 : Option Addr) (c6_1 : Nat) (x6_1 : List Int) (x27_1 : Int) (W : World) (hM : Mem w W [⟨.slice A6_1 x6_1.length c6_1, 43, 1, nums .u32 x6_1⟩]) (h : slices_Concat_uint32_uint32.l1 k_ a0 x6_1 x27_1 = some r), RunF Go.Proofs.Try.prog (Ret fun v w' => ∃ A0' n0' c0', v = .slice A0' n0' c0' ∧ Mem w w' [⟨.slice A0' n0' c0', 43, 1, nums .u32 r⟩]) 50 (pl Go.Proofs.Try.f50 [1, 1, 1, 1, 0, 1, 0, 0]) 36 [(6, .slice A6_1 x6_1.length c6_1), (25, .slice Ap0 a0.length cp0), (26, .int .i64 (a0.length : Int)), (27, .int .i64 x27_1)] W := by
            intro k_
            induction k_ using Nat.strongRecOn with
            | _ k_ ih1 =>
              intro hk A6_1 c6_1 x6_1 x27_1 W hM h
              cases k_ with
              | zero => exact absurd h (by simp [slices_Concat_uint32_uint32.l1])
              | succ k =>
                simp only [slices_Concat_uint32_uint32.l1] at h
                replace ih1 : ∀ m, m ≤ k → _ := fun m hm => ih1 m (by omega) (by omega)
                replace ih0 : ∀ m, m ≤ k → _ := fun m hm => ih0 m (by omega)
                refine RunF.go 5 [6, 25, 26, 27, 28] (k' := (pl Go.Proofs.Try.f50 [1, 1, 1, 1, 0, 1, 0, 0, 1, 0])) (L' := [(6, .slice A6_1 x6_1.length c6_1), (25, .slice Ap0 a0.length cp0), (26, .int .i64 (a0.length : Int)), (27, .int .i64 x27_1), (28, .bool (decide (x27_1 < (a0.length : Int))))]) (w' := W) (by kernel_rfl) ?_
                rcases two (decide (x27_1 < (a0.length : Int))) with c14 | c14
                · replace h := of_true h c14
                  refine RunF.know 28 (b := true) (by kernel_rfl) c14 ?_
                  refine RunF.go 6 [6, 25, 26, 27] (k' := (pin Go.Proofs.Try.f50 [1, 1, 1, 1, 0, 1, 0, 0, 1, 1, 0, 0, 0] 0)) (L' := [(6, .slice A6_1 x6_1.length c6_1), (25, .slice Ap0 a0.length cp0), (26, .int .i64 (a0.length : Int)), (27, .int .i64 x27_1)]) (w' := W) (by kernel_rfl) ?_
                  rcases two (decide (0 ≤ x27_1)) with c16 | c16
                  · replace h := of_true h c16
                    rcases two (decide (x27_1 < (a0.length : Int))) with c17 | c17
                    · replace h := of_true h c17
                      obtain ⟨uq15, huq15, hvq15⟩ := Each2.at hq0 ([] : List Int) (i := x27_1) (of_decide_eq_true c16) (by have h_ : x27_1 < (a0.length : Int) := (of_decide_eq_true c17); first | exact h_ | (simpa using h_))
                      obtain ⟨Aq15, cq15, rfl, hq15⟩ := hvq15
                      obtain ⟨q15, hAq15, hcq15⟩ := RdF.elem hr0 (hZp0 _ hM.kept) huq15
                      refine RunF.y (idx_y (d := some 29) (A := Ap0) (m := a0.length) (i := x27_1) (k2 := (pin Go.Proofs.Try.f50 [1, 1, 1, 1, 0, 1, 0, 0, 1, 1, 0, 0, 0] 1)) (by kernel_rfl) (of_decide_eq_true c16) (of_decide_eq_true c17) hAq15) trivial ?_
                      refine RunF.y (ld_y (d := some 30) (p := (q15.add (x27_1 : Int).toNat)) (k2 := (pin Go.Proofs.Try.f50 [1, 1, 1, 1, 0, 1, 0, 0, 1, 1, 0, 0, 0] 2)) (.slice Aq15 ((rdr ([] : List Int) a0 x27_1).length) cq15) (by kernel_rfl)) hcq15 ?_
                      refine RunF.go 5 [25, 26, 27, 31, 32] (k' := (pin Go.Proofs.Try.f50 [1, 1, 1, 1, 0, 1, 0, 0, 1, 1, 0, 0, 1] 2)) (L' := [(25, .slice Ap0 a0.length cp0), (26, .int .i64 (a0.length : Int)), (27, .int .i64 x27_1), (31, .slice A6_1 x6_1.length c6_1), (32, .slice Aq15 ((rdr ([] : List Int) a0 x27_1).length) cq15)]) (w' := W) (by kernel_rfl) ?_
                      rcases two (decide (x6_1.length + (rdr ([] : List Int) a0 x27_1).length ≤ 1000000000)) with c22 | c22
                      · replace h := of_true h c22
                        have h_ := of_decide_eq_true c22
                        obtain ⟨A18, n19, c20, W21, hD, hM', hS_⟩ := app_does (P := Go.Proofs.Try.prog) (n := 36) (k := (pin Go.Proofs.Try.f50 [1, 1, 1, 1, 0, 1, 0, 0, 1, 1, 0, 0, 1] 2)) (L := [(25, .slice Ap0 a0.length cp0), (26, .int .i64 (a0.length : Int)), (27, .int .i64 x27_1), (31, .slice A6_1 x6_1.length c6_1), (32, .slice Aq15 ((rdr ([] : List Int) a0 x27_1).length) cq15)]) (d := some 33) (e := 43) (A := A6_1) (m := x6_1.length) (c := c6_1) (A2 := Aq15) (m2 := (rdr ([] : List Int) a0 x27_1).length) (c2 := cq15) (cs := nums .u32 x6_1) (ys := nums .u32 (rdr ([] : List Int) a0 x27_1)) (k2 := (pin Go.Proofs.Try.f50 [1, 1, 1, 1, 0, 1, 0, 0, 1, 1, 0, 0, 1] 3)) [] [] (by kernel_rfl) (hM.pick [0] rfl rfl) (hq15 _ (hZp0 _ hM.kept)) (one_nums _ _) (by omega)
                        rw [nums_append] at hM'
                        replace hM := hM'; clear h_ hM'
                        obtain rfl : (x6_1 ++ (rdr ([] : List Int) a0 x27_1)).length = n19 := by have h_ := (hM.rd 0 rfl).1; simpa only [nums_length, bools_length, strs_length] using h_
                        refine RunF.does hD ?_
                        clear hD hS_
                        refine RunF.go 8 [6, 25, 26, 27] (k' := (pl Go.Proofs.Try.f50 [1, 1, 1, 1, 0, 1, 0, 0])) (L' := [(6, .slice A18 ((x6_1 ++ (rdr ([] : List Int) a0 x27_1)).length) c20), (25, .slice Ap0 a0.length cp0), (26, .int .i64 (a0.length : Int)), (27, .int .i64 (I64 (x27_1 + 1)))]) (w' := W21) (by kernel_rfl) ?_
                        exact ih1 k (by omega) A18 c20 (x6_1 ++ (rdr ([] : List Int) a0 x27_1)) (I64 (x27_1 + 1)) _ (hM.pick [0] rfl rfl) h
                      · replace h := of_false h c22
                        cases h
                    · replace h := of_false h c17
                      cases h
                  · replace h := of_false h c16
                    cases h
                · replace h := of_false h c14
                  refine RunF.know 28 (b := false) (by kernel_rfl) c14 ?_
                  refine RunF.go 7 [2] (k' := (pl Go.Proofs.Try.f50 [1, 1, 1, 1, 1, 1])) (L' := [(2, .slice A6_1 x6_1.length c6_1)]) (w' := W) (by kernel_rfl) ?_
                  obtain rfl := Option.some.inj h
                  exact RunF.ret1 2 (.slice A6_1 x6_1.length c6_1) (fn := Go.Proofs.Try.f50) Go.Proofs.Try.func50 (by kernel_rfl) (by kernel_rfl) (by kernel_rfl) ⟨_, rfl, A6_1, x6_1.length, c6_1, rfl, (hM.pick [0] rfl rfl)⟩
          exact l1 k (Nat.le_refl _) A9 c11 t8 0 _ (hM.pick [0] rfl rfl) h
  exact l0 k (Nat.le_refl _) 0 0 _ (hM.pick [] rfl rfl) h

/-! ### (*scrim/small.Small).magma: function 31 -/
mutual
def small_Small_magma.l0 : Nat → (List Int) → (List Int) → Int → Int → Int → Option (Int × Int)
  | 0, _, _, _, _, _ => none
  | k + 1, t19, t26, x1_0, x2_0, x41_0 => if (decide (x41_0 < (t19.length : Int))) = true then (if (decide (0 ≤ x41_0)) = true then (if (decide (x41_0 < (t19.length : Int))) = true then ((small_G.f k x2_0 (rd t26 x41_0)).bind fun t32 => (small_Small_magma.l0 k t19 t26 x2_0 (bxor .u32 x1_0 t32) (I64 (x41_0 + 1)))) else (none)) else (none)) else (some (x2_0, x1_0))
def small_Small_magma.l1 : Nat → (List Int) → Int → Int → Int → Option (Int × Int)
  | 0, _, _, _, _ => none
  | k + 1, t19, x1_1, x2_1, x41_1 => if (decide (x41_1 < (t19.length : Int))) = true then (if (decide (0 ≤ x41_1)) = true then (if (decide (x41_1 < (t19.length : Int))) = true then ((small_G.f k x2_1 (rd t19 x41_1)).bind fun t38 => (small_Small_magma.l1 k t19 x2_1 (bxor .u32 x1_1 t38) (I64 (x41_1 + 1)))) else (none)) else (none)) else (some (x2_1, x1_1))
end
def small_Small_magma.f (k : Nat) (a0 : ((List Int) × Int)) (a1 : Int) (a2 : Int) (a3 : Bool) : Option (Int × Int) := (slices_Clone_uint32_uint32.f k a0.1).bind fun t3 => ((slices_Reverse_uint32_uint32.f k t3).bind fun t9 => ((slices_Concat_uint32_uint32.f k ([a0.1, a0.1, a0.1, t9] : List (List Int))).bind fun t19 => (if a3 = true then ((slices_Reverse_uint32_uint32.f k t19).bind fun t26 => (small_Small_magma.l0 k t19 t26 a1 a2 0)) else (small_Small_magma.l1 k t19 a1 a2 0))))
set_option maxRecDepth 100000 in
theorem small_Small_magma.calls (k : Nat) (vp0 : Value) (Zp0 : Zp) (a0 : ((List Int) × Int)) (a1 : Int) (a2 : Int) (a3 : Bool) (r : Int × Int) (w : World) (hp0 : (rPtr Rs_small_Small) Zp0 vp0 a0) (hZp0 : ∀ W, Kept w W → Zp0 W) (h : small_Small_magma.f k a0 a1 a2 a3 = some r) :
    Calls Go.Proofs.Try.prog 31 #[vp0, .int .u32 a1, .int .u32 a2, .bool a3] w (Ret fun v w' => v = .tuple #[.int .u32 r.1, .int .u32 r.2] ∧ Mem w w' []) := by
  obtain ⟨gp0, _, rfl, hco1, _, _, rfl, ⟨Ao1_0, co1_0, rfl, ho1_0⟩, rfl⟩ := id hp0
  unfold small_Small_magma.f at h
  refine calls_of [.pointer (some ⟨gp0, 0, none⟩), .int .u32 a1, .int .u32 a2, .bool a3] (fn := Go.Proofs.Try.f31) Go.Proofs.Try.func31 (by kernel_rfl) (by kernel_rfl) ?_
  have hM := Mem.refl w
  refine RunF.go 10 [0, 1, 2, 3, 16] (k' := (pin Go.Proofs.Try.f31 [1, 0] 3)) (L' := [(0, .pointer (some ⟨gp0, 0, none⟩)), (1, .int .u32 a1), (2, .int .u32 a2), (3, .bool a3), (16, .pointer (some ⟨gp0, 0, none⟩))]) (w' := w) (by kernel_rfl) ?_
  refine RunF.y (ld_y (d := some 17) (p := ⟨gp0, 0, none⟩) (k2 := (pin Go.Proofs.Try.f31 [1, 0] 4)) (.slice Ao1_0 a0.1.length co1_0) (by kernel_rfl)) (hco1 _ (hZp0 _ hM.kept) 0 _ rfl) ?_
  obtain ⟨t3, ht3, h⟩ := Option.bind_eq_some_iff.mp h
  refine RunF.call (d := some 18) (g := 48) (args := #[.slice Ao1_0 a0.1.length co1_0]) (k2 := (pin Go.Proofs.Try.f31 [1, 0] 5)) (by kernel_rfl) (slices_Clone_uint32_uint32.calls k Ao1_0 a0.1.length co1_0 a0.1 t3 _ (ho1_0 _ (hZp0 _ hM.kept)) ht3) ?_
  rintro _ W2 ⟨A4, n5, c6, rfl, hM_⟩
  obtain rfl : t3.length = n5 := by have h_ := (hM_.rd 0 rfl).1; simpa [nums_length, bools_length, strs_length] using h_
  replace hM := hM.call hM_
  clear hM_ ht3
  refine RunF.go 5 [0, 1, 2, 3, 10, 19] (k' := (pin Go.Proofs.Try.f31 [1, 1, 0] 1)) (L' := [(0, .pointer (some ⟨gp0, 0, none⟩)), (1, .int .u32 a1), (2, .int .u32 a2), (3, .bool a3), (10, .slice A4 t3.length c6), (19, .slice A4 t3.length c6)]) (w' := W2) (by kernel_rfl) ?_
  obtain ⟨t9, ht9, h⟩ := Option.bind_eq_some_iff.mp h
  refine RunF.call (d := some 20) (g := 49) (args := #[.slice A4 t3.length c6]) (k2 := (pin Go.Proofs.Try.f31 [1, 1, 0] 2)) (by kernel_rfl) (slices_Reverse_uint32_uint32.calls k A4 t3.length c6 t3 t9 _ w (Gs [] []) (Mem.pickF (hM.as (H' := Gs [⟨.slice A4 t3.length c6, 43, 1, nums .u32 t3⟩] []) rfl) [0] rfl rfl (by simp [Gs])) ht9) ?_
  rintro _ W8 ⟨rfl, hM_⟩
  replace hM : Mem w W8 [⟨.slice A4 t3.length c6, 43, 1, nums .u32 t9⟩] := hM_.as (by simp [Gs])
  clear hM_ ht9
  refine RunF.go 2 [0, 1, 2, 3, 10] (k' := (pl Go.Proofs.Try.f31 [1, 1, 1, 0])) (L' := [(0, .pointer (some ⟨gp0, 0, none⟩)), (1, .int .u32 a1), (2, .int .u32 a2), (3, .bool a3), (10, .slice A4 t3.length c6)]) (w' := W8) (by kernel_rfl) ?_
  refine RunF.draw (Still ({ W8 with drawn := W8.drawn + 1 } : World) []) (by kernel_rfl) (by kernel_rfl) ?_
  have hMd11 := hM.drew
  have hS := Still.refl ({ W8 with drawn := W8.drawn + 1 } : World) []
  generalize ({ W8 with drawn := W8.drawn + 1 } : World) = W10 at hMd11 hS ⊢
  replace hM := hMd11
  refine RunAny.y 0 (by kernel_rfl) (yl_pure (d := some 21) (v := .pointer (some ⟨gp0, 0, none⟩)) (k2 := [.inRegion (opsOf (pl Go.Proofs.Try.f31 [1, 1, 1, 0])) []]) fun w => by kernel_rfl) (fun _ _ => trivial) hS ?_
  refine RunAny.y 1 (by kernel_rfl) (yl_pure (d := some 22) (v := .pointer (some ⟨gp0, 0, none⟩)) (k2 := [.inRegion (opsOf (pl Go.Proofs.Try.f31 [1, 1, 1, 0])) []]) fun w => by kernel_rfl) (fun _ _ => trivial) hS ?_
  refine RunAny.y 2 (by kernel_rfl) (yl_pure (d := some 23) (v := .pointer (some ⟨gp0, 0, none⟩)) (k2 := [.inRegion (opsOf (pl Go.Proofs.Try.f31 [1, 1, 1, 0])) []]) fun w => by kernel_rfl) (fun _ _ => trivial) hS ?_
  refine RunAny.y 3 (by kernel_rfl) (ld_y (d := some 24) (p := ⟨gp0, 0, none⟩) (k2 := [.inRegion (opsOf (pl Go.Proofs.Try.f31 [1, 1, 1, 0])) []]) (.slice Ao1_0 a0.1.length co1_0) (by kernel_rfl)) (fun _ hs => hs.cell (hco1 _ (hZp0 _ hM.kept) 0 _ rfl) (by simp)) hS ?_
  refine RunAny.y 4 (by kernel_rfl) (yl_pure (d := some 25) (v := .pointer (some ⟨gp0, 0, none⟩)) (k2 := [.inRegion (opsOf (pl Go.Proofs.Try.f31 [1, 1, 1, 0])) []]) fun w => by kernel_rfl) (fun _ _ => trivial) hS ?_
  refine RunAny.y 5 (by kernel_rfl) (yl_pure (d := some 26) (v := .pointer (some ⟨gp0, 0, none⟩)) (k2 := [.inRegion (opsOf (pl Go.Proofs.Try.f31 [1, 1, 1, 0])) []]) fun w => by kernel_rfl) (fun _ _ => trivial) hS ?_
  refine RunAny.y 6 (by kernel_rfl) (yl_pure (d := some 27) (v := .pointer (some ⟨gp0, 0, none⟩)) (k2 := [.inRegion (opsOf (pl Go.Proofs.Try.f31 [1, 1, 1, 0])) []]) fun w => by kernel_rfl) (fun _ _ => trivial) hS ?_
  refine RunAny.y 7 (by kernel_rfl) (ld_y (d := some 28) (p := ⟨gp0, 0, none⟩) (k2 := [.inRegion (opsOf (pl Go.Proofs.Try.f31 [1, 1, 1, 0])) []]) (.slice Ao1_0 a0.1.length co1_0) (by kernel_rfl)) (fun _ hs => hs.cell (hco1 _ (hZp0 _ hM.kept) 0 _ rfl) (by simp)) hS ?_
  refine RunAny.y 8 (by kernel_rfl) (yl_pure (d := some 29) (v := .pointer (some ⟨gp0, 0, none⟩)) (k2 := [.inRegion (opsOf (pl Go.Proofs.Try.f31 [1, 1, 1, 0])) []]) fun w => by kernel_rfl) (fun _ _ => trivial) hS ?_
  refine RunAny.y 9 (by kernel_rfl) (yl_pure (d := some 30) (v := .pointer (some ⟨gp0, 0, none⟩)) (k2 := [.inRegion (opsOf (pl Go.Proofs.Try.f31 [1, 1, 1, 0])) []]) fun w => by kernel_rfl) (fun _ _ => trivial) hS ?_
  refine RunAny.y 10 (by kernel_rfl) (yl_pure (d := some 31) (v := .pointer (some ⟨gp0, 0, none⟩)) (k2 := [.inRegion (opsOf (pl Go.Proofs.Try.f31 [1, 1, 1, 0])) []]) fun w => by kernel_rfl) (fun _ _ => trivial) hS ?_
  refine RunAny.y 11 (by kernel_rfl) (ld_y (d := some 32) (p := ⟨gp0, 0, none⟩) (k2 := [.inRegion (opsOf (pl Go.Proofs.Try.f31 [1, 1, 1, 0])) []]) (.slice Ao1_0 a0.1.length co1_0) (by kernel_rfl)) (fun _ hs => hs.cell (hco1 _ (hZp0 _ hM.kept) 0 _ rfl) (by simp)) hS ?_
  refine RunAny.y 12 (by kernel_rfl) (yl_pure (d := some 33) (v := .slice A4 t3.length c6) (k2 := [.inRegion (opsOf (pl Go.Proofs.Try.f31 [1, 1, 1, 0])) []]) fun w => by kernel_rfl) (fun _ _ => trivial) hS ?_
  obtain ⟨Fq12, hfq12, hM⟩ := Mem.freezeS (H1 := []) (H2 := []) (Fs := []) (A := A4) (n := t3.length) (c := c6) (ty := 43) (cs := nums .u32 t9) (hM.as rfl)
  have hqq13 : Each2 ((rNums .u32) (andZ Zp0 (Oks Fq12))) [.slice Ao1_0 a0.1.length co1_0, .slice Ao1_0 a0.1.length co1_0, .slice Ao1_0 a0.1.length co1_0, .slice A4 t3.length c6] ([a0.1, a0.1, a0.1, t9] : List (List Int)) := (.cons (rnums_of (RdF.up ho1_0 (fun _ hz_ => hz_.1)) (And.intro (hZp0 _ hM.kept) (Mem.oks (hM.as (H' := Gs [] [Fq12]) rfl) 0 rfl))) (.cons (rnums_of (RdF.up ho1_0 (fun _ hz_ => hz_.1)) (And.intro (hZp0 _ hM.kept) (Mem.oks (hM.as (H' := Gs [] [Fq12]) rfl) 0 rfl))) (.cons (rnums_of (RdF.up ho1_0 (fun _ hz_ => hz_.1)) (And.intro (hZp0 _ hM.kept) (Mem.oks (hM.as (H' := Gs [] [Fq12]) rfl) 0 rfl))) (.cons (rnums_of (RdF.up hfq12 (fun _ hz_ => hz_.2)) (And.intro (hZp0 _ hM.kept) (Mem.oks (hM.as (H' := Gs [] [Fq12]) rfl) 0 rfl))) (Each2.nil _)))))
  refine RunAny.new 13 59 1 4 ([.slice Ao1_0 a0.1.length co1_0, .slice Ao1_0 a0.1.length co1_0, .slice Ao1_0 a0.1.length co1_0, .slice A4 t3.length c6]) (d := some 34) (k2 := [.inRegion (opsOf (pl Go.Proofs.Try.f31 [1, 1, 1, 0])) []]) (by kernel_rfl) hM (by rfl) (by kernel_rfl) (by kernel_rfl) hS ?_
  intro g14 W15 hS hM
  refine RunAny.rebase hS ?_
  replace hS := Still.refl W15 []
  obtain ⟨Fq17, hfq17, hM⟩ := Mem.freezeS (H1 := []) (H2 := []) (Fs := [Fq12]) (A := (some ⟨g14, 0, none⟩)) (n := 4) (c := 4) (ty := 59) (cs := [.slice Ao1_0 a0.1.length co1_0, .slice Ao1_0 a0.1.length co1_0, .slice Ao1_0 a0.1.length co1_0, .slice A4 t3.length c6]) (hM.as rfl)
  obtain ⟨t19, ht19, h⟩ := Option.bind_eq_some_iff.mp h
  refine RunAny.call 14 (d := some 35) (g := 50) (args := #[.slice (some ⟨g14, 0, none⟩) 4 4]) (by kernel_rfl) (by kernel_rfl) (slices_Concat_uint32_uint32.calls k (.slice (some ⟨g14, 0, none⟩) 4 4) (andZ (Oks Fq17) (andZ Zp0 (Oks Fq12))) ([a0.1, a0.1, a0.1, t9] : List (List Int)) t19 _ ⟨_, _, _, rfl, (hfq17.up (fun _ hz_ => hz_.1)), (Each2.up (up_nums .u32) hqq13 (fun _ hz_ => (And.intro hz_.2.1 hz_.2.2)))⟩ (fun _ hb_ => (And.intro ((Mem.oks (hM.as (H' := Gs [] [Fq17, Fq12]) rfl) 0 rfl).kept hb_) (And.intro (hZp0 _ (hM.kept.trans hb_)) ((Mem.oks (hM.as (H' := Gs [] [Fq17, Fq12]) rfl) 1 rfl).kept hb_)))) ht19) (by rintro _ _ ⟨_, _, _, rfl, hM_⟩; exact hS.below hM_.below) ?_
  rintro _ W18 ⟨A20, n21, c22, rfl, hM_⟩
  obtain rfl : t19.length = n21 := by have h_ := (hM_.rd 0 rfl).1; simpa [nums_length, bools_length, strs_length] using h_
  replace hS := hS.below hM_.below
  replace hM : Mem w W18 (Gs [⟨.slice A20 t19.length c22, 43, 1, nums .u32 t19⟩] [Fq17, Fq12]) := (Mem.callG (hM.as (H' := Gs [] [Fq17, Fq12]) rfl) hM_.grp).as rfl
  clear hM_ ht19
  refine RunAny.rebase hS ?_
  replace hS := Still.refl W18 []
  refine RunAny.y 15 (by kernel_rfl) (yl_pure (d := some 11) (v := .slice A20 t19.length c22) (k2 := [.inRegion (opsOf (pl Go.Proofs.Try.f31 [1, 1, 1, 0])) []]) fun w => by kernel_rfl) (fun _ _ => trivial) hS ?_
  refine RunAny.done (by kernel_rfl) ?_
  clear hS
  refine RunF.go 5 [1, 2, 11, 36] (k' := (pl Go.Proofs.Try.f31 [1, 1, 1, 1, 0, 1])) (L' := [(1, .int .u32 a1), (2, .int .u32 a2), (11, .slice A20 t19.length c22), (36, .bool a3)]) (w' := W18) (by kernel_rfl) ?_
  rcases two (a3) with c24 | c24
  · replace h := of_true h c24
    refine RunF.know 36 (b := true) (by kernel_rfl) c24 ?_
    refine RunF.go 3 [1, 2, 11, 37] (k' := (pin Go.Proofs.Try.f31 [1, 1, 1, 1, 0, 1, 0] 1)) (L' := [(1, .int .u32 a1), (2, .int .u32 a2), (11, .slice A20 t19.length c22), (37, .slice A20 t19.length c22)]) (w' := W18) (by kernel_rfl) ?_
    obtain ⟨t26, ht26, h⟩ := Option.bind_eq_some_iff.mp h
    refine RunF.call (d := some 38) (g := 49) (args := #[.slice A20 t19.length c22]) (k2 := (pin Go.Proofs.Try.f31 [1, 1, 1, 1, 0, 1, 0] 2)) (by kernel_rfl) (slices_Reverse_uint32_uint32.calls k A20 t19.length c22 t19 t26 _ w (Gs [] [Fq17, Fq12]) (Mem.pickF (hM.as (H' := Gs [⟨.slice A20 t19.length c22, 43, 1, nums .u32 t19⟩] [Fq17, Fq12]) rfl) [0, 1, 2] rfl rfl (by simp [Gs])) ht26) ?_
    rintro _ W25 ⟨rfl, hM_⟩
    replace hM : Mem w W25 (Gs [⟨.slice A20 t19.length c22, 43, 1, nums .u32 t26⟩] [Fq17, Fq12]) := hM_.as (by simp [Gs])
    clear hM_ ht26
    refine RunF.go 10 [1, 2, 39, 40, 41] (k' := (pl Go.Proofs.Try.f31 [1, 1, 1, 1, 1, 0, 1, 0, 0])) (L' := [(1, .int .u32 a1), (2, .int .u32 a2), (39, .slice A20 t19.length c22), (40, .int .i64 (t19.length : Int)), (41, .int .i64 0)]) (w' := W25) (by kernel_rfl) ?_
    have l0 : ∀ (k_ : Nat), k_ ≤ k → ∀ (x1_0 : Int) (x2_0 : Int) (x41_0 : Int) (W : World) (hM : Mem w W (Gs [⟨.slice A20 t19.length c22, 43, 1, nums .u32 t26⟩] [Fq17, Fq12])) (h : small_Small_magma.l0 k_ t19 t26 x1_0 x2_0 x41_0 = some r), RunF Go.Proofs.Try.prog (Ret fun v w' => v = .tuple #[.int .u32 r.1, .int .u32 r.2] ∧ Mem w w' []) 31 (pl Go.Proofs.Try.f31 [1, 1, 1, 1, 1, 0, 1, 0, 0]) 54 [(1, .int .u32 x1_0), (2, .int .u32 x2_0), (39, .slice A20 t19.length c22), (40, .int .i64 (t19.length : Int)), (41, .int .i64 x41_0)] W := by
      intro k_
      induction k_ using Nat.strongRecOn with
      | _ k_ ih0 =>
        intro hk x1_0 x2_0 x41_0 W hM h
        cases k_ with
        | zero => exact absurd h (by simp [small_Small_magma.l0])
        | succ k =>
          simp only [small_Small_magma.l0] at h
          replace ih0 : ∀ m, m ≤ k → _ := fun m hm => ih0 m (by omega) (by omega)
          refine RunF.go 5 [1, 2, 39, 40, 41, 42] (k' := (pl Go.Proofs.Try.f31 [1, 1, 1, 1, 1, 0, 1, 0, 0, 1, 0])) (L' := [(1, .int .u32 x1_0), (2, .int .u32 x2_0), (39, .slice A20 t19.length c22), (40, .int .i64 (t19.length : Int)), (41, .int .i64 x41_0), (42, .bool (decide (x41_0 < (t19.length : Int))))]) (w' := W) (by kernel_rfl) ?_
          rcases two (decide (x41_0 < (t19.length : Int))) with c27 | c27
          · replace h := of_true h c27
            refine RunF.know 42 (b := true) (by kernel_rfl) c27 ?_
            refine RunF.go 6 [1, 2, 39, 40, 41] (k' := (pin Go.Proofs.Try.f31 [1, 1, 1, 1, 1, 0, 1, 0, 0, 1, 1, 0, 0, 0] 0)) (L' := [(1, .int .u32 x1_0), (2, .int .u32 x2_0), (39, .slice A20 t19.length c22), (40, .int .i64 (t19.length : Int)), (41, .int .i64 x41_0)]) (w' := W) (by kernel_rfl) ?_
            rcases two (decide (0 ≤ x41_0)) with c29 | c29
            · replace h := of_true h c29
              rcases two (decide (x41_0 < (t19.length : Int))) with c30 | c30
              · replace h := of_true h c30
                obtain ⟨q28, hAq28, hcq28, hfq28, hlq28⟩ := hM.num_at 0 rfl (i := x41_0) (of_decide_eq_true c29) (by have h_ := of_decide_eq_true c30; omega)
                refine RunF.y (idx_own (d := some 43) (A := A20) (m := t19.length) (i := x41_0) (k2 := (pin Go.Proofs.Try.f31 [1, 1, 1, 1, 1, 0, 1, 0, 0, 1, 1, 0, 0, 0] 1)) (by kernel_rfl) (of_decide_eq_true c29) (by have h_ := of_decide_eq_true c30; omega) hAq28) trivial ?_
                refine RunF.y (ld_y (d := some 44) (p := ⟨q28, (x41_0 : Int).toNat, none⟩) (k2 := (pin Go.Proofs.Try.f31 [1, 1, 1, 1, 1, 0, 1, 0, 0, 1, 1, 0, 0, 0] 2)) (.int .u32 (rd t26 x41_0)) (by kernel_rfl)) hcq28 ?_
                refine RunF.go 7 [39, 40, 41, 45, 46, 47, 48] (k' := (pin Go.Proofs.Try.f31 [1, 1, 1, 1, 1, 0, 1, 0, 0, 1, 1, 0, 0, 1] 4)) (L' := [(39, .slice A20 t19.length c22), (40, .int .i64 (t19.length : Int)), (41, .int .i64 x41_0), (45, .int .u32 x2_0), (46, .int .u32 x1_0), (47, .int .u32 x2_0), (48, .int .u32 (rd t26 x41_0))]) (w' := W) (by kernel_rfl) ?_
                obtain ⟨t32, ht32, h⟩ := Option.bind_eq_some_iff.mp h
                refine RunF.call (d := some 49) (g := 21) (args := #[.int .u32 x2_0, .int .u32 (rd t26 x41_0)]) (k2 := (pin Go.Proofs.Try.f31 [1, 1, 1, 1, 1, 0, 1, 0, 0, 1, 1, 0, 0, 1] 5)) (by kernel_rfl) (small_G.calls k x2_0 (rd t26 x41_0) t32 _ ht32) ?_
                rintro _ W31 ⟨rfl, hM_⟩
                replace hM : Mem w W31 (Gs [⟨.slice A20 t19.length c22, 43, 1, nums .u32 t26⟩] [Fq17, Fq12]) := (Mem.callG (hM.as (H' := Gs [⟨.slice A20 t19.length c22, 43, 1, nums .u32 t26⟩] [Fq17, Fq12]) rfl) hM_.grp).as rfl
                clear hM_ ht32
                refine RunF.go 10 [1, 2, 39, 40, 41] (k' := (pl Go.Proofs.Try.f31 [1, 1, 1, 1, 1, 0, 1, 0, 0])) (L' := [(1, .int .u32 x2_0), (2, .int .u32 (bxor .u32 x1_0 t32)), (39, .slice A20 t19.length c22), (40, .int .i64 (t19.length : Int)), (41, .int .i64 (I64 (x41_0 + 1)))]) (w' := W31) (by kernel_rfl) ?_
                exact ih0 k (by omega) x2_0 (bxor .u32 x1_0 t32) (I64 (x41_0 + 1)) _ (Mem.pickF (hM.as (H' := Gs [⟨.slice A20 t19.length c22, 43, 1, nums .u32 t26⟩] [Fq17, Fq12]) rfl) [0, 1, 2] rfl rfl rfl) h
              · replace h := of_false h c30
                cases h
            · replace h := of_false h c29
              cases h
          · replace h := of_false h c27
            refine RunF.know 42 (b := false) (by kernel_rfl) c27 ?_
            refine RunF.go 9 [8, 9] (k' := (pl Go.Proofs.Try.f31 [1, 1, 1, 1, 1, 1, 1])) (L' := [(8, .int .u32 x2_0), (9, .int .u32 x1_0)]) (w' := W) (by kernel_rfl) ?_
            obtain rfl := Option.some.inj h
            exact RunF.ret2 8 9 (.int .u32 x2_0) (.int .u32 x1_0) (fn := Go.Proofs.Try.f31) Go.Proofs.Try.func31 (by kernel_rfl) (by kernel_rfl) (by kernel_rfl) (by kernel_rfl) ⟨_, rfl, rfl, (Mem.pickF (hM.as (H' := Gs [⟨.slice A20 t19.length c22, 43, 1, nums .u32 t26⟩] [Fq17, Fq12]) rfl) [] rfl rfl rfl).ungrp⟩
    exact l0 k (Nat.le_refl _) a1 a2 0 _ (Mem.pickF (hM.as (H' := Gs [⟨.slice A20 t19.length c22, 43, 1, nums .u32 t26⟩] [Fq17, Fq12]) rfl) [0, 1, 2] rfl rfl rfl) h
  · replace h := of_false h c24
    refine RunF.know 36 (b := false) (by kernel_rfl) c24 ?_
    refine RunF.go 11 [1, 2, 39, 40, 41] (k' := (pl Go.Proofs.Try.f31 [1, 1, 1, 1, 1, 0, 1, 0, 0])) (L' := [(1, .int .u32 a1), (2, .int .u32 a2), (39, .slice A20 t19.length c22), (40, .int .i64 (t19.length : Int)), (41, .int .i64 0)]) (w' := W18) (by kernel_rfl) ?_
    have l1 : ∀ (k_ : Nat), k_ ≤ k → ∀ (x1_1 : Int) (x2_1 : Int) (x41_1 : Int) (W : World) (hM : Mem w W (Gs [⟨.slice A20 t19.length c22, 43, 1, nums .u32 t19⟩] [Fq17, Fq12])) (h : small_Small_magma.l1 k_ t19 x1_1 x2_1 x41_1 = some r), RunF Go.Proofs.Try.prog (Ret fun v w' => v = .tuple #[.int .u32 r.1, .int .u32 r.2] ∧ Mem w w' []) 31 (pl Go.Proofs.Try.f31 [1, 1, 1, 1, 1, 0, 1, 0, 0]) 54 [(1, .int .u32 x1_1), (2, .int .u32 x2_1), (39, .slice A20 t19.length c22), (40, .int .i64 (t19.length : Int)), (41, .int .i64 x41_1)] W := by
      intro k_
      induction k_ using Nat.strongRecOn with
      | _ k_ ih1 =>
        intro hk x1_1 x2_1 x41_1 W hM h
        cases k_ with
        | zero => exact absurd h (by simp [small_Small_magma.l1])
        | succ k =>
          simp only [small_Small_magma.l1] at h
          replace ih1 : ∀ m, m ≤ k → _ := fun m hm => ih1 m (by omega) (by omega)
          refine RunF.go 5 [1, 2, 39, 40, 41, 42] (k' := (pl Go.Proofs.Try.f31 [1, 1, 1, 1, 1, 0, 1, 0, 0, 1, 0])) (L' := [(1, .int .u32 x1_1), (2, .int .u32 x2_1), (39, .slice A20 t19.length c22), (40, .int .i64 (t19.length : Int)), (41, .int .i64 x41_1), (42, .bool (decide (x41_1 < (t19.length : Int))))]) (w' := W) (by kernel_rfl) ?_
          rcases two (decide (x41_1 < (t19.length : Int))) with c33 | c33
          · replace h := of_true h c33
            refine RunF.know 42 (b := true) (by kernel_rfl) c33 ?_
            refine RunF.go 6 [1, 2, 39, 40, 41] (k' := (pin Go.Proofs.Try.f31 [1, 1, 1, 1, 1, 0, 1, 0, 0, 1, 1, 0, 0, 0] 0)) (L' := [(1, .int .u32 x1_1), (2, .int .u32 x2_1), (39, .slice A20 t19.length c22), (40, .int .i64 (t19.length : Int)), (41, .int .i64 x41_1)]) (w' := W) (by kernel_rfl) ?_
            rcases two (decide (0 ≤ x41_1)) with c35 | c35
            · replace h := of_true h c35
              rcases two (decide (x41_1 < (t19.length : Int))) with c36 | c36
              · replace h := of_true h c36
                obtain ⟨q34, hAq34, hcq34, hfq34, hlq34⟩ := hM.num_at 0 rfl (i := x41_1) (of_decide_eq_true c35) (by have h_ := of_decide_eq_true c36; omega)
                refine RunF.y (idx_own (d := some 43) (A := A20) (m := t19.length) (i := x41_1) (k2 := (pin Go.Proofs.Try.f31 [1, 1, 1, 1, 1, 0, 1, 0, 0, 1, 1, 0, 0, 0] 1)) (by kernel_rfl) (of_decide_eq_true c35) (by have h_ := of_decide_eq_true c36; omega) hAq34) trivial ?_
                refine RunF.y (ld_y (d := some 44) (p := ⟨q34, (x41_1 : Int).toNat, none⟩) (k2 := (pin Go.Proofs.Try.f31 [1, 1, 1, 1, 1, 0, 1, 0, 0, 1, 1, 0, 0, 0] 2)) (.int .u32 (rd t19 x41_1)) (by kernel_rfl)) hcq34 ?_
                refine RunF.go 7 [39, 40, 41, 45, 46, 47, 48] (k' := (pin Go.Proofs.Try.f31 [1, 1, 1, 1, 1, 0, 1, 0, 0, 1, 1, 0, 0, 1] 4)) (L' := [(39, .slice A20 t19.length c22), (40, .int .i64 (t19.length : Int)), (41, .int .i64 x41_1), (45, .int .u32 x2_1), (46, .int .u32 x1_1), (47, .int .u32 x2_1), (48, .int .u32 (rd t19 x41_1))]) (w' := W) (by kernel_rfl) ?_
                obtain ⟨t38, ht38, h⟩ := Option.bind_eq_some_iff.mp h
                refine RunF.call (d := some 49) (g := 21) (args := #[.int .u32 x2_1, .int .u32 (rd t19 x41_1)]) (k2 := (pin Go.Proofs.Try.f31 [1, 1, 1, 1, 1, 0, 1, 0, 0, 1, 1, 0, 0, 1] 5)) (by kernel_rfl) (small_G.calls k x2_1 (rd t19 x41_1) t38 _ ht38) ?_
                rintro _ W37 ⟨rfl, hM_⟩
                replace hM : Mem w W37 (Gs [⟨.slice A20 t19.length c22, 43, 1, nums .u32 t19⟩] [Fq17, Fq12]) := (Mem.callG (hM.as (H' := Gs [⟨.slice A20 t19.length c22, 43, 1, nums .u32 t19⟩] [Fq17, Fq12]) rfl) hM_.grp).as rfl
                clear hM_ ht38
                refine RunF.go 10 [1, 2, 39, 40, 41] (k' := (pl Go.Proofs.Try.f31 [1, 1, 1, 1, 1, 0, 1, 0, 0])) (L' := [(1, .int .u32 x2_1), (2, .int .u32 (bxor .u32 x1_1 t38)), (39, .slice A20 t19.length c22), (40, .int .i64 (t19.length : Int)), (41, .int .i64 (I64 (x41_1 + 1)))]) (w' := W37) (by kernel_rfl) ?_
                exact ih1 k (by omega) x2_1 (bxor .u32 x1_1 t38) (I64 (x41_1 + 1)) _ (Mem.pickF (hM.as (H' := Gs [⟨.slice A20 t19.length c22, 43, 1, nums .u32 t19⟩] [Fq17, Fq12]) rfl) [0, 1, 2] rfl rfl rfl) h
              · replace h := of_false h c36
                cases h
            · replace h := of_false h c35
              cases h
          · replace h := of_false h c33
            refine RunF.know 42 (b := false) (by kernel_rfl) c33 ?_
            refine RunF.go 9 [8, 9] (k' := (pl Go.Proofs.Try.f31 [1, 1, 1, 1, 1, 1, 1])) (L' := [(8, .int .u32 x2_1), (9, .int .u32 x1_1)]) (w' := W) (by kernel_rfl) ?_
            obtain rfl := Option.some.inj h
            exact RunF.ret2 8 9 (.int .u32 x2_1) (.int .u32 x1_1) (fn := Go.Proofs.Try.f31) Go.Proofs.Try.func31 (by kernel_rfl) (by kernel_rfl) (by kernel_rfl) (by kernel_rfl) ⟨_, rfl, rfl, (Mem.pickF (hM.as (H' := Gs [⟨.slice A20 t19.length c22, 43, 1, nums .u32 t19⟩] [Fq17, Fq12]) rfl) [] rfl rfl rfl).ungrp⟩
    exact l1 k (Nat.le_refl _) a1 a2 0 _ (Mem.pickF (hM.as (H' := Gs [⟨.slice A20 t19.length c22, 43, 1, nums .u32 t19⟩] [Fq17, Fq12]) rfl) [0, 1, 2] rfl rfl rfl) h

/-! ### (*scrim/small.Small).rc5: function 32 -/
mutual
def small_Small_rc5.l0 : Nat → ((List Int) × Int) → Int → Int → Int → Option (Int × Int)
  | 0, _, _, _, _ => none
  | k + 1, a0, x1_0, x2_0, x11_0 => if (decide (x11_0 < 26)) = true then (if (decide (0 ≤ x11_0)) = true then (if (decide (x11_0 < (a0.1.length : Int))) = true then ((words_Rol32.f k (bxor .u32 x1_0 x2_0) (I64 (Int.tmod x2_0 32))).bind fun t16 => (if (decide (0 ≤ (I64 (x11_0 + 1)))) = true then (if (decide ((I64 (x11_0 + 1)) < (a0.1.length : Int))) = true then ((words_Rol32.f k (bxor .u32 x2_0 (U32 (t16 + (rd a0.1 x11_0)))) (I64 (Int.tmod (U32 (t16 + (rd a0.1 x11_0))) 32))).bind fun t23 => (small_Small_rc5.l0 k a0 (U32 (t16 + (rd a0.1 x11_0))) (U32 (t23 + (rd a0.1 (I64 (x11_0 + 1))))) (I64 (x11_0 + 2)))) else (none)) else (none))) else (none)) else (none)) else (some (x1_0, x2_0))
def small_Small_rc5.l1 : Nat → ((List Int) × Int) → Int → Int → Int → Option (Int × Int)
  | 0, _, _, _, _ => none
  | k + 1, a0, x1_1, x2_1, x12_1 => if (decide (x12_1 ≥ 2)) = true then (if (decide (0 ≤ (I64 (x12_1 + 1)))) = true then (if (decide ((I64 (x12_1 + 1)) < (a0.1.length : Int))) = true then ((words_Rol32.f k (U32 (x2_1 - (rd a0.1 (I64 (x12_1 + 1))))) (I64 (0 - (I64 (Int.tmod x1_1 32))))).bind fun t29 => (if (decide (0 ≤ x12_1)) = true then (if (decide (x12_1 < (a0.1.length : Int))) = true then ((some (I64 (0 - (I64 (Int.tmod (bxor .u32 t29 x1_1) 32))) : Int)).bind fun y33 => ((words_Rol32.f k (U32 (x1_1 - (rd a0.1 x12_1))) y33).bind fun t35 => (small_Small_rc5.l1 k a0 (bxor .u32 t35 (bxor .u32 t29 x1_1)) (bxor .u32 t29 x1_1) (I64 (x12_1 - 2))))) else (none)) else (none))) else (none)) else (none)) else (if (decide (0 < (a0.1.length : Int))) = true then (if (decide (1 < (a0.1.length : Int))) = true then (some (U32 (x1_1 - (rd a0.1 0)), U32 (x2_1 - (rd a0.1 1)))) else (none)) else (none))
end
def small_Small_rc5.f (k : Nat) (a0 : ((List Int) × Int)) (a1 : Int) (a2 : Int) (a3 : Bool) : Option (Int × Int) := if (!a3) = true then (if (decide (0 < (a0.1.length : Int))) = true then (if (decide (1 < (a0.1.length : Int))) = true then (small_Small_rc5.l0 k a0 (U32 (a1 + (rd a0.1 0))) (U32 (a2 + (rd a0.1 1))) 2) else (none)) else (none)) else (small_Small_rc5.l1 k a0 a1 a2 24)
set_option maxRecDepth 100000 in
set_option maxHeartbeats 8000000 in
theorem small_Small_rc5.calls (k : Nat) (vp0 : Value) (Zp0 : Zp) (a0 : ((List Int) × Int)) (a1 : Int) (a2 : Int) (a3 : Bool) (r : Int × Int) (w : World) (hp0 : (rPtr Rs_small_Small) Zp0 vp0 a0) (hZp0 : ∀ W, Kept w W → Zp0 W) (h : small_Small_rc5.f k a0 a1 a2 a3 = some r) :
    Calls Go.Proofs.Try.prog 32 #[vp0, .int .u32 a1, .int .u32 a2, .bool a3] w (Ret fun v w' => v = .tuple #[.int .u32 r.1, .int .u32 r.2] ∧ Mem w w' []) := by
  obtain ⟨gp0, _, rfl, hco1, _, _, rfl, ⟨Ao1_0, co1_0, rfl, ho1_0⟩, rfl⟩ := id hp0
  unfold small_Small_rc5.f at h
  refine calls_of [.pointer (some ⟨gp0, 0, none⟩), .int .u32 a1, .int .u32 a2, .bool a3] (fn := Go.Proofs.Try.f32) Go.Proofs.Try.func32 (by kernel_rfl) (by kernel_rfl) ?_
  have hM := Mem.refl w
  refine RunF.go 10 [1, 2, 3, 15] (k' := (pin Go.Proofs.Try.f32 [1, 0] 3)) (L' := [(1, .int .u32 a1), (2, .int .u32 a2), (3, .bool a3), (15, .pointer (some ⟨gp0, 0, none⟩))]) (w' := w) (by kernel_rfl) ?_
  refine RunF.y (ld_y (d := some 16) (p := ⟨gp0, 0, none⟩) (k2 := (pin Go.Proofs.Try.f32 [1, 0] 4)) (.slice Ao1_0 a0.1.length co1_0) (by kernel_rfl)) (hco1 _ (hZp0 _ hM.kept) 0 _ rfl) ?_
  refine RunF.go 8 [1, 2, 10, 18] (k' := (pl Go.Proofs.Try.f32 [1, 1, 0, 1])) (L' := [(1, .int .u32 a1), (2, .int .u32 a2), (10, .slice Ao1_0 a0.1.length co1_0), (18, .bool (!a3))]) (w' := w) (by kernel_rfl) ?_
  rcases two (!a3) with c2 | c2
  · replace h := of_true h c2
    refine RunF.know 18 (b := true) (by kernel_rfl) c2 ?_
    refine RunF.go 2 [1, 2, 10] (k' := (pl Go.Proofs.Try.f32 [1, 1, 0, 1, 0, 0])) (L' := [(1, .int .u32 a1), (2, .int .u32 a2), (10, .slice Ao1_0 a0.1.length co1_0)]) (w' := w) (by kernel_rfl) ?_
    refine RunF.draw (Still ({ w with drawn := w.drawn + 1 } : World) []) (by kernel_rfl) (by kernel_rfl) ?_
    have hMd4 := hM.drew
    have hS := Still.refl ({ w with drawn := w.drawn + 1 } : World) []
    generalize ({ w with drawn := w.drawn + 1 } : World) = W3 at hMd4 hS ⊢
    replace hM := hMd4
    refine RunAny.y 0 (by kernel_rfl) (yl_pure (d := some 19) (v := .int .u32 a1) (k2 := [.inRegion (opsOf (pl Go.Proofs.Try.f32 [1, 1, 0, 1, 0, 0])) []]) fun w => by kernel_rfl) (fun _ _ => trivial) hS ?_
    refine RunAny.y 1 (by kernel_rfl) (yl_pure (d := some 20) (v := .slice Ao1_0 a0.1.length co1_0) (k2 := [.inRegion (opsOf (pl Go.Proofs.Try.f32 [1, 1, 0, 1, 0, 0])) []]) fun w => by kernel_rfl) (fun _ _ => trivial) hS ?_
    rcases two (decide (0 < (a0.1.length : Int))) with c6 | c6
    · replace h := of_true h c6
      obtain ⟨q5, hAq5, hcq5⟩ := Rd.num (ho1_0 _ (hZp0 _ hM.kept)) (i := 0) (by omega) (by have h_ := of_decide_eq_true c6; omega)
      refine RunAny.y 2 (by kernel_rfl) (idx_y (d := some 21) (A := Ao1_0) (m := a0.1.length) (i := 0) (k2 := [.inRegion (opsOf (pl Go.Proofs.Try.f32 [1, 1, 0, 1, 0, 0])) []]) (by kernel_rfl) (by omega) (by have h_ := of_decide_eq_true c6; omega) hAq5) (fun _ _ => trivial) hS ?_
      refine RunAny.y 3 (by kernel_rfl) (ld_y (d := some 22) (p := (q5.add (0 : Int).toNat)) (k2 := [.inRegion (opsOf (pl Go.Proofs.Try.f32 [1, 1, 0, 1, 0, 0])) []]) (.int .u32 (rd a0.1 0)) (by kernel_rfl)) (fun _ hs => hs.cell hcq5 (by simp)) hS ?_
      refine RunAny.y 4 (by kernel_rfl) (yl_pure (d := some 23) (v := .int .u32 (U32 (a1 + (rd a0.1 0)))) (k2 := [.inRegion (opsOf (pl Go.Proofs.Try.f32 [1, 1, 0, 1, 0, 0])) []]) fun w => by kernel_rfl) (fun _ _ => trivial) hS ?_
      refine RunAny.y 5 (by kernel_rfl) (yl_pure (d := some 24) (v := .int .u32 a2) (k2 := [.inRegion (opsOf (pl Go.Proofs.Try.f32 [1, 1, 0, 1, 0, 0])) []]) fun w => by kernel_rfl) (fun _ _ => trivial) hS ?_
      refine RunAny.y 6 (by kernel_rfl) (yl_pure (d := some 25) (v := .slice Ao1_0 a0.1.length co1_0) (k2 := [.inRegion (opsOf (pl Go.Proofs.Try.f32 [1, 1, 0, 1, 0, 0])) []]) fun w => by kernel_rfl) (fun _ _ => trivial) hS ?_
      rcases two (decide (1 < (a0.1.length : Int))) with c8 | c8
      · replace h := of_true h c8
        obtain ⟨q7, hAq7, hcq7⟩ := Rd.num (ho1_0 _ (hZp0 _ hM.kept)) (i := 1) (by omega) (by have h_ := of_decide_eq_true c8; omega)
        refine RunAny.y 7 (by kernel_rfl) (idx_y (d := some 26) (A := Ao1_0) (m := a0.1.length) (i := 1) (k2 := [.inRegion (opsOf (pl Go.Proofs.Try.f32 [1, 1, 0, 1, 0, 0])) []]) (by kernel_rfl) (by omega) (by have h_ := of_decide_eq_true c8; omega) hAq7) (fun _ _ => trivial) hS ?_
        refine RunAny.y 8 (by kernel_rfl) (ld_y (d := some 27) (p := (q7.add (1 : Int).toNat)) (k2 := [.inRegion (opsOf (pl Go.Proofs.Try.f32 [1, 1, 0, 1, 0, 0])) []]) (.int .u32 (rd a0.1 1)) (by kernel_rfl)) (fun _ hs => hs.cell hcq7 (by simp)) hS ?_
        refine RunAny.y 9 (by kernel_rfl) (yl_pure (d := some 28) (v := .int .u32 (U32 (a2 + (rd a0.1 1)))) (k2 := [.inRegion (opsOf (pl Go.Proofs.Try.f32 [1, 1, 0, 1, 0, 0])) []]) fun w => by kernel_rfl) (fun _ _ => trivial) hS ?_
        refine RunAny.y 10 (by kernel_rfl) (yl_pure (d := some 1) (v := .int .u32 (U32 (a1 + (rd a0.1 0)))) (k2 := [.inRegion (opsOf (pl Go.Proofs.Try.f32 [1, 1, 0, 1, 0, 0])) []]) fun w => by kernel_rfl) (fun _ _ => trivial) hS ?_
        refine RunAny.y 11 (by kernel_rfl) (yl_pure (d := some 2) (v := .int .u32 (U32 (a2 + (rd a0.1 1)))) (k2 := [.inRegion (opsOf (pl Go.Proofs.Try.f32 [1, 1, 0, 1, 0, 0])) []]) fun w => by kernel_rfl) (fun _ _ => trivial) hS ?_
        refine RunAny.done (by kernel_rfl) ?_
        clear hS
        refine RunF.go 7 [1, 2, 10, 11] (k' := (pl Go.Proofs.Try.f32 [1, 1, 0, 1, 0, 1, 0, 1, 0, 0])) (L' := [(1, .int .u32 (U32 (a1 + (rd a0.1 0)))), (2, .int .u32 (U32 (a2 + (rd a0.1 1)))), (10, .slice Ao1_0 a0.1.length co1_0), (11, .int .i64 2)]) (w' := W3) (by kernel_rfl) ?_
        have l0 : ∀ (k_ : Nat), k_ ≤ k → ∀ (x1_0 : Int) (x2_0 : Int) (x11_0 : Int) (W : World) (hM : Mem w W []) (h : small_Small_rc5.l0 k_ a0 x1_0 x2_0 x11_0 = some r), RunF Go.Proofs.Try.prog (Ret fun v w' => v = .tuple #[.int .u32 r.1, .int .u32 r.2] ∧ Mem w w' []) 32 (pl Go.Proofs.Try.f32 [1, 1, 0, 1, 0, 1, 0, 1, 0, 0]) 101 [(1, .int .u32 x1_0), (2, .int .u32 x2_0), (10, .slice Ao1_0 a0.1.length co1_0), (11, .int .i64 x11_0)] W := by
          intro k_
          induction k_ using Nat.strongRecOn with
          | _ k_ ih0 =>
            intro hk x1_0 x2_0 x11_0 W hM h
            cases k_ with
            | zero => exact absurd h (by simp [small_Small_rc5.l0])
            | succ k =>
              simp only [small_Small_rc5.l0] at h
              replace ih0 : ∀ m, m ≤ k → _ := fun m hm => ih0 m (by omega) (by omega)
              refine RunF.go 6 [1, 2, 10, 11, 30] (k' := (pl Go.Proofs.Try.f32 [1, 1, 0, 1, 0, 1, 0, 1, 0, 0, 0, 1])) (L' := [(1, .int .u32 x1_0), (2, .int .u32 x2_0), (10, .slice Ao1_0 a0.1.length co1_0), (11, .int .i64 x11_0), (30, .bool (decide (x11_0 < 26)))]) (w' := W) (by kernel_rfl) ?_
              rcases two (decide (x11_0 < 26)) with c9 | c9
              · replace h := of_true h c9
                refine RunF.know 30 (b := true) (by kernel_rfl) c9 ?_
                refine RunF.go 5 [1, 2, 10, 11] (k' := (pl Go.Proofs.Try.f32 [1, 1, 0, 1, 0, 1, 0, 1, 0, 0, 1, 0, 0, 0])) (L' := [(1, .int .u32 x1_0), (2, .int .u32 x2_0), (10, .slice Ao1_0 a0.1.length co1_0), (11, .int .i64 x11_0)]) (w' := W) (by kernel_rfl) ?_
                refine RunF.draw (Still ({ W with drawn := W.drawn + 1 } : World) []) (by kernel_rfl) (by kernel_rfl) ?_
                have hMd11 := hM.drew
                have hS := Still.refl ({ W with drawn := W.drawn + 1 } : World) []
                generalize ({ W with drawn := W.drawn + 1 } : World) = W10 at hMd11 hS ⊢
                replace hM := hMd11
                refine RunAny.y 0 (by kernel_rfl) (yl_pure (d := some 33) (v := .int .u32 x1_0) (k2 := [.inRegion (opsOf (pl Go.Proofs.Try.f32 [1, 1, 0, 1, 0, 1, 0, 1, 0, 0, 1, 0, 0, 0])) []]) fun w => by kernel_rfl) (fun _ _ => trivial) hS ?_
                refine RunAny.y 1 (by kernel_rfl) (yl_pure (d := some 34) (v := .int .u32 x2_0) (k2 := [.inRegion (opsOf (pl Go.Proofs.Try.f32 [1, 1, 0, 1, 0, 1, 0, 1, 0, 0, 1, 0, 0, 0])) []]) fun w => by kernel_rfl) (fun _ _ => trivial) hS ?_
                refine RunAny.y 2 (by kernel_rfl) (yl_pure (d := some 35) (v := .int .u32 (bxor .u32 x1_0 x2_0)) (k2 := [.inRegion (opsOf (pl Go.Proofs.Try.f32 [1, 1, 0, 1, 0, 1, 0, 1, 0, 0, 1, 0, 0, 0])) []]) fun w => by kernel_rfl) (fun _ _ => trivial) hS ?_
                refine RunAny.y 3 (by kernel_rfl) (yl_pure (d := some 36) (v := .int .u32 x2_0) (k2 := [.inRegion (opsOf (pl Go.Proofs.Try.f32 [1, 1, 0, 1, 0, 1, 0, 1, 0, 0, 1, 0, 0, 0])) []]) fun w => by kernel_rfl) (fun _ _ => trivial) hS ?_
                refine RunAny.y 4 (by kernel_rfl) (yl_pure (d := some 37) (v := .int .u32 (Int.tmod x2_0 32)) (k2 := [.inRegion (opsOf (pl Go.Proofs.Try.f32 [1, 1, 0, 1, 0, 1, 0, 1, 0, 0, 1, 0, 0, 0])) []]) fun w => by kernel_rfl) (fun _ _ => trivial) hS ?_
                refine RunAny.y 5 (by kernel_rfl) (yl_pure (d := some 38) (v := .int .i64 (I64 (Int.tmod x2_0 32))) (k2 := [.inRegion (opsOf (pl Go.Proofs.Try.f32 [1, 1, 0, 1, 0, 1, 0, 1, 0, 0, 1, 0, 0, 0])) []]) fun w => by kernel_rfl) (fun _ _ => trivial) hS ?_
                refine RunAny.y 7 (by kernel_rfl) (yl_pure (d := some 40) (v := .slice Ao1_0 a0.1.length co1_0) (k2 := [.inRegion (opsOf (pl Go.Proofs.Try.f32 [1, 1, 0, 1, 0, 1, 0, 1, 0, 0, 1, 0, 0, 0])) []]) fun w => by kernel_rfl) (fun _ _ => trivial) hS ?_
                refine RunAny.y 8 (by kernel_rfl) (yl_pure (d := some 41) (v := .int .i64 x11_0) (k2 := [.inRegion (opsOf (pl Go.Proofs.Try.f32 [1, 1, 0, 1, 0, 1, 0, 1, 0, 0, 1, 0, 0, 0])) []]) fun w => by kernel_rfl) (fun _ _ => trivial) hS ?_
                rcases two (decide (0 ≤ x11_0)) with c13 | c13
                · replace h := of_true h c13
                  rcases two (decide (x11_0 < (a0.1.length : Int))) with c14 | c14
                  · replace h := of_true h c14
                    obtain ⟨q12, hAq12, hcq12⟩ := Rd.num (ho1_0 _ (hZp0 _ hM.kept)) (i := x11_0) (of_decide_eq_true c13) (by have h_ := of_decide_eq_true c14; omega)
                    refine RunAny.y 9 (by kernel_rfl) (idx_y (d := some 42) (A := Ao1_0) (m := a0.1.length) (i := x11_0) (k2 := [.inRegion (opsOf (pl Go.Proofs.Try.f32 [1, 1, 0, 1, 0, 1, 0, 1, 0, 0, 1, 0, 0, 0])) []]) (by kernel_rfl) (of_decide_eq_true c13) (by have h_ := of_decide_eq_true c14; omega) hAq12) (fun _ _ => trivial) hS ?_
                    refine RunAny.y 10 (by kernel_rfl) (ld_y (d := some 43) (p := (q12.add (x11_0 : Int).toNat)) (k2 := [.inRegion (opsOf (pl Go.Proofs.Try.f32 [1, 1, 0, 1, 0, 1, 0, 1, 0, 0, 1, 0, 0, 0])) []]) (.int .u32 (rd a0.1 x11_0)) (by kernel_rfl)) (fun _ hs => hs.cell hcq12 (by simp)) hS ?_
                    obtain ⟨t16, ht16, h⟩ := Option.bind_eq_some_iff.mp h
                    refine RunAny.call 6 (d := some 39) (g := 41) (args := #[.int .u32 (bxor .u32 x1_0 x2_0), .int .i64 (I64 (Int.tmod x2_0 32))]) (by kernel_rfl) (by kernel_rfl) (words_Rol32.calls k (bxor .u32 x1_0 x2_0) (I64 (Int.tmod x2_0 32)) t16 _ ht16) (by rintro _ _ ⟨rfl, hM_⟩; exact hS.below hM_.below) ?_
                    rintro _ W15 ⟨rfl, hM_⟩
                    replace hS := hS.below hM_.below
                    replace hM := hM.call hM_
                    clear hM_ ht16
                    refine RunAny.rebase hS ?_
                    replace hS := Still.refl W15 []
                    refine RunAny.y 11 (by kernel_rfl) (yl_pure (d := some 44) (v := .int .u32 (U32 (t16 + (rd a0.1 x11_0)))) (k2 := [.inRegion (opsOf (pl Go.Proofs.Try.f32 [1, 1, 0, 1, 0, 1, 0, 1, 0, 0, 1, 0, 0, 0])) []]) fun w => by kernel_rfl) (fun _ _ => trivial) hS ?_
                    refine RunAny.y 12 (by kernel_rfl) (yl_pure (d := some 1) (v := .int .u32 (U32 (t16 + (rd a0.1 x11_0)))) (k2 := [.inRegion (opsOf (pl Go.Proofs.Try.f32 [1, 1, 0, 1, 0, 1, 0, 1, 0, 0, 1, 0, 0, 0])) []]) fun w => by kernel_rfl) (fun _ _ => trivial) hS ?_
                    refine RunAny.done (by kernel_rfl) ?_
                    clear hS
                    refine RunF.draw (Still ({ W15 with drawn := W15.drawn + 1 } : World) []) (by kernel_rfl) (by kernel_rfl) ?_
                    have hMd18 := hM.drew
                    have hS := Still.refl ({ W15 with drawn := W15.drawn + 1 } : World) []
                    generalize ({ W15 with drawn := W15.drawn + 1 } : World) = W17 at hMd18 hS ⊢
                    replace hM := hMd18
                    refine RunAny.y 0 (by kernel_rfl) (yl_pure (d := some 45) (v := .int .u32 x2_0) (k2 := [.inRegion (opsOf (pl Go.Proofs.Try.f32 [1, 1, 0, 1, 0, 1, 0, 1, 0, 0, 1, 0, 0, 1])) []]) fun w => by kernel_rfl) (fun _ _ => trivial) hS ?_
                    refine RunAny.y 1 (by kernel_rfl) (yl_pure (d := some 46) (v := .int .u32 (U32 (t16 + (rd a0.1 x11_0)))) (k2 := [.inRegion (opsOf (pl Go.Proofs.Try.f32 [1, 1, 0, 1, 0, 1, 0, 1, 0, 0, 1, 0, 0, 1])) []]) fun w => by kernel_rfl) (fun _ _ => trivial) hS ?_
                    refine RunAny.y 2 (by kernel_rfl) (yl_pure (d := some 47) (v := .int .u32 (bxor .u32 x2_0 (U32 (t16 + (rd a0.1 x11_0))))) (k2 := [.inRegion (opsOf (pl Go.Proofs.Try.f32 [1, 1, 0, 1, 0, 1, 0, 1, 0, 0, 1, 0, 0, 1])) []]) fun w => by kernel_rfl) (fun _ _ => trivial) hS ?_
                    refine RunAny.y 3 (by kernel_rfl) (yl_pure (d := some 48) (v := .int .u32 (U32 (t16 + (rd a0.1 x11_0)))) (k2 := [.inRegion (opsOf (pl Go.Proofs.Try.f32 [1, 1, 0, 1, 0, 1, 0, 1, 0, 0, 1, 0, 0, 1])) []]) fun w => by kernel_rfl) (fun _ _ => trivial) hS ?_
                    refine RunAny.y 4 (by kernel_rfl) (yl_pure (d := some 49) (v := .int .u32 (Int.tmod (U32 (t16 + (rd a0.1 x11_0))) 32)) (k2 := [.inRegion (opsOf (pl Go.Proofs.Try.f32 [1, 1, 0, 1, 0, 1, 0, 1, 0, 0, 1, 0, 0, 1])) []]) fun w => by kernel_rfl) (fun _ _ => trivial) hS ?_
                    refine RunAny.y 5 (by kernel_rfl) (yl_pure (d := some 50) (v := .int .i64 (I64 (Int.tmod (U32 (t16 + (rd a0.1 x11_0))) 32))) (k2 := [.inRegion (opsOf (pl Go.Proofs.Try.f32 [1, 1, 0, 1, 0, 1, 0, 1, 0, 0, 1, 0, 0, 1])) []]) fun w => by kernel_rfl) (fun _ _ => trivial) hS ?_
                    refine RunAny.y 7 (by kernel_rfl) (yl_pure (d := some 52) (v := .slice Ao1_0 a0.1.length co1_0) (k2 := [.inRegion (opsOf (pl Go.Proofs.Try.f32 [1, 1, 0, 1, 0, 1, 0, 1, 0, 0, 1, 0, 0, 1])) []]) fun w => by kernel_rfl) (fun _ _ => trivial) hS ?_
                    refine RunAny.y 8 (by kernel_rfl) (yl_pure (d := some 53) (v := .int .i64 x11_0) (k2 := [.inRegion (opsOf (pl Go.Proofs.Try.f32 [1, 1, 0, 1, 0, 1, 0, 1, 0, 0, 1, 0, 0, 1])) []]) fun w => by kernel_rfl) (fun _ _ => trivial) hS ?_
                    refine RunAny.y 9 (by kernel_rfl) (yl_pure (d := some 54) (v := .int .i64 (I64 (x11_0 + 1))) (k2 := [.inRegion (opsOf (pl Go.Proofs.Try.f32 [1, 1, 0, 1, 0, 1, 0, 1, 0, 0, 1, 0, 0, 1])) []]) fun w => by kernel_rfl) (fun _ _ => trivial) hS ?_
                    rcases two (decide (0 ≤ (I64 (x11_0 + 1)))) with c20 | c20
                    · replace h := of_true h c20
                      rcases two (decide ((I64 (x11_0 + 1)) < (a0.1.length : Int))) with c21 | c21
                      · replace h := of_true h c21
                        obtain ⟨q19, hAq19, hcq19⟩ := Rd.num (ho1_0 _ (hZp0 _ hM.kept)) (i := I64 (x11_0 + 1)) (of_decide_eq_true c20) (by have h_ := of_decide_eq_true c21; omega)
                        refine RunAny.y 10 (by kernel_rfl) (idx_y (d := some 55) (A := Ao1_0) (m := a0.1.length) (i := I64 (x11_0 + 1)) (k2 := [.inRegion (opsOf (pl Go.Proofs.Try.f32 [1, 1, 0, 1, 0, 1, 0, 1, 0, 0, 1, 0, 0, 1])) []]) (by kernel_rfl) (of_decide_eq_true c20) (by have h_ := of_decide_eq_true c21; omega) hAq19) (fun _ _ => trivial) hS ?_
                        refine RunAny.y 11 (by kernel_rfl) (ld_y (d := some 56) (p := (q19.add (I64 (x11_0 + 1) : Int).toNat)) (k2 := [.inRegion (opsOf (pl Go.Proofs.Try.f32 [1, 1, 0, 1, 0, 1, 0, 1, 0, 0, 1, 0, 0, 1])) []]) (.int .u32 (rd a0.1 (I64 (x11_0 + 1)))) (by kernel_rfl)) (fun _ hs => hs.cell hcq19 (by simp)) hS ?_
                        obtain ⟨t23, ht23, h⟩ := Option.bind_eq_some_iff.mp h
                        refine RunAny.call 6 (d := some 51) (g := 41) (args := #[.int .u32 (bxor .u32 x2_0 (U32 (t16 + (rd a0.1 x11_0)))), .int .i64 (I64 (Int.tmod (U32 (t16 + (rd a0.1 x11_0))) 32))]) (by kernel_rfl) (by kernel_rfl) (words_Rol32.calls k (bxor .u32 x2_0 (U32 (t16 + (rd a0.1 x11_0)))) (I64 (Int.tmod (U32 (t16 + (rd a0.1 x11_0))) 32)) t23 _ ht23) (by rintro _ _ ⟨rfl, hM_⟩; exact hS.below hM_.below) ?_
                        rintro _ W22 ⟨rfl, hM_⟩
                        replace hS := hS.below hM_.below
                        replace hM := hM.call hM_
                        clear hM_ ht23
                        refine RunAny.rebase hS ?_
                        replace hS := Still.refl W22 []
                        refine RunAny.y 12 (by kernel_rfl) (yl_pure (d := some 57) (v := .int .u32 (U32 (t23 + (rd a0.1 (I64 (x11_0 + 1)))))) (k2 := [.inRegion (opsOf (pl Go.Proofs.Try.f32 [1, 1, 0, 1, 0, 1, 0, 1, 0, 0, 1, 0, 0, 1])) []]) fun w => by kernel_rfl) (fun _ _ => trivial) hS ?_
                        refine RunAny.y 13 (by kernel_rfl) (yl_pure (d := some 2) (v := .int .u32 (U32 (t23 + (rd a0.1 (I64 (x11_0 + 1)))))) (k2 := [.inRegion (opsOf (pl Go.Proofs.Try.f32 [1, 1, 0, 1, 0, 1, 0, 1, 0, 0, 1, 0, 0, 1])) []]) fun w => by kernel_rfl) (fun _ _ => trivial) hS ?_
                        refine RunAny.done (by kernel_rfl) ?_
                        clear hS
                        refine RunF.go 7 [1, 2, 10, 11] (k' := (pl Go.Proofs.Try.f32 [1, 1, 0, 1, 0, 1, 0, 1, 0, 0])) (L' := [(1, .int .u32 (U32 (t16 + (rd a0.1 x11_0)))), (2, .int .u32 (U32 (t23 + (rd a0.1 (I64 (x11_0 + 1)))))), (10, .slice Ao1_0 a0.1.length co1_0), (11, .int .i64 (I64 (x11_0 + 2)))]) (w' := W22) (by kernel_rfl) ?_
                        exact ih0 k (by omega) (U32 (t16 + (rd a0.1 x11_0))) (U32 (t23 + (rd a0.1 (I64 (x11_0 + 1))))) (I64 (x11_0 + 2)) _ (hM.pick [] rfl rfl) h
                      · replace h := of_false h c21
                        cases h
                    · replace h := of_false h c20
                      cases h
                  · replace h := of_false h c14
                    cases h
                · replace h := of_false h c13
                  cases h
              · replace h := of_false h c9
                refine RunF.know 30 (b := false) (by kernel_rfl) c9 ?_
                refine RunF.go 9 [8, 9] (k' := (pl Go.Proofs.Try.f32 [1, 1, 0, 1, 0, 1, 1, 1])) (L' := [(8, .int .u32 x1_0), (9, .int .u32 x2_0)]) (w' := W) (by kernel_rfl) ?_
                obtain rfl := Option.some.inj h
                exact RunF.ret2 8 9 (.int .u32 x1_0) (.int .u32 x2_0) (fn := Go.Proofs.Try.f32) Go.Proofs.Try.func32 (by kernel_rfl) (by kernel_rfl) (by kernel_rfl) (by kernel_rfl) ⟨_, rfl, rfl, (hM.pick [] rfl rfl)⟩
        exact l0 k (Nat.le_refl _) (U32 (a1 + (rd a0.1 0))) (U32 (a2 + (rd a0.1 1))) 2 _ (hM.pick [] rfl rfl) h
      · replace h := of_false h c8
        cases h
    · replace h := of_false h c6
      cases h
  · replace h := of_false h c2
    refine RunF.know 18 (b := false) (by kernel_rfl) c2 ?_
    refine RunF.go 9 [1, 2, 10, 12] (k' := (pl Go.Proofs.Try.f32 [1, 1, 1, 0, 1, 0, 0])) (L' := [(1, .int .u32 a1), (2, .int .u32 a2), (10, .slice Ao1_0 a0.1.length co1_0), (12, .int .i64 24)]) (w' := w) (by kernel_rfl) ?_
    have l1 : ∀ (k_ : Nat), k_ ≤ k → ∀ (x1_1 : Int) (x2_1 : Int) (x12_1 : Int) (W : World) (hM : Mem w W []) (h : small_Small_rc5.l1 k_ a0 x1_1 x2_1 x12_1 = some r), RunF Go.Proofs.Try.prog (Ret fun v w' => v = .tuple #[.int .u32 r.1, .int .u32 r.2] ∧ Mem w w' []) 32 (pl Go.Proofs.Try.f32 [1, 1, 1, 0, 1, 0, 0]) 101 [(1, .int .u32 x1_1), (2, .int .u32 x2_1), (10, .slice Ao1_0 a0.1.length co1_0), (12, .int .i64 x12_1)] W := by
      intro k_
      induction k_ using Nat.strongRecOn with
      | _ k_ ih1 =>
        intro hk x1_1 x2_1 x12_1 W hM h
        cases k_ with
        | zero => exact absurd h (by simp [small_Small_rc5.l1])
        | succ k =>
          simp only [small_Small_rc5.l1] at h
          replace ih1 : ∀ m, m ≤ k → _ := fun m hm => ih1 m (by omega) (by omega)
          refine RunF.go 6 [1, 2, 10, 12, 61] (k' := (pl Go.Proofs.Try.f32 [1, 1, 1, 0, 1, 0, 0, 0, 1])) (L' := [(1, .int .u32 x1_1), (2, .int .u32 x2_1), (10, .slice Ao1_0 a0.1.length co1_0), (12, .int .i64 x12_1), (61, .bool (decide (x12_1 ≥ 2)))]) (w' := W) (by kernel_rfl) ?_
          rcases two (decide (x12_1 ≥ 2)) with c24 | c24
          · replace h := of_true h c24
            refine RunF.know 61 (b := true) (by kernel_rfl) c24 ?_
            refine RunF.go 10 [1, 10, 12, 64, 65, 67] (k' := (pin Go.Proofs.Try.f32 [1, 1, 1, 0, 1, 0, 0, 1, 0, 0, 0] 4)) (L' := [(1, .int .u32 x1_1), (10, .slice Ao1_0 a0.1.length co1_0), (12, .int .i64 x12_1), (64, .int .u32 x2_1), (65, .slice Ao1_0 a0.1.length co1_0), (67, .int .i64 (I64 (x12_1 + 1)))]) (w' := W) (by kernel_rfl) ?_
            rcases two (decide (0 ≤ (I64 (x12_1 + 1)))) with c26 | c26
            · replace h := of_true h c26
              rcases two (decide ((I64 (x12_1 + 1)) < (a0.1.length : Int))) with c27 | c27
              · replace h := of_true h c27
                obtain ⟨q25, hAq25, hcq25⟩ := Rd.num (ho1_0 _ (hZp0 _ hM.kept)) (i := I64 (x12_1 + 1)) (of_decide_eq_true c26) (by have h_ := of_decide_eq_true c27; omega)
                refine RunF.y (idx_y (d := some 68) (A := Ao1_0) (m := a0.1.length) (i := I64 (x12_1 + 1)) (k2 := (pin Go.Proofs.Try.f32 [1, 1, 1, 0, 1, 0, 0, 1, 0, 0, 0] 5)) (by kernel_rfl) (of_decide_eq_true c26) (by have h_ := of_decide_eq_true c27; omega) hAq25) trivial ?_
                refine RunF.y (ld_y (d := some 69) (p := (q25.add (I64 (x12_1 + 1) : Int).toNat)) (k2 := (pin Go.Proofs.Try.f32 [1, 1, 1, 0, 1, 0, 0, 1, 0, 0, 0] 6)) (.int .u32 (rd a0.1 (I64 (x12_1 + 1)))) (by kernel_rfl)) hcq25 ?_
                refine RunF.go 5 [1, 10, 12, 70, 74] (k' := (pin Go.Proofs.Try.f32 [1, 1, 1, 0, 1, 0, 0, 1, 0, 0, 0] 11)) (L' := [(1, .int .u32 x1_1), (10, .slice Ao1_0 a0.1.length co1_0), (12, .int .i64 x12_1), (70, .int .u32 (U32 (x2_1 - (rd a0.1 (I64 (x12_1 + 1)))))), (74, .int .i64 (I64 (0 - (I64 (Int.tmod x1_1 32)))))]) (w' := W) (by kernel_rfl) ?_
                obtain ⟨t29, ht29, h⟩ := Option.bind_eq_some_iff.mp h
                refine RunF.call (d := some 75) (g := 41) (args := #[.int .u32 (U32 (x2_1 - (rd a0.1 (I64 (x12_1 + 1))))), .int .i64 (I64 (0 - (I64 (Int.tmod x1_1 32))))]) (k2 := (pin Go.Proofs.Try.f32 [1, 1, 1, 0, 1, 0, 0, 1, 0, 0, 0] 12)) (by kernel_rfl) (words_Rol32.calls k (U32 (x2_1 - (rd a0.1 (I64 (x12_1 + 1))))) (I64 (0 - (I64 (Int.tmod x1_1 32)))) t29 _ ht29) ?_
                rintro _ W28 ⟨rfl, hM_⟩
                replace hM := hM.call hM_
                clear hM_ ht29
                refine RunF.go 8 [2, 10, 12, 78, 79, 80] (k' := (pin Go.Proofs.Try.f32 [1, 1, 1, 0, 1, 0, 0, 1, 0, 0, 1] 3)) (L' := [(2, .int .u32 (bxor .u32 t29 x1_1)), (10, .slice Ao1_0 a0.1.length co1_0), (12, .int .i64 x12_1), (78, .int .u32 x1_1), (79, .slice Ao1_0 a0.1.length co1_0), (80, .int .i64 x12_1)]) (w' := W28) (by kernel_rfl) ?_
                rcases two (decide (0 ≤ x12_1)) with c31 | c31
                · replace h := of_true h c31
                  rcases two (decide (x12_1 < (a0.1.length : Int))) with c32 | c32
                  · replace h := of_true h c32
                    obtain ⟨q30, hAq30, hcq30⟩ := Rd.num (ho1_0 _ (hZp0 _ hM.kept)) (i := x12_1) (of_decide_eq_true c31) (by have h_ := of_decide_eq_true c32; omega)
                    refine RunF.y (idx_y (d := some 81) (A := Ao1_0) (m := a0.1.length) (i := x12_1) (k2 := (pin Go.Proofs.Try.f32 [1, 1, 1, 0, 1, 0, 0, 1, 0, 0, 1] 4)) (by kernel_rfl) (of_decide_eq_true c31) (by have h_ := of_decide_eq_true c32; omega) hAq30) trivial ?_
                    refine RunF.y (ld_y (d := some 82) (p := (q30.add (x12_1 : Int).toNat)) (k2 := (pin Go.Proofs.Try.f32 [1, 1, 1, 0, 1, 0, 0, 1, 0, 0, 1] 5)) (.int .u32 (rd a0.1 x12_1)) (by kernel_rfl)) hcq30 ?_
                    refine RunF.go 5 [2, 10, 12, 83, 87] (k' := (pin Go.Proofs.Try.f32 [1, 1, 1, 0, 1, 0, 0, 1, 0, 0, 1] 10)) (L' := [(2, .int .u32 (bxor .u32 t29 x1_1)), (10, .slice Ao1_0 a0.1.length co1_0), (12, .int .i64 x12_1), (83, .int .u32 (U32 (x1_1 - (rd a0.1 x12_1)))), (87, .int .i64 (I64 (0 - (I64 (Int.tmod (bxor .u32 t29 x1_1) 32)))))]) (w' := W28) (by kernel_rfl) ?_
                    obtain ⟨y33, hy, h⟩ := Option.bind_eq_some_iff.mp h
                    rw [show (I64 (0 - (I64 (Int.tmod (bxor .u32 t29 x1_1) 32)))) = y33 from Option.some.inj hy]
                    clear hy
                    obtain ⟨t35, ht35, h⟩ := Option.bind_eq_some_iff.mp h
                    refine RunF.call (d := some 88) (g := 41) (args := #[.int .u32 (U32 (x1_1 - (rd a0.1 x12_1))), .int .i64 y33]) (k2 := (pin Go.Proofs.Try.f32 [1, 1, 1, 0, 1, 0, 0, 1, 0, 0, 1] 11)) (by kernel_rfl) (words_Rol32.calls k (U32 (x1_1 - (rd a0.1 x12_1))) y33 t35 _ ht35) ?_
                    rintro _ W34 ⟨rfl, hM_⟩
                    replace hM := hM.call hM_
                    clear hM_ ht35
                    refine RunF.go 11 [1, 2, 10, 12] (k' := (pl Go.Proofs.Try.f32 [1, 1, 1, 0, 1, 0, 0])) (L' := [(1, .int .u32 (bxor .u32 t35 (bxor .u32 t29 x1_1))), (2, .int .u32 (bxor .u32 t29 x1_1)), (10, .slice Ao1_0 a0.1.length co1_0), (12, .int .i64 (I64 (x12_1 - 2)))]) (w' := W34) (by kernel_rfl) ?_
                    exact ih1 k (by omega) (bxor .u32 t35 (bxor .u32 t29 x1_1)) (bxor .u32 t29 x1_1) (I64 (x12_1 - 2)) _ (hM.pick [] rfl rfl) h
                  · replace h := of_false h c32
                    cases h
                · replace h := of_false h c31
                  cases h
              · replace h := of_false h c27
                cases h
            · replace h := of_false h c26
              cases h
          · replace h := of_false h c24
            refine RunF.know 61 (b := false) (by kernel_rfl) c24 ?_
            refine RunF.go 3 [1, 2, 10] (k' := (pl Go.Proofs.Try.f32 [1, 1, 1, 1, 0])) (L' := [(1, .int .u32 x1_1), (2, .int .u32 x2_1), (10, .slice Ao1_0 a0.1.length co1_0)]) (w' := W) (by kernel_rfl) ?_
            refine RunF.draw (Still ({ W with drawn := W.drawn + 1 } : World) []) (by kernel_rfl) (by kernel_rfl) ?_
            have hMd37 := hM.drew
            have hS := Still.refl ({ W with drawn := W.drawn + 1 } : World) []
            generalize ({ W with drawn := W.drawn + 1 } : World) = W36 at hMd37 hS ⊢
            replace hM := hMd37
            refine RunAny.y 0 (by kernel_rfl) (yl_pure (d := some 91) (v := .int .u32 x1_1) (k2 := [.inRegion (opsOf (pl Go.Proofs.Try.f32 [1, 1, 1, 1, 0])) []]) fun w => by kernel_rfl) (fun _ _ => trivial) hS ?_
            refine RunAny.y 1 (by kernel_rfl) (yl_pure (d := some 92) (v := .slice Ao1_0 a0.1.length co1_0) (k2 := [.inRegion (opsOf (pl Go.Proofs.Try.f32 [1, 1, 1, 1, 0])) []]) fun w => by kernel_rfl) (fun _ _ => trivial) hS ?_
            rcases two (decide (0 < (a0.1.length : Int))) with c39 | c39
            · replace h := of_true h c39
              obtain ⟨q38, hAq38, hcq38⟩ := Rd.num (ho1_0 _ (hZp0 _ hM.kept)) (i := 0) (by omega) (by have h_ := of_decide_eq_true c39; omega)
              refine RunAny.y 2 (by kernel_rfl) (idx_y (d := some 93) (A := Ao1_0) (m := a0.1.length) (i := 0) (k2 := [.inRegion (opsOf (pl Go.Proofs.Try.f32 [1, 1, 1, 1, 0])) []]) (by kernel_rfl) (by omega) (by have h_ := of_decide_eq_true c39; omega) hAq38) (fun _ _ => trivial) hS ?_
              refine RunAny.y 3 (by kernel_rfl) (ld_y (d := some 94) (p := (q38.add (0 : Int).toNat)) (k2 := [.inRegion (opsOf (pl Go.Proofs.Try.f32 [1, 1, 1, 1, 0])) []]) (.int .u32 (rd a0.1 0)) (by kernel_rfl)) (fun _ hs => hs.cell hcq38 (by simp)) hS ?_
              refine RunAny.y 4 (by kernel_rfl) (yl_pure (d := some 95) (v := .int .u32 (U32 (x1_1 - (rd a0.1 0)))) (k2 := [.inRegion (opsOf (pl Go.Proofs.Try.f32 [1, 1, 1, 1, 0])) []]) fun w => by kernel_rfl) (fun _ _ => trivial) hS ?_
              refine RunAny.y 5 (by kernel_rfl) (yl_pure (d := some 96) (v := .int .u32 x2_1) (k2 := [.inRegion (opsOf (pl Go.Proofs.Try.f32 [1, 1, 1, 1, 0])) []]) fun w => by kernel_rfl) (fun _ _ => trivial) hS ?_
              refine RunAny.y 6 (by kernel_rfl) (yl_pure (d := some 97) (v := .slice Ao1_0 a0.1.length co1_0) (k2 := [.inRegion (opsOf (pl Go.Proofs.Try.f32 [1, 1, 1, 1, 0])) []]) fun w => by kernel_rfl) (fun _ _ => trivial) hS ?_
              rcases two (decide (1 < (a0.1.length : Int))) with c41 | c41
              · replace h := of_true h c41
                obtain ⟨q40, hAq40, hcq40⟩ := Rd.num (ho1_0 _ (hZp0 _ hM.kept)) (i := 1) (by omega) (by have h_ := of_decide_eq_true c41; omega)
                refine RunAny.y 7 (by kernel_rfl) (idx_y (d := some 98) (A := Ao1_0) (m := a0.1.length) (i := 1) (k2 := [.inRegion (opsOf (pl Go.Proofs.Try.f32 [1, 1, 1, 1, 0])) []]) (by kernel_rfl) (by omega) (by have h_ := of_decide_eq_true c41; omega) hAq40) (fun _ _ => trivial) hS ?_
                refine RunAny.y 8 (by kernel_rfl) (ld_y (d := some 99) (p := (q40.add (1 : Int).toNat)) (k2 := [.inRegion (opsOf (pl Go.Proofs.Try.f32 [1, 1, 1, 1, 0])) []]) (.int .u32 (rd a0.1 1)) (by kernel_rfl)) (fun _ hs => hs.cell hcq40 (by simp)) hS ?_
                refine RunAny.y 9 (by kernel_rfl) (yl_pure (d := some 100) (v := .int .u32 (U32 (x2_1 - (rd a0.1 1)))) (k2 := [.inRegion (opsOf (pl Go.Proofs.Try.f32 [1, 1, 1, 1, 0])) []]) fun w => by kernel_rfl) (fun _ _ => trivial) hS ?_
                refine RunAny.y 10 (by kernel_rfl) (yl_pure (d := some 8) (v := .int .u32 (U32 (x1_1 - (rd a0.1 0)))) (k2 := [.inRegion (opsOf (pl Go.Proofs.Try.f32 [1, 1, 1, 1, 0])) []]) fun w => by kernel_rfl) (fun _ _ => trivial) hS ?_
                refine RunAny.y 11 (by kernel_rfl) (yl_pure (d := some 9) (v := .int .u32 (U32 (x2_1 - (rd a0.1 1)))) (k2 := [.inRegion (opsOf (pl Go.Proofs.Try.f32 [1, 1, 1, 1, 0])) []]) fun w => by kernel_rfl) (fun _ _ => trivial) hS ?_
                refine RunAny.done (by kernel_rfl) ?_
                clear hS
                obtain rfl := Option.some.inj h
                exact RunF.ret2 8 9 (.int .u32 (U32 (x1_1 - (rd a0.1 0)))) (.int .u32 (U32 (x2_1 - (rd a0.1 1)))) (fn := Go.Proofs.Try.f32) Go.Proofs.Try.func32 (by kernel_rfl) (by kernel_rfl) (by kernel_rfl) (by kernel_rfl) ⟨_, rfl, rfl, (hM.pick [] rfl rfl)⟩
              · replace h := of_false h c41
                cases h
            · replace h := of_false h c39
              cases h
    exact l1 k (Nat.le_refl _) a1 a2 24 _ (hM.pick [] rfl rfl) h

/-! ### slices.Grow[[]byte,byte]: function 61 -/
def slices_Grow_byte_byte.f (k : Nat) (a1 : Int) : Option (List Int) := if (decide (a1 < 0)) = true then (none) else (if (decide ((I64 (a1 - (I64 (0 - 0)))) > 0)) = true then (if (decide (0 < (I64 (a1 - (I64 (0 - 0)))))) = true then (if (decide ((I64 (a1 - (I64 (0 - 0)))) ≤ 1000000000)) = true then (some ((List.replicate (I64 (a1 - (I64 (0 - 0))) : Int).toNat (0 : Int)).take (0))) else (none)) else (none)) else (some ([] : List Int)))
set_option maxRecDepth 100000 in
theorem slices_Grow_byte_byte.calls (k : Nat) (a1 : Int) (r : List Int) (w : World) (h : slices_Grow_byte_byte.f k a1 = some r) :
    Calls Go.Proofs.Try.prog 61 #[.slice none 0 0, .int .i64 a1] w (Ret fun v w' => ∃ A0' n0' c0', v = .slice A0' n0' c0' ∧ Mem w w' [⟨.slice A0' n0' c0', 5, 1, nums .u8 r⟩]) := by
  unfold slices_Grow_byte_byte.f at h
  refine calls_of [.slice none 0 0, .int .i64 a1] (fn := Go.Proofs.Try.f61) Go.Proofs.Try.func61 (by kernel_rfl) (by kernel_rfl) ?_
  have hM := Mem.refl w
  refine RunF.go 10 [0, 1, 6] (k' := (pl Go.Proofs.Try.f61 [1, 0, 1])) (L' := [(0, .slice none 0 0), (1, .int .i64 a1), (6, .bool (decide (a1 < 0)))]) (w' := w) (by kernel_rfl) ?_
  rcases two (decide (a1 < 0)) with c1 | c1
  · replace h := of_true h c1
    refine RunF.know 6 (b := true) (by kernel_rfl) c1 ?_
    refine RunF.go 2 [0, 1] (k' := (pin Go.Proofs.Try.f61 [1, 0, 1, 0] 0)) (L' := [(0, .slice none 0 0), (1, .int .i64 a1)]) (w' := w) (by kernel_rfl) ?_
    cases h
  · replace h := of_false h c1
    refine RunF.know 6 (b := false) (by kernel_rfl) c1 ?_
    refine RunF.go 19 [0, 1, 16] (k' := (pl Go.Proofs.Try.f61 [1, 1, 0, 1, 1])) (L' := [(0, .slice none 0 0), (1, .int .i64 (I64 (a1 - (I64 (0 - 0))))), (16, .bool (decide ((I64 (a1 - (I64 (0 - 0)))) > 0)))]) (w' := w) (by kernel_rfl) ?_
    rcases two (decide ((I64 (a1 - (I64 (0 - 0)))) > 0)) with c2 | c2
    · replace h := of_true h c2
      refine RunF.know 16 (b := true) (by kernel_rfl) c2 ?_
      refine RunF.go 5 [0, 1, 17, 19] (k' := (pin Go.Proofs.Try.f61 [1, 1, 0, 1, 1, 0] 3)) (L' := [(0, .slice none 0 0), (1, .int .i64 (I64 (a1 - (I64 (0 - 0))))), (17, .slice none 0 0), (19, .int .i64 0)]) (w' := w) (by kernel_rfl) ?_
      refine RunF.y (reslice_y (d := some 20) (A := none) (m := 0) (c := 0) (h := 0) (k2 := (pin Go.Proofs.Try.f61 [1, 1, 0, 1, 1, 0] 4)) (by kernel_rfl) (by decide) (by decide) (by decide)) trivial ?_
      refine RunF.go 1 [0, 20, 21] (k' := (pin Go.Proofs.Try.f61 [1, 1, 0, 1, 1, 0] 5)) (L' := [(0, .slice none 0 0), (20, .slice none 0 0), (21, .int .i64 (I64 (a1 - (I64 (0 - 0)))))]) (w' := w) (by kernel_rfl) ?_
      rcases two (decide (0 < (I64 (a1 - (I64 (0 - 0)))))) with c6 | c6
      · replace h := of_true h c6
        rcases two (decide ((I64 (a1 - (I64 (0 - 0)))) ≤ 1000000000)) with c7 | c7
        · replace h := of_true h c7
          obtain ⟨g3, c4, W5, hD, hM'⟩ := apz_does (P := Go.Proofs.Try.prog) (n := 27) (k := (pin Go.Proofs.Try.f61 [1, 1, 0, 1, 1, 0] 5)) (L := [(0, .slice none 0 0), (20, .slice none 0 0), (21, .int .i64 (I64 (a1 - (I64 (0 - 0)))))]) (d := some 22) (e := 5) (z := .int .u8 0) (i := I64 (a1 - (I64 (0 - 0)))) (k2 := (pin Go.Proofs.Try.f61 [1, 1, 0, 1, 1, 0] 6)) (by kernel_rfl) (of_decide_eq_true c6) (of_decide_eq_true c7) hM
          rw [rep_nums] at hM'
          refine RunF.does hD ?_
          replace hM := hM'; clear hD hM'
          refine RunF.go 2 [22, 24] (k' := (pin Go.Proofs.Try.f61 [1, 1, 0, 1, 1, 0] 8)) (L' := [(22, .slice (some ⟨g3, 0, none⟩) ((I64 (a1 - (I64 (0 - 0))) : Int).toNat) c4), (24, .int .i64 0)]) (w' := W5) (by kernel_rfl) ?_
          refine RunF.y (reslice_y (d := some 25) (A := (some ⟨g3, 0, none⟩)) (m := (I64 (a1 - (I64 (0 - 0))) : Int).toNat) (c := c4) (h := 0) (k2 := (pin Go.Proofs.Try.f61 [1, 1, 0, 1, 1, 0] 9)) (by kernel_rfl) (by omega) (by omega) (own_le (hM.ok _ (List.mem_of_getElem? (i := 0) rfl)).1).2.1) trivial ?_
          replace hM := Mem.reslice [] [] (ty := 5) (A := (some ⟨g3, 0, none⟩)) (m := (I64 (a1 - (I64 (0 - 0))) : Int).toNat) (c := c4) (cs := nums .u8 (List.replicate (I64 (a1 - (I64 (0 - 0))) : Int).toNat (0 : Int))) (hM.pick [0] rfl rfl) (0 : Int).toNat (by have h_ : 0 ≤ ((I64 (a1 - (I64 (0 - 0))) : Int).toNat : Int) := (by omega); omega)
          rw [nums_take] at hM
          refine RunF.go 7 [4] (k' := (pl Go.Proofs.Try.f61 [1, 1, 1, 1])) (L' := [(4, .slice (some ⟨g3, 0, none⟩) 0 c4)]) (w' := W5) (by kernel_rfl) ?_
          obtain rfl := Option.some.inj h
          exact RunF.ret1 4 (.slice (some ⟨g3, 0, none⟩) 0 c4) (fn := Go.Proofs.Try.f61) Go.Proofs.Try.func61 (by kernel_rfl) (by kernel_rfl) (by kernel_rfl) ⟨_, rfl, (some ⟨g3, 0, none⟩), 0, c4, rfl, (hM.pick [0] rfl rfl)⟩
        · replace h := of_false h c7
          cases h
      · replace h := of_false h c6
        cases h
    · replace h := of_false h c2
      refine RunF.know 16 (b := false) (by kernel_rfl) c2 ?_
      refine RunF.go 7 [4] (k' := (pl Go.Proofs.Try.f61 [1, 1, 1, 1])) (L' := [(4, .slice none 0 0)]) (w' := w) (by kernel_rfl) ?_
      replace hM := hM.nil 5
      obtain rfl := Option.some.inj h
      exact RunF.ret1 4 (.slice none 0 0) (fn := Go.Proofs.Try.f61) Go.Proofs.Try.func61 (by kernel_rfl) (by kernel_rfl) (by kernel_rfl) ⟨_, rfl, none, 0, 0, rfl, (hM.pick [0] rfl rfl)⟩


end Go.Scr.S
