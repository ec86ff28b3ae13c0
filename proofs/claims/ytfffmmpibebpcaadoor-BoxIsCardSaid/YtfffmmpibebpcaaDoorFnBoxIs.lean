/- The functions that the law BoxIs reaches, as plain functions, and that each call answers so. -/
import Derived.Test.YtfffmmpibebpcaaDoorProg
import Derived.Test.YtfffmmpibebpcaaDoorXDeep3
set_option linter.unusedVariables false
set_option linter.unusedSimpArgs false
set_option linter.unnecessarySimpa false
namespace Go.Scr.S
open Go.RowKit (Below)

/-! ### scrim/box.seen: function 25 -/
def box_seen.l0 : Nat → (List Int) → (List Bool) → Int → Option (List Bool)
  | 0, _, _, _ => none
  | k + 1, a0, x2_0, x7_0 => if (decide (x7_0 < (a0.length : Int))) = true then (if (decide (0 ≤ x7_0)) = true then (if (decide (x7_0 < (a0.length : Int))) = true then (if (decide (0 ≤ (rd a0 x7_0))) = true then (if (decide ((rd a0 x7_0) < (256 : Int))) = true then (box_seen.l0 k a0 (x2_0.set (rd a0 x7_0 : Int).toNat true) (I64 (x7_0 + 1))) else (none)) else (none)) else (none)) else (none)) else (some x2_0)
def box_seen.f (k : Nat) (a0 : List Int) : Option (List Bool) := box_seen.l0 k a0 (List.replicate 256 false) 0
set_option maxRecDepth 100000 in
theorem box_seen.calls (k : Nat) (Ap0 : Option Addr) (np0 cp0 : Nat) (a0 : List Int) (r : List Bool) (w : World) (hr0 : Rd w (.slice Ap0 np0 cp0) (nums .u8 a0)) (h : box_seen.f k a0 = some r) :
    Calls Go.Proofs.Tryd.prog 25 #[(.slice Ap0 np0 cp0)] w (Ret fun v w' => v = .agg (bools r).toArray ∧ r.length = 256 ∧ Mem w w' []) := by
  obtain rfl : a0.length = np0 := by have h_ := hr0.1; simpa [nums_length, bools_length, strs_length] using h_
  unfold box_seen.f at h
  refine calls_of [.slice Ap0 a0.length cp0] (fn := Go.Proofs.Tryd.f25) Go.Proofs.Tryd.func25 (by kernel_rfl) (by kernel_rfl) ?_
  have hM := Mem.refl w
  refine RunF.go 2 [0] (k' := (pin Go.Proofs.Tryd.f25 [0] 0)) (L' := [(0, .slice Ap0 a0.length cp0)]) (w' := w) (by kernel_rfl) ?_
  refine RunF.newVar 47 (bools (List.replicate 256 false)) (d := some 2) (k2 := (pin Go.Proofs.Tryd.f25 [0] 1)) hM (by kernel_rfl) ?_
  intro g1 W2 hM
  refine RunF.go 10 [2, 5, 6, 7] (k' := (pl Go.Proofs.Tryd.f25 [1, 0, 1, 0, 0])) (L' := [(2, .pointer (some ⟨g1, 0, none⟩)), (5, .slice Ap0 a0.length cp0), (6, .int .i64 (a0.length : Int)), (7, .int .i64 0)]) (w' := W2) (by kernel_rfl) ?_
  have l0 : ∀ (k_ : Nat), k_ ≤ k → ∀ (x2_0 : List Bool) (x7_0 : Int) (W : World) (hM : Mem w W [⟨.pointer (some ⟨g1, 0, none⟩), 47, 0, bools x2_0⟩]) (hlx2_0 : x2_0.length = 256) (h : box_seen.l0 k_ a0 x2_0 x7_0 = some r), RunF Go.Proofs.Tryd.prog (Ret fun v w' => v = .agg (bools r).toArray ∧ r.length = 256 ∧ Mem w w' []) 25 (pl Go.Proofs.Tryd.f25 [1, 0, 1, 0, 0]) 15 [(2, .pointer (some ⟨g1, 0, none⟩)), (5, .slice Ap0 a0.length cp0), (6, .int .i64 (a0.length : Int)), (7, .int .i64 x7_0)] W := by
    intro k_
    induction k_ using Nat.strongRecOn with
    | _ k_ ih0 =>
      intro hk x2_0 x7_0 W hM hlx2_0 h
      cases k_ with
      | zero => exact absurd h (by simp [box_seen.l0])
      | succ k =>
        simp only [box_seen.l0] at h
        replace ih0 : ∀ m, m ≤ k → _ := fun m hm => ih0 m (by omega) (by omega)
        refine RunF.go 5 [2, 5, 6, 7, 8] (k' := (pl Go.Proofs.Tryd.f25 [1, 0, 1, 0, 0, 1, 0])) (L' := [(2, .pointer (some ⟨g1, 0, none⟩)), (5, .slice Ap0 a0.length cp0), (6, .int .i64 (a0.length : Int)), (7, .int .i64 x7_0), (8, .bool (decide (x7_0 < (a0.length : Int))))]) (w' := W) (by kernel_rfl) ?_
        rcases two (decide (x7_0 < (a0.length : Int))) with c4 | c4
        · replace h := of_true h c4
          refine RunF.know 8 (b := true) (by kernel_rfl) c4 ?_
          refine RunF.go 6 [2, 5, 6, 7] (k' := (pin Go.Proofs.Tryd.f25 [1, 0, 1, 0, 0, 1, 1, 0, 0, 0] 0)) (L' := [(2, .pointer (some ⟨g1, 0, none⟩)), (5, .slice Ap0 a0.length cp0), (6, .int .i64 (a0.length : Int)), (7, .int .i64 x7_0)]) (w' := W) (by kernel_rfl) ?_
          rcases two (decide (0 ≤ x7_0)) with c6 | c6
          · replace h := of_true h c6
            rcases two (decide (x7_0 < (a0.length : Int))) with c7 | c7
            · replace h := of_true h c7
              obtain ⟨q5, hAq5, hcq5⟩ := Rd.num (hr0.mono hM.below) (i := x7_0) (of_decide_eq_true c6) (by have h_ := of_decide_eq_true c7; omega)
              refine RunF.y (idx_y (d := some 9) (A := Ap0) (m := a0.length) (i := x7_0) (k2 := (pin Go.Proofs.Tryd.f25 [1, 0, 1, 0, 0, 1, 1, 0, 0, 0] 1)) (by kernel_rfl) (of_decide_eq_true c6) (by have h_ := of_decide_eq_true c7; omega) hAq5) trivial ?_
              refine RunF.y (ld_y (d := some 10) (p := (q5.add (x7_0 : Int).toNat)) (k2 := (pin Go.Proofs.Tryd.f25 [1, 0, 1, 0, 0, 1, 1, 0, 0, 0] 2)) (.int .u8 (rd a0 x7_0)) (by kernel_rfl)) hcq5 ?_
              refine RunF.go 4 [2, 5, 6, 7, 11] (k' := (pin Go.Proofs.Tryd.f25 [1, 0, 1, 0, 0, 1, 1, 0, 0, 1] 1)) (L' := [(2, .pointer (some ⟨g1, 0, none⟩)), (5, .slice Ap0 a0.length cp0), (6, .int .i64 (a0.length : Int)), (7, .int .i64 x7_0), (11, .int .u8 (rd a0 x7_0))]) (w' := W) (by kernel_rfl) ?_
              rcases two (decide (0 ≤ (rd a0 x7_0))) with c9 | c9
              · replace h := of_true h c9
                rcases two (decide ((rd a0 x7_0) < (256 : Int))) with c10 | c10
                · replace h := of_true h c10
                  obtain ⟨hcq8, hfq8, hlq8⟩ := hM.arr_bool 0 rfl (i := rd a0 x7_0) (of_decide_eq_true c9) (N := 256) hlx2_0 (of_decide_eq_true c10)
                  refine RunF.y (idxArr_own (d := some 12) (g := g1) (len := 256) (i := rd a0 x7_0) (k2 := (pin Go.Proofs.Tryd.f25 [1, 0, 1, 0, 0, 1, 1, 0, 0, 1] 2)) (by kernel_rfl) (of_decide_eq_true c9) (of_decide_eq_true c10)) trivial ?_
                  obtain ⟨hc_, hf_, hl_⟩ := hM.arr_bool 0 rfl (i := rd a0 x7_0) (of_decide_eq_true c9) (N := 256) hlx2_0 (of_decide_eq_true c10)
                  refine RunF.doesU (st_u (p := (⟨g1, (rd a0 x7_0 : Int).toNat, none⟩ : Addr)) (v := .bool true) (k2 := (pin Go.Proofs.Tryd.f25 [1, 0, 1, 0, 0, 1, 1, 0, 0, 1] 3)) (by kernel_rfl) hc_ hf_) ?_
                  replace hM : Mem w (W.setCell (⟨g1, (rd a0 x7_0 : Int).toNat, none⟩ : Addr) (.bool true)) [⟨.pointer (some ⟨g1, 0, none⟩), 47, 0, bools (x2_0.set (rd a0 x7_0 : Int).toNat true)⟩] := Mem.arr_put_bool [] [] (hM.pick [0] rfl rfl) _ hl_ _
                  generalize W.setCell (⟨g1, (rd a0 x7_0 : Int).toNat, none⟩ : Addr) (.bool true) = W11 at hM ⊢
                  clear hc_ hf_ hl_ hcq8 hfq8 hlq8
                  refine RunF.go 7 [2, 5, 6, 7] (k' := (pl Go.Proofs.Tryd.f25 [1, 0, 1, 0, 0])) (L' := [(2, .pointer (some ⟨g1, 0, none⟩)), (5, .slice Ap0 a0.length cp0), (6, .int .i64 (a0.length : Int)), (7, .int .i64 (I64 (x7_0 + 1)))]) (w' := W11) (by kernel_rfl) ?_
                  exact ih0 k (by omega) (x2_0.set (rd a0 x7_0 : Int).toNat true) (I64 (x7_0 + 1)) _ (hM.pick [0] rfl rfl) (List.length_set.trans hlx2_0) h
                · replace h := of_false h c10
                  cases h
              · replace h := of_false h c9
                cases h
            · replace h := of_false h c7
              cases h
          · replace h := of_false h c6
            cases h
        · replace h := of_false h c4
          refine RunF.know 8 (b := false) (by kernel_rfl) c4 ?_
          refine RunF.go 4 [2] (k' := (pin Go.Proofs.Tryd.f25 [1, 1, 0] 0)) (L' := [(2, .pointer (some ⟨g1, 0, none⟩))]) (w' := W) (by kernel_rfl) ?_
          refine RunF.y (ldv_y (d := some 14) (g := g1) (N := 256) (ty := 47) (k2 := (pin Go.Proofs.Tryd.f25 [1, 1, 0] 1)) (bools x2_0) (by kernel_rfl) (by simp only [nums_length, bools_length, strs_length]; exact hlx2_0)) (hM.block 0 rfl) ?_
          refine RunF.doesU (stv_u (N := 256) (cells := (bools x2_0).toArray) (old := (bools x2_0).toArray) (ty := 47) (k2 := (pin Go.Proofs.Tryd.f25 [1, 1, 0] 2)) (by kernel_rfl) (by rw [List.size_toArray]; simp only [nums_length, bools_length, strs_length]; exact hlx2_0) (hM.block 0 rfl) (by rw [List.size_toArray]; simp only [nums_length, bools_length, strs_length]; exact hlx2_0) (all_bools _)) ?_
          replace hM : Mem w (W.setRow g1 (bools x2_0).toArray) [⟨.pointer (some ⟨g1, 0, none⟩), 47, 0, bools x2_0⟩] := Mem.setAll [] [] (hM.pick [0] rfl rfl)
          generalize W.setRow g1 (bools x2_0).toArray = W12 at hM ⊢
          refine RunF.go 1 [2] (k' := (pl Go.Proofs.Tryd.f25 [1, 1, 1])) (L' := [(2, .pointer (some ⟨g1, 0, none⟩))]) (w' := W12) (by kernel_rfl) ?_
          obtain rfl := Option.some.inj h
          exact RunF.retc (t := 2) (ty := 47) (N := 256) (g := g1) (bools x2_0) (fn := Go.Proofs.Tryd.f25) Go.Proofs.Tryd.func25 (by kernel_rfl) (by kernel_rfl) (by kernel_rfl) (by kernel_rfl) (by simp only [nums_length, bools_length, strs_length]; exact hlx2_0) (hM.block 0 rfl) ⟨_, rfl, rfl, hlx2_0, (hM.pick [] rfl rfl)⟩
  exact l0 k (Nat.le_refl _) (List.replicate 256 false) 0 _ (hM.pick [0] rfl rfl) List.length_replicate h

/-! ### scrim/box.Is: function 17 -/
def box_Is.l0 : Nat → (List Int) → (List Bool) → Int → Option (Bool)
  | 0, _, _, _ => none
  | k + 1, a0, x3_0, x10_0 => if (decide (x10_0 < (a0.length : Int))) = true then (if (decide (0 ≤ x10_0)) = true then (if (decide (x10_0 < (256 : Int))) = true then (box_Is.l0 k a0 (x3_0.set (x10_0 : Int).toNat true) (I64 (x10_0 + 1))) else (none)) else (none)) else ((box_seen.f k a0).bind fun t13 => (some (t13 == x3_0)))
def box_Is.f (k : Nat) (a0 : List Int) : Option (Bool) := if (decide ((a0.length : Int) > 256)) = true then (some false) else (box_Is.l0 k a0 (List.replicate 256 false) 0)
set_option maxRecDepth 100000 in
theorem box_Is.calls (k : Nat) (Ap0 : Option Addr) (np0 cp0 : Nat) (a0 : List Int) (r : Bool) (w : World) (hr0 : Rd w (.slice Ap0 np0 cp0) (nums .u8 a0)) (h : box_Is.f k a0 = some r) :
    Calls Go.Proofs.Tryd.prog 17 #[(.slice Ap0 np0 cp0)] w (Ret fun v w' => v = .bool r ∧ Mem w w' []) := by
  obtain rfl : a0.length = np0 := by have h_ := hr0.1; simpa [nums_length, bools_length, strs_length] using h_
  unfold box_Is.f at h
  refine calls_of [.slice Ap0 a0.length cp0] (fn := Go.Proofs.Tryd.f17) Go.Proofs.Tryd.func17 (by kernel_rfl) (by kernel_rfl) ?_
  have hM := Mem.refl w
  refine RunF.go 11 [0, 7] (k' := (pl Go.Proofs.Tryd.f17 [1, 0, 1])) (L' := [(0, .slice Ap0 a0.length cp0), (7, .bool (decide ((a0.length : Int) > 256)))]) (w' := w) (by kernel_rfl) ?_
  rcases two (decide ((a0.length : Int) > 256)) with c1 | c1
  · replace h := of_true h c1
    refine RunF.know 7 (b := true) (by kernel_rfl) c1 ?_
    refine RunF.go 5 [2] (k' := (pl Go.Proofs.Tryd.f17 [1, 0, 1, 0, 1])) (L' := [(2, .bool false)]) (w' := w) (by kernel_rfl) ?_
    obtain rfl := Option.some.inj h
    exact RunF.ret1 2 (.bool false) (fn := Go.Proofs.Tryd.f17) Go.Proofs.Tryd.func17 (by kernel_rfl) (by kernel_rfl) (by kernel_rfl) ⟨_, rfl, rfl, (hM.pick [] rfl rfl)⟩
  · replace h := of_false h c1
    refine RunF.know 7 (b := false) (by kernel_rfl) c1 ?_
    refine RunF.go 4 [0] (k' := (pin Go.Proofs.Tryd.f17 [1, 1, 0] 0)) (L' := [(0, .slice Ap0 a0.length cp0)]) (w' := w) (by kernel_rfl) ?_
    refine RunF.newVar 47 (bools (List.replicate 256 false)) (d := some 3) (k2 := (pin Go.Proofs.Tryd.f17 [1, 1, 0] 1)) hM (by kernel_rfl) ?_
    intro g2 W3 hM
    refine RunF.go 10 [0, 3, 9, 10] (k' := (pl Go.Proofs.Tryd.f17 [1, 1, 1, 0, 1, 0, 0])) (L' := [(0, .slice Ap0 a0.length cp0), (3, .pointer (some ⟨g2, 0, none⟩)), (9, .int .i64 (a0.length : Int)), (10, .int .i64 0)]) (w' := W3) (by kernel_rfl) ?_
    have l0 : ∀ (k_ : Nat), k_ ≤ k → ∀ (x3_0 : List Bool) (x10_0 : Int) (W : World) (hM : Mem w W [⟨.pointer (some ⟨g2, 0, none⟩), 47, 0, bools x3_0⟩]) (hlx3_0 : x3_0.length = 256) (h : box_Is.l0 k_ a0 x3_0 x10_0 = some r), RunF Go.Proofs.Tryd.prog (Ret fun v w' => v = .bool r ∧ Mem w w' []) 17 (pl Go.Proofs.Tryd.f17 [1, 1, 1, 0, 1, 0, 0]) 20 [(0, .slice Ap0 a0.length cp0), (3, .pointer (some ⟨g2, 0, none⟩)), (9, .int .i64 (a0.length : Int)), (10, .int .i64 x10_0)] W := by
      intro k_
      induction k_ using Nat.strongRecOn with
      | _ k_ ih0 =>
        intro hk x3_0 x10_0 W hM hlx3_0 h
        cases k_ with
        | zero => exact absurd h (by simp [box_Is.l0])
        | succ k =>
          simp only [box_Is.l0] at h
          replace ih0 : ∀ m, m ≤ k → _ := fun m hm => ih0 m (by omega) (by omega)
          refine RunF.go 5 [0, 3, 9, 10, 11] (k' := (pl Go.Proofs.Tryd.f17 [1, 1, 1, 0, 1, 0, 0, 1, 0])) (L' := [(0, .slice Ap0 a0.length cp0), (3, .pointer (some ⟨g2, 0, none⟩)), (9, .int .i64 (a0.length : Int)), (10, .int .i64 x10_0), (11, .bool (decide (x10_0 < (a0.length : Int))))]) (w' := W) (by kernel_rfl) ?_
          rcases two (decide (x10_0 < (a0.length : Int))) with c5 | c5
          · replace h := of_true h c5
            refine RunF.know 11 (b := true) (by kernel_rfl) c5 ?_
            refine RunF.go 11 [0, 3, 9, 10, 13] (k' := (pin Go.Proofs.Tryd.f17 [1, 1, 1, 0, 1, 0, 0, 1, 1, 0, 0, 1] 1)) (L' := [(0, .slice Ap0 a0.length cp0), (3, .pointer (some ⟨g2, 0, none⟩)), (9, .int .i64 (a0.length : Int)), (10, .int .i64 x10_0), (13, .int .i64 x10_0)]) (w' := W) (by kernel_rfl) ?_
            rcases two (decide (0 ≤ x10_0)) with c7 | c7
            · replace h := of_true h c7
              rcases two (decide (x10_0 < (256 : Int))) with c8 | c8
              · replace h := of_true h c8
                obtain ⟨hcq6, hfq6, hlq6⟩ := hM.arr_bool 0 rfl (i := x10_0) (of_decide_eq_true c7) (N := 256) hlx3_0 (of_decide_eq_true c8)
                refine RunF.y (idxArr_own (d := some 14) (g := g2) (len := 256) (i := x10_0) (k2 := (pin Go.Proofs.Tryd.f17 [1, 1, 1, 0, 1, 0, 0, 1, 1, 0, 0, 1] 2)) (by kernel_rfl) (of_decide_eq_true c7) (of_decide_eq_true c8)) trivial ?_
                obtain ⟨hc_, hf_, hl_⟩ := hM.arr_bool 0 rfl (i := x10_0) (of_decide_eq_true c7) (N := 256) hlx3_0 (of_decide_eq_true c8)
                refine RunF.doesU (st_u (p := (⟨g2, (x10_0 : Int).toNat, none⟩ : Addr)) (v := .bool true) (k2 := (pin Go.Proofs.Tryd.f17 [1, 1, 1, 0, 1, 0, 0, 1, 1, 0, 0, 1] 3)) (by kernel_rfl) hc_ hf_) ?_
                replace hM : Mem w (W.setCell (⟨g2, (x10_0 : Int).toNat, none⟩ : Addr) (.bool true)) [⟨.pointer (some ⟨g2, 0, none⟩), 47, 0, bools (x3_0.set (x10_0 : Int).toNat true)⟩] := Mem.arr_put_bool [] [] (hM.pick [0] rfl rfl) _ hl_ _
                generalize W.setCell (⟨g2, (x10_0 : Int).toNat, none⟩ : Addr) (.bool true) = W9 at hM ⊢
                clear hc_ hf_ hl_ hcq6 hfq6 hlq6
                refine RunF.go 7 [0, 3, 9, 10] (k' := (pl Go.Proofs.Tryd.f17 [1, 1, 1, 0, 1, 0, 0])) (L' := [(0, .slice Ap0 a0.length cp0), (3, .pointer (some ⟨g2, 0, none⟩)), (9, .int .i64 (a0.length : Int)), (10, .int .i64 (I64 (x10_0 + 1)))]) (w' := W9) (by kernel_rfl) ?_
                exact ih0 k (by omega) (x3_0.set (x10_0 : Int).toNat true) (I64 (x10_0 + 1)) _ (hM.pick [0] rfl rfl) (List.length_set.trans hlx3_0) h
              · replace h := of_false h c8
                cases h
            · replace h := of_false h c7
              cases h
          · replace h := of_false h c5
            refine RunF.know 11 (b := false) (by kernel_rfl) c5 ?_
            refine RunF.go 3 [0, 3] (k' := (pl Go.Proofs.Tryd.f17 [1, 1, 1, 1, 0])) (L' := [(0, .slice Ap0 a0.length cp0), (3, .pointer (some ⟨g2, 0, none⟩))]) (w' := W) (by kernel_rfl) ?_
            refine RunF.draw (Still ({ W with drawn := W.drawn + 1 } : World) []) (by kernel_rfl) (by kernel_rfl) ?_
            have hMd11 := hM.drew
            have hS := Still.refl ({ W with drawn := W.drawn + 1 } : World) []
            generalize ({ W with drawn := W.drawn + 1 } : World) = W10 at hMd11 hS ⊢
            replace hM := hMd11
            refine RunAny.y 0 (by kernel_rfl) (yl_pure (d := some 16) (v := .slice Ap0 a0.length cp0) (k2 := [.inRegion (opsOf (pl Go.Proofs.Tryd.f17 [1, 1, 1, 1, 0])) []]) fun w => by kernel_rfl) (fun _ _ => trivial) hS ?_
            refine RunAny.y 2 (by kernel_rfl) (ldv_y (d := some 18) (g := g2) (N := 256) (ty := 47) (k2 := [.inRegion (opsOf (pl Go.Proofs.Tryd.f17 [1, 1, 1, 1, 0])) []]) (bools x3_0) (by kernel_rfl) (by simp only [nums_length, bools_length, strs_length]; exact hlx3_0)) (fun _ hs => hs.block (hM.block 0 rfl) (by simp)) hS ?_
            obtain ⟨t13, ht13, h⟩ := Option.bind_eq_some_iff.mp h
            refine RunAny.call 1 (d := some 17) (g := 25) (args := #[.slice Ap0 a0.length cp0]) (by kernel_rfl) (by kernel_rfl) (box_seen.calls k Ap0 a0.length cp0 a0 t13 _ (hr0.mono hM.below) ht13) (by rintro _ _ ⟨rfl, _, hM_⟩; exact hS.below hM_.below) ?_
            rintro _ W12 ⟨rfl, hNt13_0, hM_⟩
            replace hS := hS.below hM_.below
            replace hM := hM.call hM_
            clear hM_ ht13
            refine RunAny.rebase hS ?_
            replace hS := Still.refl W12 []
            refine RunAny.y 3 (by kernel_rfl) (eqArr_y (d := some 19) (xs := t13) (ys := x3_0) (N := 256) (k2 := [.inRegion (opsOf (pl Go.Proofs.Tryd.f17 [1, 1, 1, 1, 0])) []]) (by kernel_rfl) hNt13_0 hlx3_0) (fun _ _ => trivial) hS ?_
            refine RunAny.y 4 (by kernel_rfl) (yl_pure (d := some 2) (v := .bool (t13 == x3_0)) (k2 := [.inRegion (opsOf (pl Go.Proofs.Tryd.f17 [1, 1, 1, 1, 0])) []]) fun w => by kernel_rfl) (fun _ _ => trivial) hS ?_
            refine RunAny.done (by kernel_rfl) ?_
            clear hS
            obtain rfl := Option.some.inj h
            exact RunF.ret1 2 (.bool (t13 == x3_0)) (fn := Go.Proofs.Tryd.f17) Go.Proofs.Tryd.func17 (by kernel_rfl) (by kernel_rfl) (by kernel_rfl) ⟨_, rfl, rfl, (hM.pick [] rfl rfl)⟩
    exact l0 k (Nat.le_refl _) (List.replicate 256 false) 0 _ (hM.pick [0] rfl rfl) List.length_replicate h

/-! ### scrim/box.Back: function 15 -/
def box_Back.l0 : Nat → (List Int) → (List Int) → Int → Option (List Int × Bool)
  | 0, _, _, _ => none
  | k + 1, a0, x4_0, x15_0 => if (decide (x15_0 < (a0.length : Int))) = true then (if (decide (0 ≤ x15_0)) = true then (if (decide (x15_0 < (a0.length : Int))) = true then (if (decide (0 ≤ (rd a0 x15_0))) = true then (if (decide ((rd a0 x15_0) < (((a0.length : Int)).toNat : Int))) = true then (box_Back.l0 k a0 (x4_0.set (rd a0 x15_0 : Int).toNat (U8 (x15_0))) (I64 (x15_0 + 1))) else (none)) else (none)) else (none)) else (none)) else (some (x4_0, true))
def box_Back.f (k : Nat) (a0 : List Int) : Option (List Int × Bool) := (box_Is.f k a0).bind fun t2 => (if (!t2) = true then (some (([] : List Int), false)) else (if (decide (0 ≤ (a0.length : Int))) = true then (if (decide ((a0.length : Int) ≤ 1000000000)) = true then (box_Back.l0 k a0 (List.replicate (((a0.length : Int)).toNat) (0 : Int)) 0) else (none)) else (none)))
set_option maxRecDepth 100000 in
theorem box_Back.calls (k : Nat) (Ap0 : Option Addr) (np0 cp0 : Nat) (a0 : List Int) (r : List Int × Bool) (w : World) (hr0 : Rd w (.slice Ap0 np0 cp0) (nums .u8 a0)) (h : box_Back.f k a0 = some r) :
    Calls Go.Proofs.Tryd.prog 15 #[(.slice Ap0 np0 cp0)] w (Ret fun v w' => ∃ A0' n0' c0', v = .tuple #[.slice A0' n0' c0', .bool r.2] ∧ Mem w w' [⟨.slice A0' n0' c0', 5, 1, nums .u8 r.1⟩]) := by
  obtain rfl : a0.length = np0 := by have h_ := hr0.1; simpa [nums_length, bools_length, strs_length] using h_
  unfold box_Back.f at h
  refine calls_of [.slice Ap0 a0.length cp0] (fn := Go.Proofs.Tryd.f15) Go.Proofs.Tryd.func15 (by kernel_rfl) (by kernel_rfl) ?_
  have hM := Mem.refl w
  refine RunF.go 9 [0, 7] (k' := (pin Go.Proofs.Tryd.f15 [1, 0, 0] 1)) (L' := [(0, .slice Ap0 a0.length cp0), (7, .slice Ap0 a0.length cp0)]) (w' := w) (by kernel_rfl) ?_
  obtain ⟨t2, ht2, h⟩ := Option.bind_eq_some_iff.mp h
  refine RunF.call (d := some 8) (g := 17) (args := #[.slice Ap0 a0.length cp0]) (k2 := (pin Go.Proofs.Tryd.f15 [1, 0, 0] 2)) (by kernel_rfl) (box_Is.calls k Ap0 a0.length cp0 a0 t2 _ (hr0.mono hM.below) ht2) ?_
  rintro _ W1 ⟨rfl, hM_⟩
  replace hM := hM.call hM_
  clear hM_ ht2
  refine RunF.go 2 [0, 9] (k' := (pl Go.Proofs.Tryd.f15 [1, 0, 1])) (L' := [(0, .slice Ap0 a0.length cp0), (9, .bool (!t2))]) (w' := W1) (by kernel_rfl) ?_
  rcases two (!t2) with c3 | c3
  · replace h := of_true h c3
    refine RunF.know 9 (b := true) (by kernel_rfl) c3 ?_
    refine RunF.go 6 [2, 3] (k' := (pl Go.Proofs.Tryd.f15 [1, 0, 1, 0, 1])) (L' := [(2, .slice none 0 0), (3, .bool false)]) (w' := W1) (by kernel_rfl) ?_
    replace hM := hM.nil 5
    obtain rfl := Option.some.inj h
    exact RunF.ret2 2 3 (.slice none 0 0) (.bool false) (fn := Go.Proofs.Tryd.f15) Go.Proofs.Tryd.func15 (by kernel_rfl) (by kernel_rfl) (by kernel_rfl) (by kernel_rfl) ⟨_, rfl, none, 0, 0, rfl, (hM.pick [0] rfl rfl)⟩
  · replace h := of_false h c3
    refine RunF.know 9 (b := false) (by kernel_rfl) c3 ?_
    refine RunF.go 6 [0, 11] (k' := (pin Go.Proofs.Tryd.f15 [1, 1, 0] 2)) (L' := [(0, .slice Ap0 a0.length cp0), (11, .int .i64 (a0.length : Int))]) (w' := W1) (by kernel_rfl) ?_
    rcases two (decide (0 ≤ (a0.length : Int))) with c7 | c7
    · replace h := of_true h c7
      rcases two (decide ((a0.length : Int) ≤ 1000000000)) with c8 | c8
      · replace h := of_true h c8
        have := of_decide_eq_true c7
        have := of_decide_eq_true c8
        obtain ⟨W5, hD, hM', hB_⟩ := mk_does (P := Go.Proofs.Tryd.prog) (n := 27) (k := (pin Go.Proofs.Tryd.f15 [1, 1, 0] 2)) (L := [(0, .slice Ap0 a0.length cp0), (11, .int .i64 (a0.length : Int))]) (d := some 12) (e := 5) (z := .int .u8 0) (l := (a0.length : Int)) (c := (a0.length : Int)) (k2 := (pin Go.Proofs.Tryd.f15 [1, 1, 0] 3)) (by kernel_rfl) (by omega) (by omega) (by omega) hM
        rw [rep_nums] at hM'
        refine RunF.does hD ?_
        replace hM := hM'; clear hD hM'
        generalize W1.heap.size = g6 at hM ⊢
        refine RunF.go 11 [4, 13, 14, 15] (k' := (pl Go.Proofs.Tryd.f15 [1, 1, 1, 0, 1, 0, 0])) (L' := [(4, .slice (some ⟨g6, 0, none⟩) (((a0.length : Int)).toNat) (((a0.length : Int) : Int).toNat)), (13, .slice Ap0 a0.length cp0), (14, .int .i64 (a0.length : Int)), (15, .int .i64 0)]) (w' := W5) (by kernel_rfl) ?_
        have l0 : ∀ (k_ : Nat), k_ ≤ k → ∀ (x4_0 : List Int) (x15_0 : Int) (W : World) (hM : Mem w W [⟨.slice (some ⟨g6, 0, none⟩) (((a0.length : Int)).toNat) (((a0.length : Int) : Int).toNat), 5, 1, nums .u8 x4_0⟩]) (h : box_Back.l0 k_ a0 x4_0 x15_0 = some r), RunF Go.Proofs.Tryd.prog (Ret fun v w' => ∃ A0' n0' c0', v = .tuple #[.slice A0' n0' c0', .bool r.2] ∧ Mem w w' [⟨.slice A0' n0' c0', 5, 1, nums .u8 r.1⟩]) 15 (pl Go.Proofs.Tryd.f15 [1, 1, 1, 0, 1, 0, 0]) 27 [(4, .slice (some ⟨g6, 0, none⟩) (((a0.length : Int)).toNat) (((a0.length : Int) : Int).toNat)), (13, .slice Ap0 a0.length cp0), (14, .int .i64 (a0.length : Int)), (15, .int .i64 x15_0)] W := by
          intro k_
          induction k_ using Nat.strongRecOn with
          | _ k_ ih0 =>
            intro hk x4_0 x15_0 W hM h
            cases k_ with
            | zero => exact absurd h (by simp [box_Back.l0])
            | succ k =>
              simp only [box_Back.l0] at h
              replace ih0 : ∀ m, m ≤ k → _ := fun m hm => ih0 m (by omega) (by omega)
              refine RunF.go 5 [4, 13, 14, 15, 16] (k' := (pl Go.Proofs.Tryd.f15 [1, 1, 1, 0, 1, 0, 0, 1, 0])) (L' := [(4, .slice (some ⟨g6, 0, none⟩) (((a0.length : Int)).toNat) (((a0.length : Int) : Int).toNat)), (13, .slice Ap0 a0.length cp0), (14, .int .i64 (a0.length : Int)), (15, .int .i64 x15_0), (16, .bool (decide (x15_0 < (a0.length : Int))))]) (w' := W) (by kernel_rfl) ?_
              rcases two (decide (x15_0 < (a0.length : Int))) with c10 | c10
              · replace h := of_true h c10
                refine RunF.know 16 (b := true) (by kernel_rfl) c10 ?_
                refine RunF.go 7 [4, 13, 14, 15, 17] (k' := (pin Go.Proofs.Tryd.f15 [1, 1, 1, 0, 1, 0, 0, 1, 1, 0, 0, 0] 1)) (L' := [(4, .slice (some ⟨g6, 0, none⟩) (((a0.length : Int)).toNat) (((a0.length : Int) : Int).toNat)), (13, .slice Ap0 a0.length cp0), (14, .int .i64 (a0.length : Int)), (15, .int .i64 x15_0), (17, .int .i64 x15_0)]) (w' := W) (by kernel_rfl) ?_
                rcases two (decide (0 ≤ x15_0)) with c12 | c12
                · replace h := of_true h c12
                  rcases two (decide (x15_0 < (a0.length : Int))) with c13 | c13
                  · replace h := of_true h c13
                    obtain ⟨q11, hAq11, hcq11⟩ := Rd.num (hr0.mono hM.below) (i := x15_0) (of_decide_eq_true c12) (by have h_ := of_decide_eq_true c13; omega)
                    refine RunF.y (idx_y (d := some 18) (A := Ap0) (m := a0.length) (i := x15_0) (k2 := (pin Go.Proofs.Tryd.f15 [1, 1, 1, 0, 1, 0, 0, 1, 1, 0, 0, 0] 2)) (by kernel_rfl) (of_decide_eq_true c12) (by have h_ := of_decide_eq_true c13; omega) hAq11) trivial ?_
                    refine RunF.y (ld_y (d := some 19) (p := (q11.add (x15_0 : Int).toNat)) (k2 := (pin Go.Proofs.Tryd.f15 [1, 1, 1, 0, 1, 0, 0, 1, 1, 0, 0, 0] 3)) (.int .u8 (rd a0 x15_0)) (by kernel_rfl)) hcq11 ?_
                    refine RunF.go 8 [4, 13, 14, 15, 20, 21, 23] (k' := (pin Go.Proofs.Tryd.f15 [1, 1, 1, 0, 1, 0, 0, 1, 1, 0, 0, 1] 4)) (L' := [(4, .slice (some ⟨g6, 0, none⟩) (((a0.length : Int)).toNat) (((a0.length : Int) : Int).toNat)), (13, .slice Ap0 a0.length cp0), (14, .int .i64 (a0.length : Int)), (15, .int .i64 x15_0), (20, .slice (some ⟨g6, 0, none⟩) (((a0.length : Int)).toNat) (((a0.length : Int) : Int).toNat)), (21, .int .u8 (rd a0 x15_0)), (23, .int .u8 (U8 (x15_0)))]) (w' := W) (by kernel_rfl) ?_
                    rcases two (decide (0 ≤ (rd a0 x15_0))) with c15 | c15
                    · replace h := of_true h c15
                      rcases two (decide ((rd a0 x15_0) < (((a0.length : Int)).toNat : Int))) with c16 | c16
                      · replace h := of_true h c16
                        obtain ⟨q14, hAq14, hcq14, hfq14, hlq14⟩ := hM.num_at 0 rfl (i := rd a0 x15_0) (of_decide_eq_true c15) (by have h_ := of_decide_eq_true c16; omega)
                        refine RunF.y (idx_own (d := some 24) (A := (some ⟨g6, 0, none⟩)) (m := ((a0.length : Int)).toNat) (i := rd a0 x15_0) (k2 := (pin Go.Proofs.Tryd.f15 [1, 1, 1, 0, 1, 0, 0, 1, 1, 0, 0, 1] 5)) (by kernel_rfl) (of_decide_eq_true c15) (by have h_ := of_decide_eq_true c16; omega) hAq14) trivial ?_
                        obtain ⟨g_, hA_, hc_, hf_, hl_⟩ := hM.num_at 0 rfl (i := rd a0 x15_0) (of_decide_eq_true c15) (by have h_ := of_decide_eq_true c16; omega)
                        obtain rfl : q14 = g_ := by rw [hAq14] at hA_; injection hA_ with hA_; injection hA_
                        refine RunF.doesU (st_u (p := (⟨q14, (rd a0 x15_0 : Int).toNat, none⟩ : Addr)) (v := .int .u8 (U8 (x15_0))) (k2 := (pin Go.Proofs.Tryd.f15 [1, 1, 1, 0, 1, 0, 0, 1, 1, 0, 0, 1] 6)) (by kernel_rfl) hc_ hf_) ?_
                        replace hM : Mem w (W.setCell (⟨q14, (rd a0 x15_0 : Int).toNat, none⟩ : Addr) (.int .u8 (U8 (x15_0)))) [⟨.slice (some ⟨g6, 0, none⟩) (((a0.length : Int)).toNat) (((a0.length : Int) : Int).toNat), 5, 1, nums .u8 (x4_0.set (rd a0 x15_0 : Int).toNat (U8 (x15_0)))⟩] := Mem.put_num [] [] (hM.pick [0] rfl rfl) hAq14 _ hl_ _
                        generalize W.setCell (⟨q14, (rd a0 x15_0 : Int).toNat, none⟩ : Addr) (.int .u8 (U8 (x15_0))) = W17 at hM ⊢
                        clear hc_ hf_ hl_ hA_ hcq14
                        refine RunF.go 7 [4, 13, 14, 15] (k' := (pl Go.Proofs.Tryd.f15 [1, 1, 1, 0, 1, 0, 0])) (L' := [(4, .slice (some ⟨g6, 0, none⟩) (((a0.length : Int)).toNat) (((a0.length : Int) : Int).toNat)), (13, .slice Ap0 a0.length cp0), (14, .int .i64 (a0.length : Int)), (15, .int .i64 (I64 (x15_0 + 1)))]) (w' := W17) (by kernel_rfl) ?_
                        exact ih0 k (by omega) (x4_0.set (rd a0 x15_0 : Int).toNat (U8 (x15_0))) (I64 (x15_0 + 1)) _ (hM.pick [0] rfl rfl) h
                      · replace h := of_false h c16
                        cases h
                    · replace h := of_false h c15
                      cases h
                  · replace h := of_false h c13
                    cases h
                · replace h := of_false h c12
                  cases h
              · replace h := of_false h c10
                refine RunF.know 16 (b := false) (by kernel_rfl) c10 ?_
                refine RunF.go 8 [2, 3] (k' := (pl Go.Proofs.Tryd.f15 [1, 1, 1, 1, 1])) (L' := [(2, .slice (some ⟨g6, 0, none⟩) (((a0.length : Int)).toNat) (((a0.length : Int) : Int).toNat)), (3, .bool true)]) (w' := W) (by kernel_rfl) ?_
                obtain rfl := Option.some.inj h
                exact RunF.ret2 2 3 (.slice (some ⟨g6, 0, none⟩) (((a0.length : Int)).toNat) (((a0.length : Int) : Int).toNat)) (.bool true) (fn := Go.Proofs.Tryd.f15) Go.Proofs.Tryd.func15 (by kernel_rfl) (by kernel_rfl) (by kernel_rfl) (by kernel_rfl) ⟨_, rfl, (some ⟨g6, 0, none⟩), ((a0.length : Int)).toNat, ((a0.length : Int) : Int).toNat, rfl, (hM.pick [0] rfl rfl)⟩
        exact l0 k (Nat.le_refl _) (List.replicate (((a0.length : Int)).toNat) (0 : Int)) 0 _ (hM.pick [0] rfl rfl) h
      · replace h := of_false h c8
        cases h
    · replace h := of_false h c7
      cases h

/-! ### math/bits.OnesCount8: function 26 -/
def bits_OnesCount8.f (k : Nat) (a0 : Int) : Option (Int) := if (decide (0 ≤ a0)) = true then (if (decide (a0 < (256 : Int))) = true then (some (I64 (sb (⟨#[0, 1, 1, 2, 1, 2, 2, 3, 1, 2, 2, 3, 2, 3, 3, 4, 1, 2, 2, 3, 2, 3, 3, 4, 2, 3, 3, 4, 3, 4, 4, 5, 1, 2, 2, 3, 2, 3, 3, 4, 2, 3, 3, 4, 3, 4, 4, 5, 2, 3, 3, 4, 3, 4, 4, 5, 3, 4, 4, 5, 4, 5, 5, 6, 1, 2, 2, 3, 2, 3, 3, 4, 2, 3, 3, 4, 3, 4, 4, 5, 2, 3, 3, 4, 3, 4, 4, 5, 3, 4, 4, 5, 4, 5, 5, 6, 2, 3, 3, 4, 3, 4, 4, 5, 3, 4, 4, 5, 4, 5, 5, 6, 3, 4, 4, 5, 4, 5, 5, 6, 4, 5, 5, 6, 5, 6, 6, 7, 1, 2, 2, 3, 2, 3, 3, 4, 2, 3, 3, 4, 3, 4, 4, 5, 2, 3, 3, 4, 3, 4, 4, 5, 3, 4, 4, 5, 4, 5, 5, 6, 2, 3, 3, 4, 3, 4, 4, 5, 3, 4, 4, 5, 4, 5, 5, 6, 3, 4, 4, 5, 4, 5, 5, 6, 4, 5, 5, 6, 5, 6, 6, 7, 2, 3, 3, 4, 3, 4, 4, 5, 3, 4, 4, 5, 4, 5, 5, 6, 3, 4, 4, 5, 4, 5, 5, 6, 4, 5, 5, 6, 5, 6, 6, 7, 3, 4, 4, 5, 4, 5, 5, 6, 4, 5, 5, 6, 5, 6, 6, 7, 4, 5, 5, 6, 5, 6, 6, 7, 5, 6, 6, 7, 6, 7, 7, 8]⟩ : ByteArray) a0))) else (none)) else (none)
set_option maxRecDepth 100000 in
theorem bits_OnesCount8.calls (k : Nat) (a0 : Int) (r : Int) (w : World) (h : bits_OnesCount8.f k a0 = some r) :
    Calls Go.Proofs.Tryd.prog 26 #[.int .u8 a0] w (Ret fun v w' => v = .int .i64 r ∧ Mem w w' []) := by
  unfold bits_OnesCount8.f at h
  refine calls_of [.int .u8 a0] (fn := Go.Proofs.Tryd.f26) Go.Proofs.Tryd.func26 (by kernel_rfl) (by kernel_rfl) ?_
  have hM := Mem.refl w
  refine RunF.go 7 [3] (k' := (pin Go.Proofs.Tryd.f26 [1, 0] 1)) (L' := [(3, .int .u8 a0)]) (w' := w) (by kernel_rfl) ?_
  rcases two (decide (0 ≤ a0)) with c1 | c1
  · replace h := of_true h c1
    rcases two (decide (a0 < (256 : Int))) with c2 | c2
    · replace h := of_true h c2
      refine RunF.y (idxStr_y (d := some 4) (s := (⟨#[0, 1, 1, 2, 1, 2, 2, 3, 1, 2, 2, 3, 2, 3, 3, 4, 1, 2, 2, 3, 2, 3, 3, 4, 2, 3, 3, 4, 3, 4, 4, 5, 1, 2, 2, 3, 2, 3, 3, 4, 2, 3, 3, 4, 3, 4, 4, 5, 2, 3, 3, 4, 3, 4, 4, 5, 3, 4, 4, 5, 4, 5, 5, 6, 1, 2, 2, 3, 2, 3, 3, 4, 2, 3, 3, 4, 3, 4, 4, 5, 2, 3, 3, 4, 3, 4, 4, 5, 3, 4, 4, 5, 4, 5, 5, 6, 2, 3, 3, 4, 3, 4, 4, 5, 3, 4, 4, 5, 4, 5, 5, 6, 3, 4, 4, 5, 4, 5, 5, 6, 4, 5, 5, 6, 5, 6, 6, 7, 1, 2, 2, 3, 2, 3, 3, 4, 2, 3, 3, 4, 3, 4, 4, 5, 2, 3, 3, 4, 3, 4, 4, 5, 3, 4, 4, 5, 4, 5, 5, 6, 2, 3, 3, 4, 3, 4, 4, 5, 3, 4, 4, 5, 4, 5, 5, 6, 3, 4, 4, 5, 4, 5, 5, 6, 4, 5, 5, 6, 5, 6, 6, 7, 2, 3, 3, 4, 3, 4, 4, 5, 3, 4, 4, 5, 4, 5, 5, 6, 3, 4, 4, 5, 4, 5, 5, 6, 4, 5, 5, 6, 5, 6, 6, 7, 3, 4, 4, 5, 4, 5, 5, 6, 4, 5, 5, 6, 5, 6, 6, 7, 4, 5, 5, 6, 5, 6, 6, 7, 5, 6, 6, 7, 6, 7, 7, 8]⟩ : ByteArray)) (i := a0) (k2 := (pin Go.Proofs.Tryd.f26 [1, 0] 2)) (by kernel_rfl) (of_decide_eq_true c1) (of_decide_eq_true c2)) trivial ?_
      refine RunF.go 3 [2] (k' := (pl Go.Proofs.Tryd.f26 [1, 1])) (L' := [(2, .int .i64 (I64 (sb (⟨#[0, 1, 1, 2, 1, 2, 2, 3, 1, 2, 2, 3, 2, 3, 3, 4, 1, 2, 2, 3, 2, 3, 3, 4, 2, 3, 3, 4, 3, 4, 4, 5, 1, 2, 2, 3, 2, 3, 3, 4, 2, 3, 3, 4, 3, 4, 4, 5, 2, 3, 3, 4, 3, 4, 4, 5, 3, 4, 4, 5, 4, 5, 5, 6, 1, 2, 2, 3, 2, 3, 3, 4, 2, 3, 3, 4, 3, 4, 4, 5, 2, 3, 3, 4, 3, 4, 4, 5, 3, 4, 4, 5, 4, 5, 5, 6, 2, 3, 3, 4, 3, 4, 4, 5, 3, 4, 4, 5, 4, 5, 5, 6, 3, 4, 4, 5, 4, 5, 5, 6, 4, 5, 5, 6, 5, 6, 6, 7, 1, 2, 2, 3, 2, 3, 3, 4, 2, 3, 3, 4, 3, 4, 4, 5, 2, 3, 3, 4, 3, 4, 4, 5, 3, 4, 4, 5, 4, 5, 5, 6, 2, 3, 3, 4, 3, 4, 4, 5, 3, 4, 4, 5, 4, 5, 5, 6, 3, 4, 4, 5, 4, 5, 5, 6, 4, 5, 5, 6, 5, 6, 6, 7, 2, 3, 3, 4, 3, 4, 4, 5, 3, 4, 4, 5, 4, 5, 5, 6, 3, 4, 4, 5, 4, 5, 5, 6, 4, 5, 5, 6, 5, 6, 6, 7, 3, 4, 4, 5, 4, 5, 5, 6, 4, 5, 5, 6, 5, 6, 6, 7, 4, 5, 5, 6, 5, 6, 6, 7, 5, 6, 6, 7, 6, 7, 7, 8]⟩ : ByteArray) a0)))]) (w' := w) (by kernel_rfl) ?_
      obtain rfl := Option.some.inj h
      exact RunF.ret1 2 (.int .i64 (I64 (sb (⟨#[0, 1, 1, 2, 1, 2, 2, 3, 1, 2, 2, 3, 2, 3, 3, 4, 1, 2, 2, 3, 2, 3, 3, 4, 2, 3, 3, 4, 3, 4, 4, 5, 1, 2, 2, 3, 2, 3, 3, 4, 2, 3, 3, 4, 3, 4, 4, 5, 2, 3, 3, 4, 3, 4, 4, 5, 3, 4, 4, 5, 4, 5, 5, 6, 1, 2, 2, 3, 2, 3, 3, 4, 2, 3, 3, 4, 3, 4, 4, 5, 2, 3, 3, 4, 3, 4, 4, 5, 3, 4, 4, 5, 4, 5, 5, 6, 2, 3, 3, 4, 3, 4, 4, 5, 3, 4, 4, 5, 4, 5, 5, 6, 3, 4, 4, 5, 4, 5, 5, 6, 4, 5, 5, 6, 5, 6, 6, 7, 1, 2, 2, 3, 2, 3, 3, 4, 2, 3, 3, 4, 3, 4, 4, 5, 2, 3, 3, 4, 3, 4, 4, 5, 3, 4, 4, 5, 4, 5, 5, 6, 2, 3, 3, 4, 3, 4, 4, 5, 3, 4, 4, 5, 4, 5, 5, 6, 3, 4, 4, 5, 4, 5, 5, 6, 4, 5, 5, 6, 5, 6, 6, 7, 2, 3, 3, 4, 3, 4, 4, 5, 3, 4, 4, 5, 4, 5, 5, 6, 3, 4, 4, 5, 4, 5, 5, 6, 4, 5, 5, 6, 5, 6, 6, 7, 3, 4, 4, 5, 4, 5, 5, 6, 4, 5, 5, 6, 5, 6, 6, 7, 4, 5, 5, 6, 5, 6, 6, 7, 5, 6, 6, 7, 6, 7, 7, 8]⟩ : ByteArray) a0))) (fn := Go.Proofs.Tryd.f26) Go.Proofs.Tryd.func26 (by kernel_rfl) (by kernel_rfl) (by kernel_rfl) ⟨_, rfl, rfl, (hM.pick [] rfl rfl)⟩
    · replace h := of_false h c2
      cases h
  · replace h := of_false h c1
    cases h

/-! ### scrim/box.Affine: function 20 -/
def box_Affine.l0 : Nat → Int → (List Int) → Int → Int → Option (Int)
  | 0, _, _, _, _ => none
  | k + 1, a0, a1, x2_0, x10_0 => if (decide (x10_0 < 8)) = true then (if (decide (0 ≤ x10_0)) = true then (if (decide (x10_0 < (8 : Int))) = true then ((bits_OnesCount8.f k (band .u8 a0 (rd a1 x10_0))).bind fun t8 => (if (decide ((Int.tmod t8 2) > 0)) = true then (if (decide (0 ≤ x10_0)) = true then (if (decide (x10_0 < (8 : Int))) = true then ((some (bxor .u8 x2_0 (rd ([1, 2, 4, 8, 16, 32, 64, 128] : List Int) x10_0) : Int)).bind fun y13 => (box_Affine.l0 k a0 a1 y13 (I64 (x10_0 + 1)))) else (none)) else (none)) else (box_Affine.l0 k a0 a1 x2_0 (I64 (x10_0 + 1))))) else (none)) else (none)) else (some x2_0)
def box_Affine.f (k : Nat) (a0 : Int) (a1 : List Int) (a2 : Int) : Option (Int) := box_Affine.l0 k a0 a1 a2 0
set_option maxRecDepth 100000 in
theorem box_Affine.calls (k : Nat) (a0 : Int) (a1 : List Int) (a2 : Int) (r : Int) (w : World) (hl1 : a1.length = 8) (hG0 : Rg w 0 (nums .u8 [1, 2, 4, 8, 16, 32, 64, 128])) (h : box_Affine.f k a0 a1 a2 = some r) :
    Calls Go.Proofs.Tryd.prog 20 #[.int .u8 a0, .agg (nums .u8 a1).toArray, .int .u8 a2] w (Ret fun v w' => v = .int .u8 r ∧ Mem w w' []) := by
  unfold box_Affine.f at h
  refine calls_of [.int .u8 a0, .agg (nums .u8 a1).toArray, .int .u8 a2] (fn := Go.Proofs.Tryd.f20) Go.Proofs.Tryd.func20 (by kernel_rfl) (by kernel_rfl) ?_
  have hM := Mem.refl w
  refine RunF.go 2 [0, 1, 2] (k' := (pin Go.Proofs.Tryd.f20 [0] 0)) (L' := [(0, .int .u8 a0), (1, .agg (nums .u8 a1).toArray), (2, .int .u8 a2)]) (w' := w) (by kernel_rfl) ?_
  refine RunF.newVar 33 (nums .u8 a1) (d := some 4) (k2 := (pin Go.Proofs.Tryd.f20 [0] 1)) hM (by kernel_rfl) ?_
  intro g1 W2 hM
  refine RunF.go 5 [0, 2, 4] (k' := (pin Go.Proofs.Tryd.f20 [1, 0, 0] 0)) (L' := [(0, .int .u8 a0), (2, .int .u8 a2), (4, .pointer (some ⟨g1, 0, none⟩))]) (w' := W2) (by kernel_rfl) ?_
  refine RunF.y (ldv_y (d := some 9) (g := g1) (N := 8) (ty := 33) (k2 := (pin Go.Proofs.Tryd.f20 [1, 0, 0] 1)) (nums .u8 a1) (by kernel_rfl) (by simp only [nums_length, bools_length, strs_length]; exact hl1)) (hM.block 0 rfl) ?_
  refine RunF.go 4 [0, 2, 9, 10] (k' := (pl Go.Proofs.Tryd.f20 [1, 0, 1, 0, 0])) (L' := [(0, .int .u8 a0), (2, .int .u8 a2), (9, .agg (nums .u8 a1).toArray), (10, .int .i64 0)]) (w' := W2) (by kernel_rfl) ?_
  have l0 : ∀ (k_ : Nat), k_ ≤ k → ∀ (x2_0 : Int) (x10_0 : Int) (W : World) (hM : Mem w W []) (h : box_Affine.l0 k_ a0 a1 x2_0 x10_0 = some r), RunF Go.Proofs.Tryd.prog (Ret fun v w' => v = .int .u8 r ∧ Mem w w' []) 20 (pl Go.Proofs.Tryd.f20 [1, 0, 1, 0, 0]) 27 [(0, .int .u8 a0), (2, .int .u8 x2_0), (9, .agg (nums .u8 a1).toArray), (10, .int .i64 x10_0)] W := by
    intro k_
    induction k_ using Nat.strongRecOn with
    | _ k_ ih0 =>
      intro hk x2_0 x10_0 W hM h
      cases k_ with
      | zero => exact absurd h (by simp [box_Affine.l0])
      | succ k =>
        simp only [box_Affine.l0] at h
        replace ih0 : ∀ m, m ≤ k → _ := fun m hm => ih0 m (by omega) (by omega)
        refine RunF.go 5 [0, 2, 9, 10, 11] (k' := (pl Go.Proofs.Tryd.f20 [1, 0, 1, 0, 0, 1, 0])) (L' := [(0, .int .u8 a0), (2, .int .u8 x2_0), (9, .agg (nums .u8 a1).toArray), (10, .int .i64 x10_0), (11, .bool (decide (x10_0 < 8)))]) (w' := W) (by kernel_rfl) ?_
        rcases two (decide (x10_0 < 8)) with c4 | c4
        · replace h := of_true h c4
          refine RunF.know 11 (b := true) (by kernel_rfl) c4 ?_
          refine RunF.go 7 [0, 2, 9, 10, 12] (k' := (pin Go.Proofs.Tryd.f20 [1, 0, 1, 0, 0, 1, 1, 0, 0, 0] 1)) (L' := [(0, .int .u8 a0), (2, .int .u8 x2_0), (9, .agg (nums .u8 a1).toArray), (10, .int .i64 x10_0), (12, .int .i64 x10_0)]) (w' := W) (by kernel_rfl) ?_
          rcases two (decide (0 ≤ x10_0)) with c5 | c5
          · replace h := of_true h c5
            rcases two (decide (x10_0 < (8 : Int))) with c6 | c6
            · replace h := of_true h c6
              refine RunF.y (idxVal_y (d := some 13) (cs := (nums .u8 a1).toArray) (len := 8) (i := x10_0) (u := .int .u8 (rd a1 x10_0)) (k2 := (pin Go.Proofs.Tryd.f20 [1, 0, 1, 0, 0, 1, 1, 0, 0, 0] 2)) (by kernel_rfl) (of_decide_eq_true c5) (of_decide_eq_true c6) (by rw [List.getElem?_toArray]; exact nums_at (of_decide_eq_true c5) (by rw [show a1.length = 8 from hl1]; exact (of_decide_eq_true c6)))) trivial ?_
              refine RunF.go 8 [0, 2, 7, 9, 10, 16] (k' := (pin Go.Proofs.Tryd.f20 [1, 0, 1, 0, 0, 1, 1, 0, 0, 1, 0] 3)) (L' := [(0, .int .u8 a0), (2, .int .u8 x2_0), (7, .int .i64 x10_0), (9, .agg (nums .u8 a1).toArray), (10, .int .i64 x10_0), (16, .int .u8 (band .u8 a0 (rd a1 x10_0)))]) (w' := W) (by kernel_rfl) ?_
              obtain ⟨t8, ht8, h⟩ := Option.bind_eq_some_iff.mp h
              refine RunF.call (d := some 17) (g := 26) (args := #[.int .u8 (band .u8 a0 (rd a1 x10_0))]) (k2 := (pin Go.Proofs.Tryd.f20 [1, 0, 1, 0, 0, 1, 1, 0, 0, 1, 0] 4)) (by kernel_rfl) (bits_OnesCount8.calls k (band .u8 a0 (rd a1 x10_0)) t8 _ ht8) ?_
              rintro _ W7 ⟨rfl, hM_⟩
              replace hM := hM.call hM_
              clear hM_ ht8
              refine RunF.go 3 [0, 2, 7, 9, 10, 19] (k' := (pl Go.Proofs.Tryd.f20 [1, 0, 1, 0, 0, 1, 1, 0, 0, 1, 1])) (L' := [(0, .int .u8 a0), (2, .int .u8 x2_0), (7, .int .i64 x10_0), (9, .agg (nums .u8 a1).toArray), (10, .int .i64 x10_0), (19, .bool (decide ((Int.tmod t8 2) > 0)))]) (w' := W7) (by kernel_rfl) ?_
              rcases two (decide ((Int.tmod t8 2) > 0)) with c9 | c9
              · replace h := of_true h c9
                refine RunF.know 19 (b := true) (by kernel_rfl) c9 ?_
                refine RunF.go 4 [0, 9, 10, 20, 21] (k' := (pin Go.Proofs.Tryd.f20 [1, 0, 1, 0, 0, 1, 1, 0, 0, 1, 1, 0] 2)) (L' := [(0, .int .u8 a0), (9, .agg (nums .u8 a1).toArray), (10, .int .i64 x10_0), (20, .int .u8 x2_0), (21, .int .i64 x10_0)]) (w' := W7) (by kernel_rfl) ?_
                rcases two (decide (0 ≤ x10_0)) with c11 | c11
                · replace h := of_true h c11
                  rcases two (decide (x10_0 < (8 : Int))) with c12 | c12
                  · replace h := of_true h c12
                    have hiq10 := hG0.num (i := x10_0) (of_decide_eq_true c11) (of_decide_eq_true c12)
                    have hcq10 := (hG0.mono hM.below).num (i := x10_0) (of_decide_eq_true c11) (of_decide_eq_true c12)
                    refine RunF.y (idxArr_own (d := some 22) (g := 0) (len := 8) (i := x10_0) (k2 := (pin Go.Proofs.Tryd.f20 [1, 0, 1, 0, 0, 1, 1, 0, 0, 1, 1, 0] 3)) (by kernel_rfl) (of_decide_eq_true c11) (of_decide_eq_true c12)) trivial ?_
                    refine RunF.y (ld_y (d := some 23) (p := ⟨0, (x10_0 : Int).toNat, none⟩) (k2 := (pin Go.Proofs.Tryd.f20 [1, 0, 1, 0, 0, 1, 1, 0, 0, 1, 1, 0] 4)) (.int .u8 (rd ([1, 2, 4, 8, 16, 32, 64, 128] : List Int) x10_0)) (by kernel_rfl)) hcq10 ?_
                    refine RunF.go 9 [0, 2, 9, 10] (k' := (pl Go.Proofs.Tryd.f20 [1, 0, 1, 0, 0])) (L' := [(0, .int .u8 a0), (2, .int .u8 (bxor .u8 x2_0 (rd ([1, 2, 4, 8, 16, 32, 64, 128] : List Int) x10_0))), (9, .agg (nums .u8 a1).toArray), (10, .int .i64 (I64 (x10_0 + 1)))]) (w' := W7) (by kernel_rfl) ?_
                    obtain ⟨y13, hy, h⟩ := Option.bind_eq_some_iff.mp h
                    rw [show (bxor .u8 x2_0 (rd ([1, 2, 4, 8, 16, 32, 64, 128] : List Int) x10_0)) = y13 from Option.some.inj hy]
                    clear hy
                    exact ih0 k (by omega) y13 (I64 (x10_0 + 1)) _ (hM.pick [] rfl rfl) h
                  · replace h := of_false h c12
                    cases h
                · replace h := of_false h c11
                  cases h
              · replace h := of_false h c9
                refine RunF.know 19 (b := false) (by kernel_rfl) c9 ?_
                refine RunF.go 8 [0, 2, 9, 10] (k' := (pl Go.Proofs.Tryd.f20 [1, 0, 1, 0, 0])) (L' := [(0, .int .u8 a0), (2, .int .u8 x2_0), (9, .agg (nums .u8 a1).toArray), (10, .int .i64 (I64 (x10_0 + 1)))]) (w' := W7) (by kernel_rfl) ?_
                exact ih0 k (by omega) x2_0 (I64 (x10_0 + 1)) _ (hM.pick [] rfl rfl) h
            · replace h := of_false h c6
              cases h
          · replace h := of_false h c5
            cases h
        · replace h := of_false h c4
          refine RunF.know 11 (b := false) (by kernel_rfl) c4 ?_
          refine RunF.go 7 [6] (k' := (pl Go.Proofs.Tryd.f20 [1, 1, 1])) (L' := [(6, .int .u8 x2_0)]) (w' := W) (by kernel_rfl) ?_
          obtain rfl := Option.some.inj h
          exact RunF.ret1 6 (.int .u8 x2_0) (fn := Go.Proofs.Tryd.f20) Go.Proofs.Tryd.func20 (by kernel_rfl) (by kernel_rfl) (by kernel_rfl) ⟨_, rfl, rfl, (hM.pick [] rfl rfl)⟩
  exact l0 k (Nat.le_refl _) a2 0 _ (hM.pick [] rfl rfl) h

/-! ### scrim/scrimlaw4.known: function 12 -/
def scrimlaw4_known.f (k : Nat)  : Option (Bool) := (box_Back.f k ([1, 0] : List Int)).bind fun t5 => (if t5.2 = true then (if ((t5.1.length : Int) == 2) = true then (if (decide (0 < (t5.1.length : Int))) = true then (if ((rd t5.1 0) == 1) = true then (if (decide (1 < (t5.1.length : Int))) = true then (if ((rd t5.1 1) == 0) = true then ((box_Is.f k t5.1).bind fun t19 => (if t19 = true then ((box_Affine.f k 0 ([0, 0, 0, 0, 0, 0, 0, 0] : List Int) 7).bind fun t22 => (some (t22 == 7))) else (some false))) else (some false)) else (none)) else (some false)) else (none)) else (some false)) else (some false))
set_option maxRecDepth 100000 in
theorem scrimlaw4_known.calls (k : Nat)  (r : Bool) (w : World) (hG0 : Rg w 0 (nums .u8 [1, 2, 4, 8, 16, 32, 64, 128])) (h : scrimlaw4_known.f k = some r) :
    Calls Go.Proofs.Tryd.prog 12 #[] w (Ret fun v w' => v = .bool r ∧ Mem w w' []) := by
  unfold scrimlaw4_known.f at h
  refine calls_of [] (fn := Go.Proofs.Tryd.f12) Go.Proofs.Tryd.func12 (by kernel_rfl) (by kernel_rfl) ?_
  have hM := Mem.refl w
  refine RunF.go 6 [] (k' := (pin Go.Proofs.Tryd.f12 [1, 0] 0)) (L' := []) (w' := w) (by kernel_rfl) ?_
  refine RunF.new 5 1 2 (nums .u8 [1, 0]) (d := some 4) (k2 := (pin Go.Proofs.Tryd.f12 [1, 0] 1)) hM (by simp [nums, bools, strs]) (by kernel_rfl) (by kernel_rfl) ?_
  replace hM := hM
  intro g1 W2 hM
  obtain ⟨t5, ht5, h⟩ := Option.bind_eq_some_iff.mp h
  refine RunF.call (d := some 5) (g := 15) (args := #[.slice (some ⟨g1, 0, none⟩) 2 2]) (k2 := (pin Go.Proofs.Tryd.f12 [1, 0] 2)) (by kernel_rfl) (box_Back.calls k (some ⟨g1, 0, none⟩) 2 2 ([1, 0] : List Int) t5 _ (hM.rd 0 rfl) ht5) ?_
  rintro _ W4 ⟨A6, n7, c8, rfl, hM_⟩
  obtain rfl : t5.1.length = n7 := by have h_ := (hM_.rd 0 rfl).1; simpa [nums_length, bools_length, strs_length] using h_
  replace hM := hM.call hM_
  clear hM_ ht5
  refine RunF.go 10 [1, 9] (k' := (pin Go.Proofs.Tryd.f12 [1, 1, 0] 2)) (L' := [(1, .slice A6 t5.1.length c8), (9, .bool t5.2)]) (w' := W4) (by kernel_rfl) ?_
  rcases two (t5.2) with c10 | c10
  · replace h := of_true h c10
    refine RunF.know 9 (b := true) (by kernel_rfl) c10 ?_
    refine RunF.go 5 [1, 14] (k' := (pin Go.Proofs.Tryd.f12 [1, 1, 0] 7)) (L' := [(1, .slice A6 t5.1.length c8), (14, .bool ((t5.1.length : Int) == 2))]) (w' := W4) (by kernel_rfl) ?_
    rcases two (((t5.1.length : Int) == 2)) with c11 | c11
    · replace h := of_true h c11
      refine RunF.know 14 (b := true) (by kernel_rfl) c11 ?_
      refine RunF.go 1 [1, 14, 15] (k' := (pin Go.Proofs.Tryd.f12 [1, 1, 0] 8)) (L' := [(1, .slice A6 t5.1.length c8), (14, .bool true), (15, .slice A6 t5.1.length c8)]) (w' := W4) (by kernel_rfl) ?_
      rcases two (decide (0 < (t5.1.length : Int))) with c13 | c13
      · replace h := of_true h c13
        obtain ⟨q12, hAq12, hcq12, hfq12, hlq12⟩ := hM.num_at 0 rfl (i := 0) (by omega) (by have h_ := of_decide_eq_true c13; omega)
        refine RunF.y (idx_own (d := some 16) (A := A6) (m := t5.1.length) (i := 0) (k2 := (pin Go.Proofs.Tryd.f12 [1, 1, 0] 9)) (by kernel_rfl) (by omega) (by have h_ := of_decide_eq_true c13; omega) hAq12) trivial ?_
        refine RunF.y (ld_y (d := some 17) (p := ⟨q12, (0 : Int).toNat, none⟩) (k2 := (pin Go.Proofs.Tryd.f12 [1, 1, 0] 10)) (.int .u8 (rd t5.1 0)) (by kernel_rfl)) hcq12 ?_
        refine RunF.go 3 [1, 20] (k' := (pin Go.Proofs.Tryd.f12 [1, 1, 0] 13)) (L' := [(1, .slice A6 t5.1.length c8), (20, .bool ((rd t5.1 0) == 1))]) (w' := W4) (by kernel_rfl) ?_
        rcases two (((rd t5.1 0) == 1)) with c14 | c14
        · replace h := of_true h c14
          refine RunF.know 20 (b := true) (by kernel_rfl) c14 ?_
          refine RunF.go 1 [1, 20, 21] (k' := (pin Go.Proofs.Tryd.f12 [1, 1, 0] 14)) (L' := [(1, .slice A6 t5.1.length c8), (20, .bool true), (21, .slice A6 t5.1.length c8)]) (w' := W4) (by kernel_rfl) ?_
          rcases two (decide (1 < (t5.1.length : Int))) with c16 | c16
          · replace h := of_true h c16
            obtain ⟨q15, hAq15, hcq15, hfq15, hlq15⟩ := hM.num_at 0 rfl (i := 1) (by omega) (by have h_ := of_decide_eq_true c16; omega)
            refine RunF.y (idx_own (d := some 22) (A := A6) (m := t5.1.length) (i := 1) (k2 := (pin Go.Proofs.Tryd.f12 [1, 1, 0] 15)) (by kernel_rfl) (by omega) (by have h_ := of_decide_eq_true c16; omega) hAq15) trivial ?_
            refine RunF.y (ld_y (d := some 23) (p := ⟨q15, (1 : Int).toNat, none⟩) (k2 := (pin Go.Proofs.Tryd.f12 [1, 1, 0] 16)) (.int .u8 (rd t5.1 1)) (by kernel_rfl)) hcq15 ?_
            refine RunF.go 3 [1, 26] (k' := (pin Go.Proofs.Tryd.f12 [1, 1, 0] 19)) (L' := [(1, .slice A6 t5.1.length c8), (26, .bool ((rd t5.1 1) == 0))]) (w' := W4) (by kernel_rfl) ?_
            rcases two (((rd t5.1 1) == 0)) with c17 | c17
            · replace h := of_true h c17
              refine RunF.know 26 (b := true) (by kernel_rfl) c17 ?_
              refine RunF.go 1 [26, 27] (k' := (pin Go.Proofs.Tryd.f12 [1, 1, 0] 20)) (L' := [(26, .bool true), (27, .slice A6 t5.1.length c8)]) (w' := W4) (by kernel_rfl) ?_
              obtain ⟨t19, ht19, h⟩ := Option.bind_eq_some_iff.mp h
              refine RunF.call (d := some 28) (g := 17) (args := #[.slice A6 t5.1.length c8]) (k2 := (pin Go.Proofs.Tryd.f12 [1, 1, 0] 21)) (by kernel_rfl) (box_Is.calls k A6 t5.1.length c8 t5.1 t19 _ (hM.rd 0 rfl) ht19) ?_
              rintro _ W18 ⟨rfl, hM_⟩
              replace hM := hM.call hM_
              clear hM_ ht19
              refine RunF.go 2 [30] (k' := (pin Go.Proofs.Tryd.f12 [1, 1, 0] 23)) (L' := [(30, .bool t19)]) (w' := W18) (by kernel_rfl) ?_
              rcases two (t19) with c20 | c20
              · replace h := of_true h c20
                refine RunF.know 30 (b := true) (by kernel_rfl) c20 ?_
                refine RunF.go 1 [30, 31] (k' := (pin Go.Proofs.Tryd.f12 [1, 1, 0] 24)) (L' := [(30, .bool true), (31, .agg (nums .u8 ([0, 0, 0, 0, 0, 0, 0, 0] : List Int)).toArray)]) (w' := W18) (by kernel_rfl) ?_
                obtain ⟨t22, ht22, h⟩ := Option.bind_eq_some_iff.mp h
                refine RunF.call (d := some 32) (g := 20) (args := #[.int .u8 0, .agg (nums .u8 ([0, 0, 0, 0, 0, 0, 0, 0] : List Int)).toArray, .int .u8 7]) (k2 := (pin Go.Proofs.Tryd.f12 [1, 1, 0] 25)) (by kernel_rfl) (box_Affine.calls k 0 ([0, 0, 0, 0, 0, 0, 0, 0] : List Int) 7 t22 _ rfl (hG0.mono hM.below) ht22) ?_
                rintro _ W21 ⟨rfl, hM_⟩
                replace hM := hM.call hM_
                clear hM_ ht22
                refine RunF.go 4 [0] (k' := (pl Go.Proofs.Tryd.f12 [1, 1, 1])) (L' := [(0, .bool (t22 == 7))]) (w' := W21) (by kernel_rfl) ?_
                obtain rfl := Option.some.inj h
                exact RunF.ret1 0 (.bool (t22 == 7)) (fn := Go.Proofs.Tryd.f12) Go.Proofs.Tryd.func12 (by kernel_rfl) (by kernel_rfl) (by kernel_rfl) ⟨_, rfl, rfl, (hM.pick [] rfl rfl)⟩
              · replace h := of_false h c20
                refine RunF.know 30 (b := false) (by kernel_rfl) c20 ?_
                refine RunF.go 6 [0] (k' := (pl Go.Proofs.Tryd.f12 [1, 1, 1])) (L' := [(0, .bool false)]) (w' := W18) (by kernel_rfl) ?_
                obtain rfl := Option.some.inj h
                exact RunF.ret1 0 (.bool false) (fn := Go.Proofs.Tryd.f12) Go.Proofs.Tryd.func12 (by kernel_rfl) (by kernel_rfl) (by kernel_rfl) ⟨_, rfl, rfl, (hM.pick [] rfl rfl)⟩
            · replace h := of_false h c17
              refine RunF.know 26 (b := false) (by kernel_rfl) c17 ?_
              refine RunF.go 10 [0] (k' := (pl Go.Proofs.Tryd.f12 [1, 1, 1])) (L' := [(0, .bool false)]) (w' := W4) (by kernel_rfl) ?_
              obtain rfl := Option.some.inj h
              exact RunF.ret1 0 (.bool false) (fn := Go.Proofs.Tryd.f12) Go.Proofs.Tryd.func12 (by kernel_rfl) (by kernel_rfl) (by kernel_rfl) ⟨_, rfl, rfl, (hM.pick [] rfl rfl)⟩
          · replace h := of_false h c16
            cases h
        · replace h := of_false h c14
          refine RunF.know 20 (b := false) (by kernel_rfl) c14 ?_
          refine RunF.go 16 [0] (k' := (pl Go.Proofs.Tryd.f12 [1, 1, 1])) (L' := [(0, .bool false)]) (w' := W4) (by kernel_rfl) ?_
          obtain rfl := Option.some.inj h
          exact RunF.ret1 0 (.bool false) (fn := Go.Proofs.Tryd.f12) Go.Proofs.Tryd.func12 (by kernel_rfl) (by kernel_rfl) (by kernel_rfl) ⟨_, rfl, rfl, (hM.pick [] rfl rfl)⟩
      · replace h := of_false h c13
        cases h
    · replace h := of_false h c11
      refine RunF.know 14 (b := false) (by kernel_rfl) c11 ?_
      refine RunF.go 22 [0] (k' := (pl Go.Proofs.Tryd.f12 [1, 1, 1])) (L' := [(0, .bool false)]) (w' := W4) (by kernel_rfl) ?_
      obtain rfl := Option.some.inj h
      exact RunF.ret1 0 (.bool false) (fn := Go.Proofs.Tryd.f12) Go.Proofs.Tryd.func12 (by kernel_rfl) (by kernel_rfl) (by kernel_rfl) ⟨_, rfl, rfl, (hM.pick [] rfl rfl)⟩
  · replace h := of_false h c10
    refine RunF.know 9 (b := false) (by kernel_rfl) c10 ?_
    refine RunF.go 27 [0] (k' := (pl Go.Proofs.Tryd.f12 [1, 1, 1])) (L' := [(0, .bool false)]) (w' := W4) (by kernel_rfl) ?_
    obtain rfl := Option.some.inj h
    exact RunF.ret1 0 (.bool false) (fn := Go.Proofs.Tryd.f12) Go.Proofs.Tryd.func12 (by kernel_rfl) (by kernel_rfl) (by kernel_rfl) ⟨_, rfl, rfl, (hM.pick [] rfl rfl)⟩

/-! ### scrim/scrimlaw4.within: function 14 -/
def scrimlaw4_within.f (k : Nat) (a0 : Int) (a1 : Int) : Option (Int) := if (decide (a1 = 0)) = true then (none) else (if (decide ((Int.tmod a0 a1) < 0)) = true then (some (I64 ((Int.tmod a0 a1) + a1))) else (some (Int.tmod a0 a1)))
set_option maxRecDepth 100000 in
theorem scrimlaw4_within.calls (k : Nat) (a0 : Int) (a1 : Int) (r : Int) (w : World) (h : scrimlaw4_within.f k a0 a1 = some r) :
    Calls Go.Proofs.Tryd.prog 14 #[.int .i64 a0, .int .i64 a1] w (Ret fun v w' => v = .int .i64 r ∧ Mem w w' []) := by
  unfold scrimlaw4_within.f at h
  refine calls_of [.int .i64 a0, .int .i64 a1] (fn := Go.Proofs.Tryd.f14) Go.Proofs.Tryd.func14 (by kernel_rfl) (by kernel_rfl) ?_
  have hM := Mem.refl w
  refine RunF.go 8 [1, 6, 7] (k' := (pin Go.Proofs.Tryd.f14 [1, 0] 2)) (L' := [(1, .int .i64 a1), (6, .int .i64 a0), (7, .int .i64 a1)]) (w' := w) (by kernel_rfl) ?_
  rcases two (decide (a1 = 0)) with c1 | c1
  · replace h := of_true h c1
    cases h
  · replace h := of_false h c1
    refine RunF.y (div_y (d := some 8) (b := false) (kd := .i64) (x := a0) (y := a1) (k2 := (pin Go.Proofs.Tryd.f14 [1, 0] 3)) (by kernel_rfl) c1) trivial ?_
    refine RunF.go 8 [1, 5, 10] (k' := (pl Go.Proofs.Tryd.f14 [1, 1, 0, 1])) (L' := [(1, .int .i64 a1), (5, .int .i64 (Int.tmod a0 a1)), (10, .bool (decide ((Int.tmod a0 a1) < 0)))]) (w' := w) (by kernel_rfl) ?_
    rcases two (decide ((Int.tmod a0 a1) < 0)) with c2 | c2
    · replace h := of_true h c2
      refine RunF.know 10 (b := true) (by kernel_rfl) c2 ?_
      refine RunF.go 12 [4] (k' := (pl Go.Proofs.Tryd.f14 [1, 1, 1, 1])) (L' := [(4, .int .i64 (I64 ((Int.tmod a0 a1) + a1)))]) (w' := w) (by kernel_rfl) ?_
      obtain rfl := Option.some.inj h
      exact RunF.ret1 4 (.int .i64 (I64 ((Int.tmod a0 a1) + a1))) (fn := Go.Proofs.Tryd.f14) Go.Proofs.Tryd.func14 (by kernel_rfl) (by kernel_rfl) (by kernel_rfl) ⟨_, rfl, rfl, (hM.pick [] rfl rfl)⟩
    · replace h := of_false h c2
      refine RunF.know 10 (b := false) (by kernel_rfl) c2 ?_
      refine RunF.go 7 [4] (k' := (pl Go.Proofs.Tryd.f14 [1, 1, 1, 1])) (L' := [(4, .int .i64 (Int.tmod a0 a1))]) (w' := w) (by kernel_rfl) ?_
      obtain rfl := Option.some.inj h
      exact RunF.ret1 4 (.int .i64 (Int.tmod a0 a1)) (fn := Go.Proofs.Tryd.f14) Go.Proofs.Tryd.func14 (by kernel_rfl) (by kernel_rfl) (by kernel_rfl) ⟨_, rfl, rfl, (hM.pick [] rfl rfl)⟩

/-! ### scrim/scrimlaw4.Table: function 13 -/
mutual
def scrimlaw4_Table.l0 : Nat → Int → (List Int) → (List Int) → Int → Option (List Int)
  | 0, _, _, _, _ => none
  | k + 1, a0, a1, x5_0, x6_0 => if (decide (x6_0 < a0)) = true then (if (decide (x5_0.length + ([U8 (x6_0)] : List Int).length ≤ 1000000000)) = true then (scrimlaw4_Table.l0 k a0 a1 (x5_0 ++ ([U8 (x6_0)] : List Int)) (I64 (x6_0 + 1))) else (none)) else (scrimlaw4_Table.l1 k a0 a1 x5_0 x5_0 0)
def scrimlaw4_Table.l1 : Nat → Int → (List Int) → (List Int) → (List Int) → Int → Option (List Int)
  | 0, _, _, _, _, _ => none
  | k + 1, a0, a1, x5_0, x5_1, x7_1 => if (decide (x7_1 < (a1.length : Int))) = true then (if (decide (x7_1 < 300)) = true then (if (decide (a0 > 0)) = true then (if (decide (a0 = 0)) = true then (none) else (if (decide (0 ≤ x7_1)) = true then (if (decide (x7_1 < (a1.length : Int))) = true then ((scrimlaw4_within.f k (rd a1 x7_1) a0).bind fun t23 => (if (decide (0 ≤ t23)) = true then (if (decide (t23 < (x5_0.length : Int))) = true then (if (decide (0 ≤ (Int.tmod x7_1 a0))) = true then (if (decide ((Int.tmod x7_1 a0) < (x5_0.length : Int))) = true then (if (decide (0 ≤ (Int.tmod x7_1 a0))) = true then (if (decide ((Int.tmod x7_1 a0) < (x5_0.length : Int))) = true then (if (decide (0 ≤ t23)) = true then (if (decide (t23 < (x5_0.length : Int))) = true then (scrimlaw4_Table.l1 k a0 a1 x5_0 ((x5_1.set (Int.tmod x7_1 a0 : Int).toNat (rd x5_1 t23)).set (t23 : Int).toNat (rd x5_1 (Int.tmod x7_1 a0))) (I64 (x7_1 + 1))) else (none)) else (none)) else (none)) else (none)) else (none)) else (none)) else (none)) else (none))) else (none)) else (none))) else (some x5_1)) else (some x5_1)) else (some x5_1)
end
def scrimlaw4_Table.f (k : Nat) (a0 : Int) (a1 : List Int) : Option (List Int) := scrimlaw4_Table.l0 k a0 a1 ([] : List Int) 0
set_option maxRecDepth 100000 in
set_option maxHeartbeats 8000000 in
theorem scrimlaw4_Table.calls (k : Nat) (a0 : Int) (Ap1 : Option Addr) (np1 cp1 : Nat) (a1 : List Int) (r : List Int) (w : World) (hr1 : Rd w (.slice Ap1 np1 cp1) (nums .i64 a1)) (h : scrimlaw4_Table.f k a0 a1 = some r) :
    Calls Go.Proofs.Tryd.prog 13 #[.int .i64 a0, (.slice Ap1 np1 cp1)] w (Ret fun v w' => ∃ A0' n0' c0', v = .slice A0' n0' c0' ∧ Mem w w' [⟨.slice A0' n0' c0', 5, 1, nums .u8 r⟩]) := by
  obtain rfl : a1.length = np1 := by have h_ := hr1.1; simpa [nums_length, bools_length, strs_length] using h_
  unfold scrimlaw4_Table.f at h
  refine calls_of [.int .i64 a0, .slice Ap1 a1.length cp1] (fn := Go.Proofs.Tryd.f13) Go.Proofs.Tryd.func13 (by kernel_rfl) (by kernel_rfl) ?_
  have hM := Mem.refl w
  refine RunF.go 15 [0, 1, 5, 6] (k' := (pl Go.Proofs.Tryd.f13 [1, 1, 0, 1, 0, 0])) (L' := [(0, .int .i64 a0), (1, .slice Ap1 a1.length cp1), (5, .slice none 0 0), (6, .int .i64 0)]) (w' := w) (by kernel_rfl) ?_
  replace hM := hM.nil 5
  have l0 : ∀ (k_ : Nat), k_ ≤ k → ∀ (A5_0 : Option Addr) (c5_0 : Nat) (x5_0 : List Int) (x6_0 : Int) (W : World) (hM : Mem w W [⟨.slice A5_0 x5_0.length c5_0, 5, 1, nums .u8 x5_0⟩]) (h : scrimlaw4_Table.l0 k_ a0 a1 x5_0 x6_0 = some r), RunF Go.Proofs.Tryd.prog (Ret fun v w' => ∃ A0' n0' c0', v = .slice A0' n0' c0' ∧ Mem w w' [⟨.slice A0' n0' c0', 5, 1, nums .u8 r⟩]) 13 (pl Go.Proofs.Tryd.f13 [1, 1, 0, 1, 0, 0]) 58 [(0, .int .i64 a0), (1, .slice Ap1 a1.length cp1), (5, .slice A5_0 x5_0.length c5_0), (6, .int .i64 x6_0)] W := by
    intro k_
    induction k_ using Nat.strongRecOn with
    | _ k_ ih0 =>
      intro hk A5_0 c5_0 x5_0 x6_0 W hM h
      cases k_ with
      | zero => exact absurd h (by simp [scrimlaw4_Table.l0])
      | succ k =>
        simp only [scrimlaw4_Table.l0] at h
        replace ih0 : ∀ m, m ≤ k → _ := fun m hm => ih0 m (by omega) (by omega)
        refine RunF.go 7 [0, 1, 5, 6, 12] (k' := (pl Go.Proofs.Tryd.f13 [1, 1, 0, 1, 0, 0, 0, 1])) (L' := [(0, .int .i64 a0), (1, .slice Ap1 a1.length cp1), (5, .slice A5_0 x5_0.length c5_0), (6, .int .i64 x6_0), (12, .bool (decide (x6_0 < a0)))]) (w' := W) (by kernel_rfl) ?_
        rcases two (decide (x6_0 < a0)) with c3 | c3
        · replace h := of_true h c3
          refine RunF.know 12 (b := true) (by kernel_rfl) c3 ?_
          refine RunF.go 8 [0, 1, 6, 15, 17] (k' := (pin Go.Proofs.Tryd.f13 [1, 1, 0, 1, 0, 0, 1, 0, 0] 3)) (L' := [(0, .int .i64 a0), (1, .slice Ap1 a1.length cp1), (6, .int .i64 x6_0), (15, .slice A5_0 x5_0.length c5_0), (17, .int .u8 (U8 (x6_0)))]) (w' := W) (by kernel_rfl) ?_
          refine RunF.new 5 1 1 (nums .u8 [U8 (x6_0)]) (d := some 18) (k2 := (pin Go.Proofs.Tryd.f13 [1, 1, 0, 1, 0, 0, 1, 0, 0] 4)) hM (by simp [nums, bools, strs]) (by kernel_rfl) (by kernel_rfl) ?_
          replace hM := hM
          intro g4 W5 hM
          rcases two (decide (x5_0.length + ([U8 (x6_0)] : List Int).length ≤ 1000000000)) with c11 | c11
          · replace h := of_true h c11
            have h_ := of_decide_eq_true c11
            obtain ⟨A7, n8, c9, W10, hD, hM', hS_⟩ := app_does (P := Go.Proofs.Tryd.prog) (n := 58) (k := (pin Go.Proofs.Tryd.f13 [1, 1, 0, 1, 0, 0, 1, 0, 0] 4)) (L := (upd [(0, .int .i64 a0), (1, .slice Ap1 a1.length cp1), (6, .int .i64 x6_0), (15, .slice A5_0 x5_0.length c5_0), (17, .int .u8 (U8 (x6_0)))] (some 18) (.slice (some ⟨g4, 0, none⟩) 1 1))) (d := some 19) (e := 5) (A := A5_0) (m := x5_0.length) (c := c5_0) (A2 := (some ⟨g4, 0, none⟩)) (m2 := 1) (c2 := 1) (cs := nums .u8 x5_0) (ys := nums .u8 ([U8 (x6_0)] : List Int)) (k2 := (pin Go.Proofs.Tryd.f13 [1, 1, 0, 1, 0, 0, 1, 0, 0] 5)) [⟨.slice (some ⟨g4, 0, none⟩) 1 1, 5, 1, nums .u8 [U8 (x6_0)]⟩] [] (by kernel_rfl) (hM.pick [0, 1] rfl rfl) (hM.rd 0 rfl) (one_nums _ _) (by omega)
            rw [nums_append] at hM'
            replace hM := hM'; clear h_ hM'
            obtain rfl : (x5_0 ++ ([U8 (x6_0)] : List Int)).length = n8 := by have h_ := (hM.rd 1 rfl).1; simpa only [nums_length, bools_length, strs_length] using h_
            refine RunF.does hD ?_
            clear hD hS_
            refine RunF.go 9 [0, 1, 5, 6] (k' := (pl Go.Proofs.Tryd.f13 [1, 1, 0, 1, 0, 0])) (L' := [(0, .int .i64 a0), (1, .slice Ap1 a1.length cp1), (5, .slice A7 ((x5_0 ++ ([U8 (x6_0)] : List Int)).length) c9), (6, .int .i64 (I64 (x6_0 + 1)))]) (w' := W10) (by kernel_rfl) ?_
            exact ih0 k (by omega) A7 c9 (x5_0 ++ ([U8 (x6_0)] : List Int)) (I64 (x6_0 + 1)) _ (hM.pick [1] rfl rfl) h
          · replace h := of_false h c11
            cases h
        · replace h := of_false h c3
          refine RunF.know 12 (b := false) (by kernel_rfl) c3 ?_
          refine RunF.go 9 [0, 1, 5, 7] (k' := (pl Go.Proofs.Tryd.f13 [1, 1, 1, 0, 1, 0, 0])) (L' := [(0, .int .i64 a0), (1, .slice Ap1 a1.length cp1), (5, .slice A5_0 x5_0.length c5_0), (7, .int .i64 0)]) (w' := W) (by kernel_rfl) ?_
          have l1 : ∀ (k_ : Nat), k_ ≤ k → ∀ (x5_1 : List Int) (x7_1 : Int) (W : World) (hM : Mem w W [⟨.slice A5_0 x5_0.length c5_0, 5, 1, nums .u8 x5_1⟩]) (h : scrimlaw4_Table.l1 k_ a0 a1 x5_0 x5_1 x7_1 = some r), RunF Go.Proofs.Tryd.prog (Ret fun v w' => ∃ A0' n0' c0', v = .slice A0' n0' c0' ∧ Mem w w' [⟨.slice A0' n0' c0', 5, 1, nums .u8 r⟩]) 13 (pl Go.Proofs.Tryd.f13 [1, 1, 1, 0, 1, 0, 0]) 58 [(0, .int .i64 a0), (1, .slice Ap1 a1.length cp1), (5, .slice A5_0 x5_0.length c5_0), (7, .int .i64 x7_1)] W := by
            intro k_
            induction k_ using Nat.strongRecOn with
            | _ k_ ih1 =>
              intro hk x5_1 x7_1 W hM h
              cases k_ with
              | zero => exact absurd h (by simp [scrimlaw4_Table.l1])
              | succ k =>
                simp only [scrimlaw4_Table.l1] at h
                replace ih1 : ∀ m, m ≤ k → _ := fun m hm => ih1 m (by omega) (by omega)
                replace ih0 : ∀ m, m ≤ k → _ := fun m hm => ih0 m (by omega)
                refine RunF.go 8 [0, 1, 5, 7, 24] (k' := (pin Go.Proofs.Tryd.f13 [1, 1, 1, 0, 1, 0, 0, 0, 0] 5)) (L' := [(0, .int .i64 a0), (1, .slice Ap1 a1.length cp1), (5, .slice A5_0 x5_0.length c5_0), (7, .int .i64 x7_1), (24, .bool (decide (x7_1 < (a1.length : Int))))]) (w' := W) (by kernel_rfl) ?_
                rcases two (decide (x7_1 < (a1.length : Int))) with c13 | c13
                · replace h := of_true h c13
                  refine RunF.know 24 (b := true) (by kernel_rfl) c13 ?_
                  refine RunF.go 4 [0, 1, 5, 7, 28] (k' := (pin Go.Proofs.Tryd.f13 [1, 1, 1, 0, 1, 0, 0, 0, 0] 9)) (L' := [(0, .int .i64 a0), (1, .slice Ap1 a1.length cp1), (5, .slice A5_0 x5_0.length c5_0), (7, .int .i64 x7_1), (28, .bool (decide (x7_1 < 300)))]) (w' := W) (by kernel_rfl) ?_
                  rcases two (decide (x7_1 < 300)) with c14 | c14
                  · replace h := of_true h c14
                    refine RunF.know 28 (b := true) (by kernel_rfl) c14 ?_
                    refine RunF.go 4 [0, 1, 5, 7, 31] (k' := (pl Go.Proofs.Tryd.f13 [1, 1, 1, 0, 1, 0, 0, 0, 1])) (L' := [(0, .int .i64 a0), (1, .slice Ap1 a1.length cp1), (5, .slice A5_0 x5_0.length c5_0), (7, .int .i64 x7_1), (31, .bool (decide (a0 > 0)))]) (w' := W) (by kernel_rfl) ?_
                    rcases two (decide (a0 > 0)) with c15 | c15
                    · replace h := of_true h c15
                      refine RunF.know 31 (b := true) (by kernel_rfl) c15 ?_
                      refine RunF.go 5 [0, 1, 5, 7] (k' := (pl Go.Proofs.Tryd.f13 [1, 1, 1, 0, 1, 0, 0, 1, 0, 0, 0])) (L' := [(0, .int .i64 a0), (1, .slice Ap1 a1.length cp1), (5, .slice A5_0 x5_0.length c5_0), (7, .int .i64 x7_1)]) (w' := W) (by kernel_rfl) ?_
                      refine RunF.draw (Still ({ W with drawn := W.drawn + 1 } : World) []) (by kernel_rfl) (by kernel_rfl) ?_
                      have hMd17 := hM.drew
                      have hS := Still.refl ({ W with drawn := W.drawn + 1 } : World) []
                      generalize ({ W with drawn := W.drawn + 1 } : World) = W16 at hMd17 hS ⊢
                      replace hM := hMd17
                      refine RunAny.y 0 (by kernel_rfl) (yl_pure (d := some 34) (v := .int .i64 x7_1) (k2 := [.inRegion (opsOf (pl Go.Proofs.Tryd.f13 [1, 1, 1, 0, 1, 0, 0, 1, 0, 0, 0])) []]) fun w => by kernel_rfl) (fun _ _ => trivial) hS ?_
                      refine RunAny.y 1 (by kernel_rfl) (yl_pure (d := some 35) (v := .int .i64 a0) (k2 := [.inRegion (opsOf (pl Go.Proofs.Tryd.f13 [1, 1, 1, 0, 1, 0, 0, 1, 0, 0, 0])) []]) fun w => by kernel_rfl) (fun _ _ => trivial) hS ?_
                      rcases two (decide (a0 = 0)) with c18 | c18
                      · replace h := of_true h c18
                        cases h
                      · replace h := of_false h c18
                        refine RunAny.y 2 (by kernel_rfl) (div_y (d := some 36) (b := false) (kd := .i64) (x := x7_1) (y := a0) (k2 := [.inRegion (opsOf (pl Go.Proofs.Tryd.f13 [1, 1, 1, 0, 1, 0, 0, 1, 0, 0, 0])) []]) (by kernel_rfl) c18) (fun _ _ => trivial) hS ?_
                        refine RunAny.y 3 (by kernel_rfl) (yl_pure (d := some 37) (v := .slice Ap1 a1.length cp1) (k2 := [.inRegion (opsOf (pl Go.Proofs.Tryd.f13 [1, 1, 1, 0, 1, 0, 0, 1, 0, 0, 0])) []]) fun w => by kernel_rfl) (fun _ _ => trivial) hS ?_
                        refine RunAny.y 4 (by kernel_rfl) (yl_pure (d := some 38) (v := .int .i64 x7_1) (k2 := [.inRegion (opsOf (pl Go.Proofs.Tryd.f13 [1, 1, 1, 0, 1, 0, 0, 1, 0, 0, 0])) []]) fun w => by kernel_rfl) (fun _ _ => trivial) hS ?_
                        rcases two (decide (0 ≤ x7_1)) with c20 | c20
                        · replace h := of_true h c20
                          rcases two (decide (x7_1 < (a1.length : Int))) with c21 | c21
                          · replace h := of_true h c21
                            obtain ⟨q19, hAq19, hcq19⟩ := Rd.num (hr1.mono hM.below) (i := x7_1) (of_decide_eq_true c20) (by have h_ := of_decide_eq_true c21; omega)
                            refine RunAny.y 5 (by kernel_rfl) (idx_y (d := some 39) (A := Ap1) (m := a1.length) (i := x7_1) (k2 := [.inRegion (opsOf (pl Go.Proofs.Tryd.f13 [1, 1, 1, 0, 1, 0, 0, 1, 0, 0, 0])) []]) (by kernel_rfl) (of_decide_eq_true c20) (by have h_ := of_decide_eq_true c21; omega) hAq19) (fun _ _ => trivial) hS ?_
                            refine RunAny.y 6 (by kernel_rfl) (ld_y (d := some 40) (p := (q19.add (x7_1 : Int).toNat)) (k2 := [.inRegion (opsOf (pl Go.Proofs.Tryd.f13 [1, 1, 1, 0, 1, 0, 0, 1, 0, 0, 0])) []]) (.int .i64 (rd a1 x7_1)) (by kernel_rfl)) (fun _ hs => hs.cell hcq19 (by simp)) hS ?_
                            refine RunAny.y 7 (by kernel_rfl) (yl_pure (d := some 41) (v := .int .i64 a0) (k2 := [.inRegion (opsOf (pl Go.Proofs.Tryd.f13 [1, 1, 1, 0, 1, 0, 0, 1, 0, 0, 0])) []]) fun w => by kernel_rfl) (fun _ _ => trivial) hS ?_
                            obtain ⟨t23, ht23, h⟩ := Option.bind_eq_some_iff.mp h
                            refine RunAny.call 8 (d := some 42) (g := 14) (args := #[.int .i64 (rd a1 x7_1), .int .i64 a0]) (by kernel_rfl) (by kernel_rfl) (scrimlaw4_within.calls k (rd a1 x7_1) a0 t23 _ ht23) (by rintro _ _ ⟨rfl, hM_⟩; exact hS.below hM_.below) ?_
                            rintro _ W22 ⟨rfl, hM_⟩
                            replace hS := hS.below hM_.below
                            replace hM := hM.call hM_
                            clear hM_ ht23
                            refine RunAny.rebase hS ?_
                            replace hS := Still.refl W22 []
                            refine RunAny.y 9 (by kernel_rfl) (yl_pure (d := some 8) (v := .int .i64 (Int.tmod x7_1 a0)) (k2 := [.inRegion (opsOf (pl Go.Proofs.Tryd.f13 [1, 1, 1, 0, 1, 0, 0, 1, 0, 0, 0])) []]) fun w => by kernel_rfl) (fun _ _ => trivial) hS ?_
                            refine RunAny.y 10 (by kernel_rfl) (yl_pure (d := some 9) (v := .int .i64 t23) (k2 := [.inRegion (opsOf (pl Go.Proofs.Tryd.f13 [1, 1, 1, 0, 1, 0, 0, 1, 0, 0, 0])) []]) fun w => by kernel_rfl) (fun _ _ => trivial) hS ?_
                            refine RunAny.done (by kernel_rfl) ?_
                            clear hS
                            refine RunF.draw (Still ({ W22 with drawn := W22.drawn + 1 } : World) [.slice A5_0 x5_0.length c5_0]) (by kernel_rfl) (by kernel_rfl) ?_
                            have hMd25 := hM.drew
                            have hS := Still.refl ({ W22 with drawn := W22.drawn + 1 } : World) [.slice A5_0 x5_0.length c5_0]
                            generalize ({ W22 with drawn := W22.drawn + 1 } : World) = W24 at hMd25 hS ⊢
                            replace hM := hMd25
                            refine RunAny.y 0 (by kernel_rfl) (yl_pure (d := some 43) (v := .slice A5_0 x5_0.length c5_0) (k2 := [.inRegion (opsOf (pl Go.Proofs.Tryd.f13 [1, 1, 1, 0, 1, 0, 0, 1, 0, 0, 1])) []]) fun w => by kernel_rfl) (fun _ _ => trivial) hS ?_
                            refine RunAny.y 1 (by kernel_rfl) (yl_pure (d := some 44) (v := .int .i64 (Int.tmod x7_1 a0)) (k2 := [.inRegion (opsOf (pl Go.Proofs.Tryd.f13 [1, 1, 1, 0, 1, 0, 0, 1, 0, 0, 1])) []]) fun w => by kernel_rfl) (fun _ _ => trivial) hS ?_
                            refine RunAny.y 2 (by kernel_rfl) (yl_pure (d := some 45) (v := .slice A5_0 x5_0.length c5_0) (k2 := [.inRegion (opsOf (pl Go.Proofs.Tryd.f13 [1, 1, 1, 0, 1, 0, 0, 1, 0, 0, 1])) []]) fun w => by kernel_rfl) (fun _ _ => trivial) hS ?_
                            refine RunAny.y 3 (by kernel_rfl) (yl_pure (d := some 46) (v := .int .i64 t23) (k2 := [.inRegion (opsOf (pl Go.Proofs.Tryd.f13 [1, 1, 1, 0, 1, 0, 0, 1, 0, 0, 1])) []]) fun w => by kernel_rfl) (fun _ _ => trivial) hS ?_
                            refine RunAny.y 4 (by kernel_rfl) (yl_pure (d := some 47) (v := .slice A5_0 x5_0.length c5_0) (k2 := [.inRegion (opsOf (pl Go.Proofs.Tryd.f13 [1, 1, 1, 0, 1, 0, 0, 1, 0, 0, 1])) []]) fun w => by kernel_rfl) (fun _ _ => trivial) hS ?_
                            refine RunAny.y 5 (by kernel_rfl) (yl_pure (d := some 48) (v := .int .i64 t23) (k2 := [.inRegion (opsOf (pl Go.Proofs.Tryd.f13 [1, 1, 1, 0, 1, 0, 0, 1, 0, 0, 1])) []]) fun w => by kernel_rfl) (fun _ _ => trivial) hS ?_
                            rcases two (decide (0 ≤ t23)) with c27 | c27
                            · replace h := of_true h c27
                              rcases two (decide (t23 < (x5_0.length : Int))) with c28 | c28
                              · replace h := of_true h c28
                                obtain ⟨q26, hAq26, hcq26, hfq26, hlq26⟩ := hM.num_at 0 rfl (i := t23) (of_decide_eq_true c27) (by have h_ := of_decide_eq_true c28; omega)
                                refine RunAny.y 6 (by kernel_rfl) (idx_own (d := some 49) (A := A5_0) (m := x5_0.length) (i := t23) (k2 := [.inRegion (opsOf (pl Go.Proofs.Tryd.f13 [1, 1, 1, 0, 1, 0, 0, 1, 0, 0, 1])) []]) (by kernel_rfl) (of_decide_eq_true c27) (by have h_ := of_decide_eq_true c28; omega) hAq26) (fun _ _ => trivial) hS ?_
                                refine RunAny.y 8 (by kernel_rfl) (yl_pure (d := some 51) (v := .slice A5_0 x5_0.length c5_0) (k2 := [.inRegion (opsOf (pl Go.Proofs.Tryd.f13 [1, 1, 1, 0, 1, 0, 0, 1, 0, 0, 1])) []]) fun w => by kernel_rfl) (fun _ _ => trivial) hS ?_
                                refine RunAny.y 9 (by kernel_rfl) (yl_pure (d := some 52) (v := .int .i64 (Int.tmod x7_1 a0)) (k2 := [.inRegion (opsOf (pl Go.Proofs.Tryd.f13 [1, 1, 1, 0, 1, 0, 0, 1, 0, 0, 1])) []]) fun w => by kernel_rfl) (fun _ _ => trivial) hS ?_
                                rcases two (decide (0 ≤ (Int.tmod x7_1 a0))) with c30 | c30
                                · replace h := of_true h c30
                                  rcases two (decide ((Int.tmod x7_1 a0) < (x5_0.length : Int))) with c31 | c31
                                  · replace h := of_true h c31
                                    obtain ⟨q29, hAq29, hcq29, hfq29, hlq29⟩ := hM.num_at 0 rfl (i := Int.tmod x7_1 a0) (of_decide_eq_true c30) (by have h_ := of_decide_eq_true c31; omega)
                                    refine RunAny.y 10 (by kernel_rfl) (idx_own (d := some 53) (A := A5_0) (m := x5_0.length) (i := Int.tmod x7_1 a0) (k2 := [.inRegion (opsOf (pl Go.Proofs.Tryd.f13 [1, 1, 1, 0, 1, 0, 0, 1, 0, 0, 1])) []]) (by kernel_rfl) (of_decide_eq_true c30) (by have h_ := of_decide_eq_true c31; omega) hAq29) (fun _ _ => trivial) hS ?_
                                    have J32 : ∀ (W33 : World) (hS : Still W33 [.slice A5_0 x5_0.length c5_0] W33) (hM : Mem w W33 [⟨.slice A5_0 x5_0.length c5_0, 5, 1, nums .u8 x5_1⟩]) , RunAny Go.Proofs.Tryd.prog (Ret fun v w' => ∃ A0' n0' c0', v = .slice A0' n0' c0' ∧ Mem w w' [⟨.slice A0' n0' c0', 5, 1, nums .u8 r⟩]) 13 (rest1 (pl Go.Proofs.Tryd.f13 [1, 1, 1, 0, 1, 0, 0, 1, 0, 0, 1])) 58 (opsOf (pl Go.Proofs.Tryd.f13 [1, 1, 1, 0, 1, 0, 0, 1, 0, 0, 1])) (Still W33 [.slice A5_0 x5_0.length c5_0]) 4 [0, 1, 2, 3, 4, 5, 6, 8, 9, 10, 7, 11] [(0, .int .i64 a0), (1, .slice Ap1 a1.length cp1), (5, .slice A5_0 x5_0.length c5_0), (7, .int .i64 x7_1), (8, .int .i64 (Int.tmod x7_1 a0)), (9, .int .i64 t23), (34, .int .i64 x7_1), (35, .int .i64 a0), (36, .int .i64 (Int.tmod x7_1 a0)), (37, .slice Ap1 a1.length cp1), (38, .int .i64 x7_1), (39, .pointer (some (q19.add (x7_1 : Int).toNat))), (40, .int .i64 (rd a1 x7_1)), (41, .int .i64 a0), (42, .int .i64 t23), (43, .slice A5_0 x5_0.length c5_0), (44, .int .i64 (Int.tmod x7_1 a0)), (45, .slice A5_0 x5_0.length c5_0), (46, .int .i64 t23), (47, .slice A5_0 x5_0.length c5_0), (48, .int .i64 t23), (49, .pointer (some ⟨q26, (t23 : Int).toNat, none⟩)), (50, .int .u8 (rd x5_1 t23)), (51, .slice A5_0 x5_0.length c5_0), (52, .int .i64 (Int.tmod x7_1 a0)), (53, .pointer (some ⟨q29, (Int.tmod x7_1 a0 : Int).toNat, none⟩)), (54, .int .u8 (rd x5_1 (Int.tmod x7_1 a0)))] W33 := by
                                      intro W33 hS hM 
                                      rcases two (decide (0 ≤ (Int.tmod x7_1 a0))) with c35 | c35
                                      · replace h := of_true h c35
                                        rcases two (decide ((Int.tmod x7_1 a0) < (x5_0.length : Int))) with c36 | c36
                                        · replace h := of_true h c36
                                          obtain ⟨q34, hAq34, hcq34, hfq34, hlq34⟩ := hM.num_at 0 rfl (i := Int.tmod x7_1 a0) (of_decide_eq_true c35) (by have h_ := of_decide_eq_true c36; omega)
                                          refine RunAny.y 12 (by kernel_rfl) (idx_own (d := some 55) (A := A5_0) (m := x5_0.length) (i := Int.tmod x7_1 a0) (k2 := [.inRegion (opsOf (pl Go.Proofs.Tryd.f13 [1, 1, 1, 0, 1, 0, 0, 1, 0, 0, 1])) []]) (by kernel_rfl) (of_decide_eq_true c35) (by have h_ := of_decide_eq_true c36; omega) hAq34) (fun _ _ => trivial) hS ?_
                                          obtain ⟨g_, hA_, hc_, hf_, hl_⟩ := hM.num_at 0 rfl (i := Int.tmod x7_1 a0) (of_decide_eq_true c35) (by have h_ := of_decide_eq_true c36; omega)
                                          obtain rfl : q34 = g_ := by rw [hAq34] at hA_; injection hA_ with hA_; injection hA_
                                          have hS' := hS.set (v := .slice A5_0 x5_0.length c5_0) (g := q34) (i := (Int.tmod x7_1 a0 : Int).toNat) (by simp) (by rw [hAq34]; rfl) (.int .u8 (rd x5_1 t23))
                                          refine RunAny.doesU 13 (by kernel_rfl) (st_u (p := (⟨q34, (Int.tmod x7_1 a0 : Int).toNat, none⟩ : Addr)) (v := .int .u8 (rd x5_1 t23)) (k2 := [.inRegion (opsOf (pl Go.Proofs.Tryd.f13 [1, 1, 1, 0, 1, 0, 0, 1, 0, 0, 1])) []]) (by kernel_rfl) hc_ hf_) hS' ?_
                                          replace hM : Mem w (W33.setCell (⟨q34, (Int.tmod x7_1 a0 : Int).toNat, none⟩ : Addr) (.int .u8 (rd x5_1 t23))) [⟨.slice A5_0 x5_0.length c5_0, 5, 1, nums .u8 (x5_1.set (Int.tmod x7_1 a0 : Int).toNat (rd x5_1 t23))⟩] := Mem.put_num [] [] (hM.pick [0] rfl rfl) hAq34 _ hl_ _
                                          generalize W33.setCell (⟨q34, (Int.tmod x7_1 a0 : Int).toNat, none⟩ : Addr) (.int .u8 (rd x5_1 t23)) = W37 at hM hS' ⊢
                                          clear hc_ hf_ hl_ hA_ hcq34
                                          replace hS := hS'
                                          refine RunAny.rebase hS ?_
                                          replace hS := Still.refl W37 [.slice A5_0 x5_0.length c5_0]
                                          rcases two (decide (0 ≤ t23)) with c39 | c39
                                          · replace h := of_true h c39
                                            rcases two (decide (t23 < (x5_0.length : Int))) with c40 | c40
                                            · replace h := of_true h c40
                                              obtain ⟨q38, hAq38, hcq38, hfq38, hlq38⟩ := hM.num_at 0 rfl (i := t23) (of_decide_eq_true c39) (by have h_ := of_decide_eq_true c40; omega)
                                              refine RunAny.y 14 (by kernel_rfl) (idx_own (d := some 56) (A := A5_0) (m := x5_0.length) (i := t23) (k2 := [.inRegion (opsOf (pl Go.Proofs.Tryd.f13 [1, 1, 1, 0, 1, 0, 0, 1, 0, 0, 1])) []]) (by kernel_rfl) (of_decide_eq_true c39) (by have h_ := of_decide_eq_true c40; omega) hAq38) (fun _ _ => trivial) hS ?_
                                              obtain ⟨g_, hA_, hc_, hf_, hl_⟩ := hM.num_at 0 rfl (i := t23) (of_decide_eq_true c39) (by have h_ := of_decide_eq_true c40; omega)
                                              obtain rfl : q38 = g_ := by rw [hAq38] at hA_; injection hA_ with hA_; injection hA_
                                              have hS' := hS.set (v := .slice A5_0 x5_0.length c5_0) (g := q38) (i := (t23 : Int).toNat) (by simp) (by rw [hAq38]; rfl) (.int .u8 (rd x5_1 (Int.tmod x7_1 a0)))
                                              refine RunAny.doesU 15 (by kernel_rfl) (st_u (p := (⟨q38, (t23 : Int).toNat, none⟩ : Addr)) (v := .int .u8 (rd x5_1 (Int.tmod x7_1 a0))) (k2 := [.inRegion (opsOf (pl Go.Proofs.Tryd.f13 [1, 1, 1, 0, 1, 0, 0, 1, 0, 0, 1])) []]) (by kernel_rfl) hc_ hf_) hS' ?_
                                              replace hM : Mem w (W37.setCell (⟨q38, (t23 : Int).toNat, none⟩ : Addr) (.int .u8 (rd x5_1 (Int.tmod x7_1 a0)))) [⟨.slice A5_0 x5_0.length c5_0, 5, 1, nums .u8 ((x5_1.set (Int.tmod x7_1 a0 : Int).toNat (rd x5_1 t23)).set (t23 : Int).toNat (rd x5_1 (Int.tmod x7_1 a0)))⟩] := Mem.put_num [] [] (hM.pick [0] rfl rfl) hAq38 _ hl_ _
                                              generalize W37.setCell (⟨q38, (t23 : Int).toNat, none⟩ : Addr) (.int .u8 (rd x5_1 (Int.tmod x7_1 a0))) = W41 at hM hS' ⊢
                                              clear hc_ hf_ hl_ hA_ hcq38
                                              replace hS := hS'
                                              refine RunAny.rebase hS ?_
                                              replace hS := Still.refl W41 [.slice A5_0 x5_0.length c5_0]
                                              refine RunAny.done (by kernel_rfl) ?_
                                              clear hS
                                              refine RunF.go 7 [0, 1, 5, 7] (k' := (pl Go.Proofs.Tryd.f13 [1, 1, 1, 0, 1, 0, 0])) (L' := [(0, .int .i64 a0), (1, .slice Ap1 a1.length cp1), (5, .slice A5_0 x5_0.length c5_0), (7, .int .i64 (I64 (x7_1 + 1)))]) (w' := W41) (by kernel_rfl) ?_
                                              exact ih1 k (by omega) ((x5_1.set (Int.tmod x7_1 a0 : Int).toNat (rd x5_1 t23)).set (t23 : Int).toNat (rd x5_1 (Int.tmod x7_1 a0))) (I64 (x7_1 + 1)) _ (hM.pick [0] rfl rfl) h
                                            · replace h := of_false h c40
                                              cases h
                                          · replace h := of_false h c39
                                            cases h
                                        · replace h := of_false h c36
                                          cases h
                                      · replace h := of_false h c35
                                        cases h
                                    have J42 : ∀ (W43 : World) (hS : Still W43 [.slice A5_0 x5_0.length c5_0] W43) (hM : Mem w W43 [⟨.slice A5_0 x5_0.length c5_0, 5, 1, nums .u8 x5_1⟩]) (hcq26 : W43.cell? ⟨q26, (t23 : Int).toNat, none⟩ = some (.int .u8 (rd x5_1 t23))), RunAny Go.Proofs.Tryd.prog (Ret fun v w' => ∃ A0' n0' c0', v = .slice A0' n0' c0' ∧ Mem w w' [⟨.slice A0' n0' c0', 5, 1, nums .u8 r⟩]) 13 (rest1 (pl Go.Proofs.Tryd.f13 [1, 1, 1, 0, 1, 0, 0, 1, 0, 0, 1])) 58 (opsOf (pl Go.Proofs.Tryd.f13 [1, 1, 1, 0, 1, 0, 0, 1, 0, 0, 1])) (Still W43 [.slice A5_0 x5_0.length c5_0]) 5 [0, 1, 2, 3, 4, 5, 6, 8, 9, 10, 11] [(0, .int .i64 a0), (1, .slice Ap1 a1.length cp1), (5, .slice A5_0 x5_0.length c5_0), (7, .int .i64 x7_1), (8, .int .i64 (Int.tmod x7_1 a0)), (9, .int .i64 t23), (34, .int .i64 x7_1), (35, .int .i64 a0), (36, .int .i64 (Int.tmod x7_1 a0)), (37, .slice Ap1 a1.length cp1), (38, .int .i64 x7_1), (39, .pointer (some (q19.add (x7_1 : Int).toNat))), (40, .int .i64 (rd a1 x7_1)), (41, .int .i64 a0), (42, .int .i64 t23), (43, .slice A5_0 x5_0.length c5_0), (44, .int .i64 (Int.tmod x7_1 a0)), (45, .slice A5_0 x5_0.length c5_0), (46, .int .i64 t23), (47, .slice A5_0 x5_0.length c5_0), (48, .int .i64 t23), (49, .pointer (some ⟨q26, (t23 : Int).toNat, none⟩)), (51, .slice A5_0 x5_0.length c5_0), (52, .int .i64 (Int.tmod x7_1 a0)), (53, .pointer (some ⟨q29, (Int.tmod x7_1 a0 : Int).toNat, none⟩)), (54, .int .u8 (rd x5_1 (Int.tmod x7_1 a0)))] W43 := by
                                      intro W43 hS hM hcq26
                                      refine RunAny.does 7 (by kernel_rfl) ((ld_y (d := some 50) (p := ⟨q26, (t23 : Int).toNat, none⟩) (k2 := [.inRegion (opsOf (pl Go.Proofs.Tryd.f13 [1, 1, 1, 0, 1, 0, 0, 1, 0, 0, 1])) []]) (.int .u8 (rd x5_1 t23)) (by kernel_rfl)).does hcq26) hS ?_
                                      exact RunAny.same [0, 1, 2, 3, 4, 5, 6, 8, 9, 10, 7, 11] (by kernel_rfl) [0, 1, 5, 7, 8, 9, 34, 35, 36, 37, 38, 39, 40, 41, 42, 43, 44, 45, 46, 47, 48, 49, 50, 51, 52, 53, 54] (by kernel_rfl) (J32 _ hS (hM.pick [0] rfl rfl))
                                    have J44 : ∀ (W45 : World) (hS : Still W45 [.slice A5_0 x5_0.length c5_0] W45) (hM : Mem w W45 [⟨.slice A5_0 x5_0.length c5_0, 5, 1, nums .u8 x5_1⟩]) (hcq29 : W45.cell? ⟨q29, (Int.tmod x7_1 a0 : Int).toNat, none⟩ = some (.int .u8 (rd x5_1 (Int.tmod x7_1 a0)))), RunAny Go.Proofs.Tryd.prog (Ret fun v w' => ∃ A0' n0' c0', v = .slice A0' n0' c0' ∧ Mem w w' [⟨.slice A0' n0' c0', 5, 1, nums .u8 r⟩]) 13 (rest1 (pl Go.Proofs.Tryd.f13 [1, 1, 1, 0, 1, 0, 0, 1, 0, 0, 1])) 58 (opsOf (pl Go.Proofs.Tryd.f13 [1, 1, 1, 0, 1, 0, 0, 1, 0, 0, 1])) (Still W45 [.slice A5_0 x5_0.length c5_0]) 5 [0, 1, 2, 3, 4, 5, 6, 8, 9, 10, 7] [(0, .int .i64 a0), (1, .slice Ap1 a1.length cp1), (5, .slice A5_0 x5_0.length c5_0), (7, .int .i64 x7_1), (8, .int .i64 (Int.tmod x7_1 a0)), (9, .int .i64 t23), (34, .int .i64 x7_1), (35, .int .i64 a0), (36, .int .i64 (Int.tmod x7_1 a0)), (37, .slice Ap1 a1.length cp1), (38, .int .i64 x7_1), (39, .pointer (some (q19.add (x7_1 : Int).toNat))), (40, .int .i64 (rd a1 x7_1)), (41, .int .i64 a0), (42, .int .i64 t23), (43, .slice A5_0 x5_0.length c5_0), (44, .int .i64 (Int.tmod x7_1 a0)), (45, .slice A5_0 x5_0.length c5_0), (46, .int .i64 t23), (47, .slice A5_0 x5_0.length c5_0), (48, .int .i64 t23), (49, .pointer (some ⟨q26, (t23 : Int).toNat, none⟩)), (50, .int .u8 (rd x5_1 t23)), (51, .slice A5_0 x5_0.length c5_0), (52, .int .i64 (Int.tmod x7_1 a0)), (53, .pointer (some ⟨q29, (Int.tmod x7_1 a0 : Int).toNat, none⟩))] W45 := by
                                      intro W45 hS hM hcq29
                                      refine RunAny.does 11 (by kernel_rfl) ((ld_y (d := some 54) (p := ⟨q29, (Int.tmod x7_1 a0 : Int).toNat, none⟩) (k2 := [.inRegion (opsOf (pl Go.Proofs.Tryd.f13 [1, 1, 1, 0, 1, 0, 0, 1, 0, 0, 1])) []]) (.int .u8 (rd x5_1 (Int.tmod x7_1 a0))) (by kernel_rfl)).does hcq29) hS ?_
                                      exact RunAny.same [0, 1, 2, 3, 4, 5, 6, 8, 9, 10, 7, 11] (by kernel_rfl) [0, 1, 5, 7, 8, 9, 34, 35, 36, 37, 38, 39, 40, 41, 42, 43, 44, 45, 46, 47, 48, 49, 50, 51, 52, 53, 54] (by kernel_rfl) (J32 _ hS (hM.pick [0] rfl rfl))
                                    refine RunAny.all [7, 11] (by kernel_rfl) (by simp) ?_
                                    refine ⟨?_, ?_, trivial⟩
                                    · refine Stepped.does 7 ((ld_y (d := some 50) (p := ⟨q26, (t23 : Int).toNat, none⟩) (k2 := [.inRegion (opsOf (pl Go.Proofs.Tryd.f13 [1, 1, 1, 0, 1, 0, 0, 1, 0, 0, 1])) []]) (.int .u8 (rd x5_1 t23)) (by kernel_rfl)).does hcq26) hS ?_
                                      exact RunAny.same [0, 1, 2, 3, 4, 5, 6, 8, 9, 10, 7] (by kernel_rfl) [0, 1, 5, 7, 8, 9, 34, 35, 36, 37, 38, 39, 40, 41, 42, 43, 44, 45, 46, 47, 48, 49, 50, 51, 52, 53] (by kernel_rfl) (J44 _ hS (hM.pick [0] rfl rfl) hcq29)
                                    · refine Stepped.does 11 ((ld_y (d := some 54) (p := ⟨q29, (Int.tmod x7_1 a0 : Int).toNat, none⟩) (k2 := [.inRegion (opsOf (pl Go.Proofs.Tryd.f13 [1, 1, 1, 0, 1, 0, 0, 1, 0, 0, 1])) []]) (.int .u8 (rd x5_1 (Int.tmod x7_1 a0))) (by kernel_rfl)).does hcq29) hS ?_
                                      exact RunAny.same [0, 1, 2, 3, 4, 5, 6, 8, 9, 10, 11] (by kernel_rfl) [0, 1, 5, 7, 8, 9, 34, 35, 36, 37, 38, 39, 40, 41, 42, 43, 44, 45, 46, 47, 48, 49, 51, 52, 53, 54] (by kernel_rfl) (J42 _ hS (hM.pick [0] rfl rfl) hcq26)
                                  · replace h := of_false h c31
                                    cases h
                                · replace h := of_false h c30
                                  cases h
                              · replace h := of_false h c28
                                cases h
                            · replace h := of_false h c27
                              cases h
                          · replace h := of_false h c21
                            cases h
                        · replace h := of_false h c20
                          cases h
                    · replace h := of_false h c15
                      refine RunF.know 31 (b := false) (by kernel_rfl) c15 ?_
                      refine RunF.go 7 [4] (k' := (pl Go.Proofs.Tryd.f13 [1, 1, 1, 1, 1])) (L' := [(4, .slice A5_0 x5_0.length c5_0)]) (w' := W) (by kernel_rfl) ?_
                      obtain rfl := Option.some.inj h
                      exact RunF.ret1 4 (.slice A5_0 x5_0.length c5_0) (fn := Go.Proofs.Tryd.f13) Go.Proofs.Tryd.func13 (by kernel_rfl) (by kernel_rfl) (by kernel_rfl) ⟨_, rfl, A5_0, x5_0.length, c5_0, rfl, (hM.pick [0] rfl rfl)⟩
                  · replace h := of_false h c14
                    refine RunF.know 28 (b := false) (by kernel_rfl) c14 ?_
                    refine RunF.go 11 [4] (k' := (pl Go.Proofs.Tryd.f13 [1, 1, 1, 1, 1])) (L' := [(4, .slice A5_0 x5_0.length c5_0)]) (w' := W) (by kernel_rfl) ?_
                    obtain rfl := Option.some.inj h
                    exact RunF.ret1 4 (.slice A5_0 x5_0.length c5_0) (fn := Go.Proofs.Tryd.f13) Go.Proofs.Tryd.func13 (by kernel_rfl) (by kernel_rfl) (by kernel_rfl) ⟨_, rfl, A5_0, x5_0.length, c5_0, rfl, (hM.pick [0] rfl rfl)⟩
                · replace h := of_false h c13
                  refine RunF.know 24 (b := false) (by kernel_rfl) c13 ?_
                  refine RunF.go 15 [4] (k' := (pl Go.Proofs.Tryd.f13 [1, 1, 1, 1, 1])) (L' := [(4, .slice A5_0 x5_0.length c5_0)]) (w' := W) (by kernel_rfl) ?_
                  obtain rfl := Option.some.inj h
                  exact RunF.ret1 4 (.slice A5_0 x5_0.length c5_0) (fn := Go.Proofs.Tryd.f13) Go.Proofs.Tryd.func13 (by kernel_rfl) (by kernel_rfl) (by kernel_rfl) ⟨_, rfl, A5_0, x5_0.length, c5_0, rfl, (hM.pick [0] rfl rfl)⟩
          exact l1 k (Nat.le_refl _) x5_0 0 _ (hM.pick [0] rfl rfl) h
  exact l0 k (Nat.le_refl _) none 0 ([] : List Int) 0 _ (hM.pick [0] rfl rfl) h

/-! ### scrim/scrimref4.Is: function 18 -/
def scrimref4_Is.l0 : Nat → (List Int) → (List Bool) → Int → Option (Bool)
  | 0, _, _, _ => none
  | k + 1, a0, x3_0, x4_0 => if (decide (x4_0 < (a0.length : Int))) = true then (if (decide (0 ≤ x4_0)) = true then (if (decide (x4_0 < (a0.length : Int))) = true then ((some (decide ((I64 (rd a0 x4_0)) ≥ (a0.length : Int)) : Bool)).bind fun y8 => (if y8 = true then (some false) else (if (decide (0 ≤ x4_0)) = true then (if (decide (x4_0 < (a0.length : Int))) = true then (if (decide (0 ≤ (rd a0 x4_0))) = true then (if (decide ((rd a0 x4_0) < (256 : Int))) = true then (if (rdb x3_0 (rd a0 x4_0)) = true then (some false) else (if (decide (0 ≤ x4_0)) = true then (if (decide (x4_0 < (a0.length : Int))) = true then (if (decide (0 ≤ (rd a0 x4_0))) = true then (if (decide ((rd a0 x4_0) < (256 : Int))) = true then (scrimref4_Is.l0 k a0 (x3_0.set (rd a0 x4_0 : Int).toNat true) (I64 (x4_0 + 1))) else (none)) else (none)) else (none)) else (none))) else (none)) else (none)) else (none)) else (none)))) else (none)) else (none)) else (some true)
def scrimref4_Is.f (k : Nat) (a0 : List Int) : Option (Bool) := scrimref4_Is.l0 k a0 (List.replicate 256 false) 0
set_option maxRecDepth 100000 in
theorem scrimref4_Is.calls (k : Nat) (Ap0 : Option Addr) (np0 cp0 : Nat) (a0 : List Int) (r : Bool) (w : World) (hr0 : Rd w (.slice Ap0 np0 cp0) (nums .u8 a0)) (h : scrimref4_Is.f k a0 = some r) :
    Calls Go.Proofs.Tryd.prog 18 #[(.slice Ap0 np0 cp0)] w (Ret fun v w' => v = .bool r ∧ Mem w w' []) := by
  obtain rfl : a0.length = np0 := by have h_ := hr0.1; simpa [nums_length, bools_length, strs_length] using h_
  unfold scrimref4_Is.f at h
  refine calls_of [.slice Ap0 a0.length cp0] (fn := Go.Proofs.Tryd.f18) Go.Proofs.Tryd.func18 (by kernel_rfl) (by kernel_rfl) ?_
  have hM := Mem.refl w
  refine RunF.go 6 [0] (k' := (pin Go.Proofs.Tryd.f18 [1, 0] 0)) (L' := [(0, .slice Ap0 a0.length cp0)]) (w' := w) (by kernel_rfl) ?_
  obtain ⟨W1, hD, hM', hB_⟩ := mk_does (P := Go.Proofs.Tryd.prog) (n := 35) (k := (pin Go.Proofs.Tryd.f18 [1, 0] 0)) (L := [(0, .slice Ap0 a0.length cp0)]) (d := some 5) (e := 4) (z := .bool false) (l := 256) (c := 256) (k2 := (pin Go.Proofs.Tryd.f18 [1, 0] 1)) (by kernel_rfl) (by omega) (by omega) (by omega) hM
  rw [rep_bools] at hM'
  refine RunF.does hD ?_
  replace hM := hM'; clear hD hM'
  generalize w.heap.size = g2 at hM ⊢
  refine RunF.go 9 [0, 3, 4] (k' := (pl Go.Proofs.Tryd.f18 [1, 1, 0, 1, 0, 0])) (L' := [(0, .slice Ap0 a0.length cp0), (3, .slice (some ⟨g2, 0, none⟩) 256 256), (4, .int .i64 0)]) (w' := W1) (by kernel_rfl) ?_
  have l0 : ∀ (k_ : Nat), k_ ≤ k → ∀ (x3_0 : List Bool) (x4_0 : Int) (W : World) (hM : Mem w W [⟨.slice (some ⟨g2, 0, none⟩) 256 256, 4, 1, bools x3_0⟩]) (h : scrimref4_Is.l0 k_ a0 x3_0 x4_0 = some r), RunF Go.Proofs.Tryd.prog (Ret fun v w' => v = .bool r ∧ Mem w w' []) 18 (pl Go.Proofs.Tryd.f18 [1, 1, 0, 1, 0, 0]) 35 [(0, .slice Ap0 a0.length cp0), (3, .slice (some ⟨g2, 0, none⟩) 256 256), (4, .int .i64 x4_0)] W := by
    intro k_
    induction k_ using Nat.strongRecOn with
    | _ k_ ih0 =>
      intro hk x3_0 x4_0 W hM h
      cases k_ with
      | zero => exact absurd h (by simp [scrimref4_Is.l0])
      | succ k =>
        simp only [scrimref4_Is.l0] at h
        replace ih0 : ∀ m, m ≤ k → _ := fun m hm => ih0 m (by omega) (by omega)
        refine RunF.go 8 [0, 3, 4, 9] (k' := (pl Go.Proofs.Tryd.f18 [1, 1, 0, 1, 0, 0, 0, 1])) (L' := [(0, .slice Ap0 a0.length cp0), (3, .slice (some ⟨g2, 0, none⟩) 256 256), (4, .int .i64 x4_0), (9, .bool (decide (x4_0 < (a0.length : Int))))]) (w' := W) (by kernel_rfl) ?_
        rcases two (decide (x4_0 < (a0.length : Int))) with c4 | c4
        · replace h := of_true h c4
          refine RunF.know 9 (b := true) (by kernel_rfl) c4 ?_
          refine RunF.go 9 [0, 3, 4, 12, 13] (k' := (pin Go.Proofs.Tryd.f18 [1, 1, 0, 1, 0, 0, 1, 0, 0, 0, 0] 2)) (L' := [(0, .slice Ap0 a0.length cp0), (3, .slice (some ⟨g2, 0, none⟩) 256 256), (4, .int .i64 x4_0), (12, .slice Ap0 a0.length cp0), (13, .int .i64 x4_0)]) (w' := W) (by kernel_rfl) ?_
          rcases two (decide (0 ≤ x4_0)) with c6 | c6
          · replace h := of_true h c6
            rcases two (decide (x4_0 < (a0.length : Int))) with c7 | c7
            · replace h := of_true h c7
              obtain ⟨q5, hAq5, hcq5⟩ := Rd.num (hr0.mono hM.below) (i := x4_0) (of_decide_eq_true c6) (by have h_ := of_decide_eq_true c7; omega)
              refine RunF.y (idx_y (d := some 14) (A := Ap0) (m := a0.length) (i := x4_0) (k2 := (pin Go.Proofs.Tryd.f18 [1, 1, 0, 1, 0, 0, 1, 0, 0, 0, 0] 3)) (by kernel_rfl) (of_decide_eq_true c6) (by have h_ := of_decide_eq_true c7; omega) hAq5) trivial ?_
              refine RunF.y (ld_y (d := some 15) (p := (q5.add (x4_0 : Int).toNat)) (k2 := (pin Go.Proofs.Tryd.f18 [1, 1, 0, 1, 0, 0, 1, 0, 0, 0, 0] 4)) (.int .u8 (rd a0 x4_0)) (by kernel_rfl)) hcq5 ?_
              refine RunF.go 5 [0, 3, 4, 20] (k' := (pin Go.Proofs.Tryd.f18 [1, 1, 0, 1, 0, 0, 1, 0, 0, 0, 0] 9)) (L' := [(0, .slice Ap0 a0.length cp0), (3, .slice (some ⟨g2, 0, none⟩) 256 256), (4, .int .i64 x4_0), (20, .bool (decide ((I64 (rd a0 x4_0)) ≥ (a0.length : Int))))]) (w' := W) (by kernel_rfl) ?_
              obtain ⟨y8, hy, h⟩ := Option.bind_eq_some_iff.mp h
              rw [show (decide ((I64 (rd a0 x4_0)) ≥ (a0.length : Int))) = y8 from Option.some.inj hy]
              clear hy
              rcases two (y8) with c9 | c9
              · replace h := of_true h c9
                refine RunF.know 20 (b := true) (by kernel_rfl) c9 ?_
                refine RunF.go 14 [2] (k' := (pl Go.Proofs.Tryd.f18 [1, 1, 0, 1, 0, 0, 1, 0, 0, 0, 1, 0, 1])) (L' := [(2, .bool false)]) (w' := W) (by kernel_rfl) ?_
                obtain rfl := Option.some.inj h
                exact RunF.ret1 2 (.bool false) (fn := Go.Proofs.Tryd.f18) Go.Proofs.Tryd.func18 (by kernel_rfl) (by kernel_rfl) (by kernel_rfl) ⟨_, rfl, rfl, (hM.pick [] rfl rfl)⟩
              · replace h := of_false h c9
                refine RunF.know 20 (b := false) (by kernel_rfl) c9 ?_
                refine RunF.go 3 [0, 3, 4, 20, 21, 22, 23] (k' := (pin Go.Proofs.Tryd.f18 [1, 1, 0, 1, 0, 0, 1, 0, 0, 0, 0] 12)) (L' := [(0, .slice Ap0 a0.length cp0), (3, .slice (some ⟨g2, 0, none⟩) 256 256), (4, .int .i64 x4_0), (20, .bool false), (21, .slice (some ⟨g2, 0, none⟩) 256 256), (22, .slice Ap0 a0.length cp0), (23, .int .i64 x4_0)]) (w' := W) (by kernel_rfl) ?_
                rcases two (decide (0 ≤ x4_0)) with c11 | c11
                · replace h := of_true h c11
                  rcases two (decide (x4_0 < (a0.length : Int))) with c12 | c12
                  · replace h := of_true h c12
                    obtain ⟨q10, hAq10, hcq10⟩ := Rd.num (hr0.mono hM.below) (i := x4_0) (of_decide_eq_true c11) (by have h_ := of_decide_eq_true c12; omega)
                    refine RunF.y (idx_y (d := some 24) (A := Ap0) (m := a0.length) (i := x4_0) (k2 := (pin Go.Proofs.Tryd.f18 [1, 1, 0, 1, 0, 0, 1, 0, 0, 0, 0] 13)) (by kernel_rfl) (of_decide_eq_true c11) (by have h_ := of_decide_eq_true c12; omega) hAq10) trivial ?_
                    refine RunF.y (ld_y (d := some 25) (p := (q10.add (x4_0 : Int).toNat)) (k2 := (pin Go.Proofs.Tryd.f18 [1, 1, 0, 1, 0, 0, 1, 0, 0, 0, 0] 14)) (.int .u8 (rd a0 x4_0)) (by kernel_rfl)) hcq10 ?_
                    rcases two (decide (0 ≤ (rd a0 x4_0))) with c14 | c14
                    · replace h := of_true h c14
                      rcases two (decide ((rd a0 x4_0) < (256 : Int))) with c15 | c15
                      · replace h := of_true h c15
                        obtain ⟨q13, hAq13, hcq13, hfq13, hlq13⟩ := hM.bool_at 0 rfl (i := rd a0 x4_0) (of_decide_eq_true c14) (by have h_ := of_decide_eq_true c15; omega)
                        refine RunF.y (idx_own (d := some 26) (A := (some ⟨g2, 0, none⟩)) (m := 256) (i := rd a0 x4_0) (k2 := (pin Go.Proofs.Tryd.f18 [1, 1, 0, 1, 0, 0, 1, 0, 0, 0, 0] 15)) (by kernel_rfl) (of_decide_eq_true c14) (by have h_ := of_decide_eq_true c15; omega) hAq13) trivial ?_
                        refine RunF.y (ld_y (d := some 27) (p := ⟨q13, (rd a0 x4_0 : Int).toNat, none⟩) (k2 := (pin Go.Proofs.Tryd.f18 [1, 1, 0, 1, 0, 0, 1, 0, 0, 0, 0] 16)) (.bool (rdb x3_0 (rd a0 x4_0))) (by kernel_rfl)) hcq13 ?_
                        refine RunF.go 2 [0, 3, 4, 28] (k' := (pl Go.Proofs.Tryd.f18 [1, 1, 0, 1, 0, 0, 1, 0, 0, 0, 1])) (L' := [(0, .slice Ap0 a0.length cp0), (3, .slice (some ⟨g2, 0, none⟩) 256 256), (4, .int .i64 x4_0), (28, .bool (rdb x3_0 (rd a0 x4_0)))]) (w' := W) (by kernel_rfl) ?_
                        rcases two (rdb x3_0 (rd a0 x4_0)) with c16 | c16
                        · replace h := of_true h c16
                          refine RunF.know 28 (b := true) (by kernel_rfl) c16 ?_
                          refine RunF.go 5 [2] (k' := (pl Go.Proofs.Tryd.f18 [1, 1, 0, 1, 0, 0, 1, 0, 0, 0, 1, 0, 1])) (L' := [(2, .bool false)]) (w' := W) (by kernel_rfl) ?_
                          obtain rfl := Option.some.inj h
                          exact RunF.ret1 2 (.bool false) (fn := Go.Proofs.Tryd.f18) Go.Proofs.Tryd.func18 (by kernel_rfl) (by kernel_rfl) (by kernel_rfl) ⟨_, rfl, rfl, (hM.pick [] rfl rfl)⟩
                        · replace h := of_false h c16
                          refine RunF.know 28 (b := false) (by kernel_rfl) c16 ?_
                          refine RunF.go 6 [0, 3, 4, 29, 30, 31] (k' := (pin Go.Proofs.Tryd.f18 [1, 1, 0, 1, 0, 0, 1, 0, 0, 1] 3)) (L' := [(0, .slice Ap0 a0.length cp0), (3, .slice (some ⟨g2, 0, none⟩) 256 256), (4, .int .i64 x4_0), (29, .slice (some ⟨g2, 0, none⟩) 256 256), (30, .slice Ap0 a0.length cp0), (31, .int .i64 x4_0)]) (w' := W) (by kernel_rfl) ?_
                          rcases two (decide (0 ≤ x4_0)) with c18 | c18
                          · replace h := of_true h c18
                            rcases two (decide (x4_0 < (a0.length : Int))) with c19 | c19
                            · replace h := of_true h c19
                              obtain ⟨q17, hAq17, hcq17⟩ := Rd.num (hr0.mono hM.below) (i := x4_0) (of_decide_eq_true c18) (by have h_ := of_decide_eq_true c19; omega)
                              refine RunF.y (idx_y (d := some 32) (A := Ap0) (m := a0.length) (i := x4_0) (k2 := (pin Go.Proofs.Tryd.f18 [1, 1, 0, 1, 0, 0, 1, 0, 0, 1] 4)) (by kernel_rfl) (of_decide_eq_true c18) (by have h_ := of_decide_eq_true c19; omega) hAq17) trivial ?_
                              refine RunF.y (ld_y (d := some 33) (p := (q17.add (x4_0 : Int).toNat)) (k2 := (pin Go.Proofs.Tryd.f18 [1, 1, 0, 1, 0, 0, 1, 0, 0, 1] 5)) (.int .u8 (rd a0 x4_0)) (by kernel_rfl)) hcq17 ?_
                              rcases two (decide (0 ≤ (rd a0 x4_0))) with c21 | c21
                              · replace h := of_true h c21
                                rcases two (decide ((rd a0 x4_0) < (256 : Int))) with c22 | c22
                                · replace h := of_true h c22
                                  obtain ⟨q20, hAq20, hcq20, hfq20, hlq20⟩ := hM.bool_at 0 rfl (i := rd a0 x4_0) (of_decide_eq_true c21) (by have h_ := of_decide_eq_true c22; omega)
                                  refine RunF.y (idx_own (d := some 34) (A := (some ⟨g2, 0, none⟩)) (m := 256) (i := rd a0 x4_0) (k2 := (pin Go.Proofs.Tryd.f18 [1, 1, 0, 1, 0, 0, 1, 0, 0, 1] 6)) (by kernel_rfl) (of_decide_eq_true c21) (by have h_ := of_decide_eq_true c22; omega) hAq20) trivial ?_
                                  obtain ⟨g_, hA_, hc_, hf_, hl_⟩ := hM.bool_at 0 rfl (i := rd a0 x4_0) (of_decide_eq_true c21) (by have h_ := of_decide_eq_true c22; omega)
                                  obtain rfl : q20 = g_ := by rw [hAq20] at hA_; injection hA_ with hA_; injection hA_
                                  refine RunF.doesU (st_u (p := (⟨q20, (rd a0 x4_0 : Int).toNat, none⟩ : Addr)) (v := .bool true) (k2 := (pin Go.Proofs.Tryd.f18 [1, 1, 0, 1, 0, 0, 1, 0, 0, 1] 7)) (by kernel_rfl) hc_ hf_) ?_
                                  replace hM : Mem w (W.setCell (⟨q20, (rd a0 x4_0 : Int).toNat, none⟩ : Addr) (.bool true)) [⟨.slice (some ⟨g2, 0, none⟩) 256 256, 4, 1, bools (x3_0.set (rd a0 x4_0 : Int).toNat true)⟩] := Mem.put_bool [] [] (hM.pick [0] rfl rfl) hAq20 _ hl_ _
                                  generalize W.setCell (⟨q20, (rd a0 x4_0 : Int).toNat, none⟩ : Addr) (.bool true) = W23 at hM ⊢
                                  clear hc_ hf_ hl_ hA_ hcq20
                                  refine RunF.go 8 [0, 3, 4] (k' := (pl Go.Proofs.Tryd.f18 [1, 1, 0, 1, 0, 0])) (L' := [(0, .slice Ap0 a0.length cp0), (3, .slice (some ⟨g2, 0, none⟩) 256 256), (4, .int .i64 (I64 (x4_0 + 1)))]) (w' := W23) (by kernel_rfl) ?_
                                  exact ih0 k (by omega) (x3_0.set (rd a0 x4_0 : Int).toNat true) (I64 (x4_0 + 1)) _ (hM.pick [0] rfl rfl) h
                                · replace h := of_false h c22
                                  cases h
                              · replace h := of_false h c21
                                cases h
                            · replace h := of_false h c19
                              cases h
                          · replace h := of_false h c18
                            cases h
                      · replace h := of_false h c15
                        cases h
                    · replace h := of_false h c14
                      cases h
                  · replace h := of_false h c12
                    cases h
                · replace h := of_false h c11
                  cases h
            · replace h := of_false h c7
              cases h
          · replace h := of_false h c6
            cases h
        · replace h := of_false h c4
          refine RunF.know 9 (b := false) (by kernel_rfl) c4 ?_
          refine RunF.go 6 [2] (k' := (pl Go.Proofs.Tryd.f18 [1, 1, 1, 1])) (L' := [(2, .bool true)]) (w' := W) (by kernel_rfl) ?_
          obtain rfl := Option.some.inj h
          exact RunF.ret1 2 (.bool true) (fn := Go.Proofs.Tryd.f18) Go.Proofs.Tryd.func18 (by kernel_rfl) (by kernel_rfl) (by kernel_rfl) ⟨_, rfl, rfl, (hM.pick [] rfl rfl)⟩
  exact l0 k (Nat.le_refl _) (List.replicate 256 false) 0 _ (hM.pick [0] rfl rfl) h

/-! ### scrim/scrimref4.Back: function 16 -/
def scrimref4_Back.l0 : Nat → (List Int) → (List Int) → Int → Option (List Int × Bool)
  | 0, _, _, _ => none
  | k + 1, a0, x4_0, x5_0 => if (decide (x5_0 < (a0.length : Int))) = true then (if (decide (0 ≤ x5_0)) = true then (if (decide (x5_0 < (a0.length : Int))) = true then (if (decide (0 ≤ (rd a0 x5_0))) = true then (if (decide ((rd a0 x5_0) < (((a0.length : Int)).toNat : Int))) = true then (scrimref4_Back.l0 k a0 (x4_0.set (rd a0 x5_0 : Int).toNat (U8 (x5_0))) (I64 (x5_0 + 1))) else (none)) else (none)) else (none)) else (none)) else (some (x4_0, true))
def scrimref4_Back.f (k : Nat) (a0 : List Int) : Option (List Int × Bool) := (scrimref4_Is.f k a0).bind fun t2 => (if (!t2) = true then (some (([] : List Int), false)) else (if (decide (0 ≤ (a0.length : Int))) = true then (if (decide ((a0.length : Int) ≤ 1000000000)) = true then (scrimref4_Back.l0 k a0 (List.replicate (((a0.length : Int)).toNat) (0 : Int)) 0) else (none)) else (none)))
set_option maxRecDepth 100000 in
theorem scrimref4_Back.calls (k : Nat) (Ap0 : Option Addr) (np0 cp0 : Nat) (a0 : List Int) (r : List Int × Bool) (w : World) (hr0 : Rd w (.slice Ap0 np0 cp0) (nums .u8 a0)) (h : scrimref4_Back.f k a0 = some r) :
    Calls Go.Proofs.Tryd.prog 16 #[(.slice Ap0 np0 cp0)] w (Ret fun v w' => ∃ A0' n0' c0', v = .tuple #[.slice A0' n0' c0', .bool r.2] ∧ Mem w w' [⟨.slice A0' n0' c0', 5, 1, nums .u8 r.1⟩]) := by
  obtain rfl : a0.length = np0 := by have h_ := hr0.1; simpa [nums_length, bools_length, strs_length] using h_
  unfold scrimref4_Back.f at h
  refine calls_of [.slice Ap0 a0.length cp0] (fn := Go.Proofs.Tryd.f16) Go.Proofs.Tryd.func16 (by kernel_rfl) (by kernel_rfl) ?_
  have hM := Mem.refl w
  refine RunF.go 9 [0, 6] (k' := (pin Go.Proofs.Tryd.f16 [1, 0, 0] 1)) (L' := [(0, .slice Ap0 a0.length cp0), (6, .slice Ap0 a0.length cp0)]) (w' := w) (by kernel_rfl) ?_
  obtain ⟨t2, ht2, h⟩ := Option.bind_eq_some_iff.mp h
  refine RunF.call (d := some 7) (g := 18) (args := #[.slice Ap0 a0.length cp0]) (k2 := (pin Go.Proofs.Tryd.f16 [1, 0, 0] 2)) (by kernel_rfl) (scrimref4_Is.calls k Ap0 a0.length cp0 a0 t2 _ (hr0.mono hM.below) ht2) ?_
  rintro _ W1 ⟨rfl, hM_⟩
  replace hM := hM.call hM_
  clear hM_ ht2
  refine RunF.go 2 [0, 8] (k' := (pl Go.Proofs.Tryd.f16 [1, 0, 1])) (L' := [(0, .slice Ap0 a0.length cp0), (8, .bool (!t2))]) (w' := W1) (by kernel_rfl) ?_
  rcases two (!t2) with c3 | c3
  · replace h := of_true h c3
    refine RunF.know 8 (b := true) (by kernel_rfl) c3 ?_
    refine RunF.go 6 [2, 3] (k' := (pl Go.Proofs.Tryd.f16 [1, 0, 1, 0, 1])) (L' := [(2, .slice none 0 0), (3, .bool false)]) (w' := W1) (by kernel_rfl) ?_
    replace hM := hM.nil 5
    obtain rfl := Option.some.inj h
    exact RunF.ret2 2 3 (.slice none 0 0) (.bool false) (fn := Go.Proofs.Tryd.f16) Go.Proofs.Tryd.func16 (by kernel_rfl) (by kernel_rfl) (by kernel_rfl) (by kernel_rfl) ⟨_, rfl, none, 0, 0, rfl, (hM.pick [0] rfl rfl)⟩
  · replace h := of_false h c3
    refine RunF.know 8 (b := false) (by kernel_rfl) c3 ?_
    refine RunF.go 6 [0, 10] (k' := (pin Go.Proofs.Tryd.f16 [1, 1, 0] 2)) (L' := [(0, .slice Ap0 a0.length cp0), (10, .int .i64 (a0.length : Int))]) (w' := W1) (by kernel_rfl) ?_
    rcases two (decide (0 ≤ (a0.length : Int))) with c7 | c7
    · replace h := of_true h c7
      rcases two (decide ((a0.length : Int) ≤ 1000000000)) with c8 | c8
      · replace h := of_true h c8
        have := of_decide_eq_true c7
        have := of_decide_eq_true c8
        obtain ⟨W5, hD, hM', hB_⟩ := mk_does (P := Go.Proofs.Tryd.prog) (n := 27) (k := (pin Go.Proofs.Tryd.f16 [1, 1, 0] 2)) (L := [(0, .slice Ap0 a0.length cp0), (10, .int .i64 (a0.length : Int))]) (d := some 11) (e := 5) (z := .int .u8 0) (l := (a0.length : Int)) (c := (a0.length : Int)) (k2 := (pin Go.Proofs.Tryd.f16 [1, 1, 0] 3)) (by kernel_rfl) (by omega) (by omega) (by omega) hM
        rw [rep_nums] at hM'
        refine RunF.does hD ?_
        replace hM := hM'; clear hD hM'
        generalize W1.heap.size = g6 at hM ⊢
        refine RunF.go 9 [0, 4, 5] (k' := (pl Go.Proofs.Tryd.f16 [1, 1, 1, 0, 1, 0, 0])) (L' := [(0, .slice Ap0 a0.length cp0), (4, .slice (some ⟨g6, 0, none⟩) (((a0.length : Int)).toNat) (((a0.length : Int) : Int).toNat)), (5, .int .i64 0)]) (w' := W5) (by kernel_rfl) ?_
        have l0 : ∀ (k_ : Nat), k_ ≤ k → ∀ (x4_0 : List Int) (x5_0 : Int) (W : World) (hM : Mem w W [⟨.slice (some ⟨g6, 0, none⟩) (((a0.length : Int)).toNat) (((a0.length : Int) : Int).toNat), 5, 1, nums .u8 x4_0⟩]) (h : scrimref4_Back.l0 k_ a0 x4_0 x5_0 = some r), RunF Go.Proofs.Tryd.prog (Ret fun v w' => ∃ A0' n0' c0', v = .tuple #[.slice A0' n0' c0', .bool r.2] ∧ Mem w w' [⟨.slice A0' n0' c0', 5, 1, nums .u8 r.1⟩]) 16 (pl Go.Proofs.Tryd.f16 [1, 1, 1, 0, 1, 0, 0]) 27 [(0, .slice Ap0 a0.length cp0), (4, .slice (some ⟨g6, 0, none⟩) (((a0.length : Int)).toNat) (((a0.length : Int) : Int).toNat)), (5, .int .i64 x5_0)] W := by
          intro k_
          induction k_ using Nat.strongRecOn with
          | _ k_ ih0 =>
            intro hk x4_0 x5_0 W hM h
            cases k_ with
            | zero => exact absurd h (by simp [scrimref4_Back.l0])
            | succ k =>
              simp only [scrimref4_Back.l0] at h
              replace ih0 : ∀ m, m ≤ k → _ := fun m hm => ih0 m (by omega) (by omega)
              refine RunF.go 8 [0, 4, 5, 15] (k' := (pl Go.Proofs.Tryd.f16 [1, 1, 1, 0, 1, 0, 0, 0, 1])) (L' := [(0, .slice Ap0 a0.length cp0), (4, .slice (some ⟨g6, 0, none⟩) (((a0.length : Int)).toNat) (((a0.length : Int) : Int).toNat)), (5, .int .i64 x5_0), (15, .bool (decide (x5_0 < (a0.length : Int))))]) (w' := W) (by kernel_rfl) ?_
              rcases two (decide (x5_0 < (a0.length : Int))) with c10 | c10
              · replace h := of_true h c10
                refine RunF.know 15 (b := true) (by kernel_rfl) c10 ?_
                refine RunF.go 8 [0, 4, 5, 18, 19, 20] (k' := (pin Go.Proofs.Tryd.f16 [1, 1, 1, 0, 1, 0, 0, 1, 0, 0] 3)) (L' := [(0, .slice Ap0 a0.length cp0), (4, .slice (some ⟨g6, 0, none⟩) (((a0.length : Int)).toNat) (((a0.length : Int) : Int).toNat)), (5, .int .i64 x5_0), (18, .slice (some ⟨g6, 0, none⟩) (((a0.length : Int)).toNat) (((a0.length : Int) : Int).toNat)), (19, .slice Ap0 a0.length cp0), (20, .int .i64 x5_0)]) (w' := W) (by kernel_rfl) ?_
                rcases two (decide (0 ≤ x5_0)) with c12 | c12
                · replace h := of_true h c12
                  rcases two (decide (x5_0 < (a0.length : Int))) with c13 | c13
                  · replace h := of_true h c13
                    obtain ⟨q11, hAq11, hcq11⟩ := Rd.num (hr0.mono hM.below) (i := x5_0) (of_decide_eq_true c12) (by have h_ := of_decide_eq_true c13; omega)
                    refine RunF.y (idx_y (d := some 21) (A := Ap0) (m := a0.length) (i := x5_0) (k2 := (pin Go.Proofs.Tryd.f16 [1, 1, 1, 0, 1, 0, 0, 1, 0, 0] 4)) (by kernel_rfl) (of_decide_eq_true c12) (by have h_ := of_decide_eq_true c13; omega) hAq11) trivial ?_
                    refine RunF.y (ld_y (d := some 22) (p := (q11.add (x5_0 : Int).toNat)) (k2 := (pin Go.Proofs.Tryd.f16 [1, 1, 1, 0, 1, 0, 0, 1, 0, 0] 5)) (.int .u8 (rd a0 x5_0)) (by kernel_rfl)) hcq11 ?_
                    refine RunF.go 2 [0, 4, 5, 18, 22, 24] (k' := (pin Go.Proofs.Tryd.f16 [1, 1, 1, 0, 1, 0, 0, 1, 0, 0] 7)) (L' := [(0, .slice Ap0 a0.length cp0), (4, .slice (some ⟨g6, 0, none⟩) (((a0.length : Int)).toNat) (((a0.length : Int) : Int).toNat)), (5, .int .i64 x5_0), (18, .slice (some ⟨g6, 0, none⟩) (((a0.length : Int)).toNat) (((a0.length : Int) : Int).toNat)), (22, .int .u8 (rd a0 x5_0)), (24, .int .u8 (U8 (x5_0)))]) (w' := W) (by kernel_rfl) ?_
                    rcases two (decide (0 ≤ (rd a0 x5_0))) with c15 | c15
                    · replace h := of_true h c15
                      rcases two (decide ((rd a0 x5_0) < (((a0.length : Int)).toNat : Int))) with c16 | c16
                      · replace h := of_true h c16
                        obtain ⟨q14, hAq14, hcq14, hfq14, hlq14⟩ := hM.num_at 0 rfl (i := rd a0 x5_0) (of_decide_eq_true c15) (by have h_ := of_decide_eq_true c16; omega)
                        refine RunF.y (idx_own (d := some 25) (A := (some ⟨g6, 0, none⟩)) (m := ((a0.length : Int)).toNat) (i := rd a0 x5_0) (k2 := (pin Go.Proofs.Tryd.f16 [1, 1, 1, 0, 1, 0, 0, 1, 0, 0] 8)) (by kernel_rfl) (of_decide_eq_true c15) (by have h_ := of_decide_eq_true c16; omega) hAq14) trivial ?_
                        obtain ⟨g_, hA_, hc_, hf_, hl_⟩ := hM.num_at 0 rfl (i := rd a0 x5_0) (of_decide_eq_true c15) (by have h_ := of_decide_eq_true c16; omega)
                        obtain rfl : q14 = g_ := by rw [hAq14] at hA_; injection hA_ with hA_; injection hA_
                        refine RunF.doesU (st_u (p := (⟨q14, (rd a0 x5_0 : Int).toNat, none⟩ : Addr)) (v := .int .u8 (U8 (x5_0))) (k2 := (pin Go.Proofs.Tryd.f16 [1, 1, 1, 0, 1, 0, 0, 1, 0, 0] 9)) (by kernel_rfl) hc_ hf_) ?_
                        replace hM : Mem w (W.setCell (⟨q14, (rd a0 x5_0 : Int).toNat, none⟩ : Addr) (.int .u8 (U8 (x5_0)))) [⟨.slice (some ⟨g6, 0, none⟩) (((a0.length : Int)).toNat) (((a0.length : Int) : Int).toNat), 5, 1, nums .u8 (x4_0.set (rd a0 x5_0 : Int).toNat (U8 (x5_0)))⟩] := Mem.put_num [] [] (hM.pick [0] rfl rfl) hAq14 _ hl_ _
                        generalize W.setCell (⟨q14, (rd a0 x5_0 : Int).toNat, none⟩ : Addr) (.int .u8 (U8 (x5_0))) = W17 at hM ⊢
                        clear hc_ hf_ hl_ hA_ hcq14
                        refine RunF.go 8 [0, 4, 5] (k' := (pl Go.Proofs.Tryd.f16 [1, 1, 1, 0, 1, 0, 0])) (L' := [(0, .slice Ap0 a0.length cp0), (4, .slice (some ⟨g6, 0, none⟩) (((a0.length : Int)).toNat) (((a0.length : Int) : Int).toNat)), (5, .int .i64 (I64 (x5_0 + 1)))]) (w' := W17) (by kernel_rfl) ?_
                        exact ih0 k (by omega) (x4_0.set (rd a0 x5_0 : Int).toNat (U8 (x5_0))) (I64 (x5_0 + 1)) _ (hM.pick [0] rfl rfl) h
                      · replace h := of_false h c16
                        cases h
                    · replace h := of_false h c15
                      cases h
                  · replace h := of_false h c13
                    cases h
                · replace h := of_false h c12
                  cases h
              · replace h := of_false h c10
                refine RunF.know 15 (b := false) (by kernel_rfl) c10 ?_
                refine RunF.go 8 [2, 3] (k' := (pl Go.Proofs.Tryd.f16 [1, 1, 1, 1, 1])) (L' := [(2, .slice (some ⟨g6, 0, none⟩) (((a0.length : Int)).toNat) (((a0.length : Int) : Int).toNat)), (3, .bool true)]) (w' := W) (by kernel_rfl) ?_
                obtain rfl := Option.some.inj h
                exact RunF.ret2 2 3 (.slice (some ⟨g6, 0, none⟩) (((a0.length : Int)).toNat) (((a0.length : Int) : Int).toNat)) (.bool true) (fn := Go.Proofs.Tryd.f16) Go.Proofs.Tryd.func16 (by kernel_rfl) (by kernel_rfl) (by kernel_rfl) (by kernel_rfl) ⟨_, rfl, (some ⟨g6, 0, none⟩), ((a0.length : Int)).toNat, ((a0.length : Int) : Int).toNat, rfl, (hM.pick [0] rfl rfl)⟩
        exact l0 k (Nat.le_refl _) (List.replicate (((a0.length : Int)).toNat) (0 : Int)) 0 _ (hM.pick [0] rfl rfl) h
      · replace h := of_false h c8
        cases h
    · replace h := of_false h c7
      cases h

/-! ### scrim/scrimlaw4.BoxIs: function 3 -/
mutual
def scrimlaw4_BoxIs.l0 : Nat → (List Int) → Int → Int → (List Int) → Int → Option (Bool)
  | 0, _, _, _, _, _ => none
  | k + 1, a2, a4, t25, t8, x14_0 => if (decide (x14_0 < ((7 : Nat) : Int))) = true then (if (decide (0 ≤ x14_0)) = true then (if (decide (x14_0 < (7 : Int))) = true then ((box_Back.f k (rdr ([] : List Int) ([t8, ((([] : List Int) ++ t8).set (t25 : Int).toNat (U8 ((rd (([] : List Int) ++ t8) t25) + a4))), a2, ([] : List Int), ([0] : List Int), ([1] : List Int), ([0, 0] : List Int)] : List (List Int)) x14_0)).bind fun t57 => (if (decide (0 ≤ x14_0)) = true then (if (decide (x14_0 < (7 : Int))) = true then ((scrimref4_Back.f k (rdr ([] : List Int) ([t8, ((([] : List Int) ++ t8).set (t25 : Int).toNat (U8 ((rd (([] : List Int) ++ t8) t25) + a4))), a2, ([] : List Int), ([0] : List Int), ([1] : List Int), ([0, 0] : List Int)] : List (List Int)) x14_0)).bind fun t66 => (if (decide (0 ≤ x14_0)) = true then (if (decide (x14_0 < (7 : Int))) = true then (if (decide (0 ≤ x14_0)) = true then (if (decide (x14_0 < (7 : Int))) = true then ((box_Is.f k (rdr ([] : List Int) ([t8, ((([] : List Int) ++ t8).set (t25 : Int).toNat (U8 ((rd (([] : List Int) ++ t8) t25) + a4))), a2, ([] : List Int), ([0] : List Int), ([1] : List Int), ([0, 0] : List Int)] : List (List Int)) x14_0)).bind fun t80 => ((scrimref4_Is.f k (rdr ([] : List Int) ([t8, ((([] : List Int) ++ t8).set (t25 : Int).toNat (U8 ((rd (([] : List Int) ++ t8) t25) + a4))), a2, ([] : List Int), ([0] : List Int), ([1] : List Int), ([0, 0] : List Int)] : List (List Int)) x14_0)).bind fun t82 => (if (!(t80 == t82)) = true then (some false) else (if (!(t57.2 == t66.2)) = true then (some false) else ((some (!((strOf t57.1).toList == (strOf t66.1).toList) : Bool)).bind fun y85 => (if y85 = true then (some false) else (scrimlaw4_BoxIs.l0 k a2 a4 t25 t8 (I64 (x14_0 + 1))))))))) else (none)) else (none)) else (none)) else (none))) else (none)) else (none))) else (none)) else (none)) else ((box_Is.f k t8).bind fun t88 => (some t88))
def scrimlaw4_BoxIs.l1 : Nat → (List Int) → (List Int) → Int → Option (Bool)
  | 0, _, _, _ => none
  | k + 1, a2, t8, x14_1 => if (decide (x14_1 < ((7 : Nat) : Int))) = true then (if (decide (0 ≤ x14_1)) = true then (if (decide (x14_1 < (7 : Int))) = true then ((box_Back.f k (rdr ([] : List Int) ([t8, (([] : List Int) ++ t8), a2, ([] : List Int), ([0] : List Int), ([1] : List Int), ([0, 0] : List Int)] : List (List Int)) x14_1)).bind fun t113 => (if (decide (0 ≤ x14_1)) = true then (if (decide (x14_1 < (7 : Int))) = true then ((scrimref4_Back.f k (rdr ([] : List Int) ([t8, (([] : List Int) ++ t8), a2, ([] : List Int), ([0] : List Int), ([1] : List Int), ([0, 0] : List Int)] : List (List Int)) x14_1)).bind fun t122 => (if (decide (0 ≤ x14_1)) = true then (if (decide (x14_1 < (7 : Int))) = true then (if (decide (0 ≤ x14_1)) = true then (if (decide (x14_1 < (7 : Int))) = true then ((box_Is.f k (rdr ([] : List Int) ([t8, (([] : List Int) ++ t8), a2, ([] : List Int), ([0] : List Int), ([1] : List Int), ([0, 0] : List Int)] : List (List Int)) x14_1)).bind fun t136 => ((scrimref4_Is.f k (rdr ([] : List Int) ([t8, (([] : List Int) ++ t8), a2, ([] : List Int), ([0] : List Int), ([1] : List Int), ([0, 0] : List Int)] : List (List Int)) x14_1)).bind fun t138 => (if (!(t136 == t138)) = true then (some false) else (if (!(t113.2 == t122.2)) = true then (some false) else ((some (!((strOf t113.1).toList == (strOf t122.1).toList) : Bool)).bind fun y141 => (if y141 = true then (some false) else (scrimlaw4_BoxIs.l1 k a2 t8 (I64 (x14_1 + 1))))))))) else (none)) else (none)) else (none)) else (none))) else (none)) else (none))) else (none)) else (none)) else ((box_Is.f k t8).bind fun t144 => (some t144))
end
def scrimlaw4_BoxIs.f (k : Nat) (a0 : Int) (a1 : List Int) (a2 : List Int) (a3 : Int) (a4 : Int) : Option (Bool) := (scrimlaw4_known.f k).bind fun t2 => (if (!t2) = true then (some false) else (if (decide ((a2.length : Int) > 300)) = true then (some true) else ((scrimlaw4_within.f k a0 257).bind fun t6 => ((scrimlaw4_Table.f k t6 a1).bind fun t8 => (if (decide (([] : List Int).length + t8.length ≤ 1000000000)) = true then ((some (decide (((([] : List Int) ++ t8).length : Int) > 0) : Bool)).bind fun y22 => (if y22 = true then ((scrimlaw4_within.f k a3 ((([] : List Int) ++ t8).length : Int)).bind fun t25 => (if (decide (0 ≤ t25)) = true then (if (decide (t25 < ((([] : List Int) ++ t8).length : Int))) = true then (if (decide (0 ≤ t25)) = true then (if (decide (t25 < ((([] : List Int) ++ t8).length : Int))) = true then (scrimlaw4_BoxIs.l0 k a2 a4 t25 t8 0) else (none)) else (none)) else (none)) else (none))) else (scrimlaw4_BoxIs.l1 k a2 t8 0))) else (none))))))
set_option maxRecDepth 100000 in
set_option maxHeartbeats 8000000 in
theorem scrimlaw4_BoxIs.calls (k : Nat) (a0 : Int) (Ap1 : Option Addr) (np1 cp1 : Nat) (a1 : List Int) (Ap2 : Option Addr) (np2 cp2 : Nat) (a2 : List Int) (a3 : Int) (a4 : Int) (r : Bool) (w : World) (hr1 : Rd w (.slice Ap1 np1 cp1) (nums .i64 a1)) (hr2 : Rd w (.slice Ap2 np2 cp2) (nums .u8 a2)) (hG0 : Rg w 0 (nums .u8 [1, 2, 4, 8, 16, 32, 64, 128])) (h : scrimlaw4_BoxIs.f k a0 a1 a2 a3 a4 = some r) :
    Calls Go.Proofs.Tryd.prog 3 #[.int .i64 a0, (.slice Ap1 np1 cp1), (.slice Ap2 np2 cp2), .int .i64 a3, .int .u8 a4] w (Ret fun v w' => v = .bool r ∧ Mem w w' []) := by
  obtain rfl : a1.length = np1 := by have h_ := hr1.1; simpa [nums_length, bools_length, strs_length] using h_
  obtain rfl : a2.length = np2 := by have h_ := hr2.1; simpa [nums_length, bools_length, strs_length] using h_
  unfold scrimlaw4_BoxIs.f at h
  refine calls_of [.int .i64 a0, .slice Ap1 a1.length cp1, .slice Ap2 a2.length cp2, .int .i64 a3, .int .u8 a4] (fn := Go.Proofs.Tryd.f3) Go.Proofs.Tryd.func3 (by kernel_rfl) (by kernel_rfl) ?_
  have hM := Mem.refl w
  refine RunF.go 7 [0, 1, 2, 3, 4] (k' := (pin Go.Proofs.Tryd.f3 [1, 0, 0] 0)) (L' := [(0, .int .i64 a0), (1, .slice Ap1 a1.length cp1), (2, .slice Ap2 a2.length cp2), (3, .int .i64 a3), (4, .int .u8 a4)]) (w' := w) (by kernel_rfl) ?_
  obtain ⟨t2, ht2, h⟩ := Option.bind_eq_some_iff.mp h
  refine RunF.call (d := some 19) (g := 12) (args := #[]) (k2 := (pin Go.Proofs.Tryd.f3 [1, 0, 0] 1)) (by kernel_rfl) (scrimlaw4_known.calls k t2 _ (hG0.mono hM.below) ht2) ?_
  rintro _ W1 ⟨rfl, hM_⟩
  replace hM := hM.call hM_
  clear hM_ ht2
  refine RunF.go 2 [0, 1, 2, 3, 4, 20] (k' := (pl Go.Proofs.Tryd.f3 [1, 0, 1])) (L' := [(0, .int .i64 a0), (1, .slice Ap1 a1.length cp1), (2, .slice Ap2 a2.length cp2), (3, .int .i64 a3), (4, .int .u8 a4), (20, .bool (!t2))]) (w' := W1) (by kernel_rfl) ?_
  rcases two (!t2) with c3 | c3
  · replace h := of_true h c3
    refine RunF.know 20 (b := true) (by kernel_rfl) c3 ?_
    refine RunF.go 5 [10] (k' := (pl Go.Proofs.Tryd.f3 [1, 0, 1, 0, 1])) (L' := [(10, .bool false)]) (w' := W1) (by kernel_rfl) ?_
    obtain rfl := Option.some.inj h
    exact RunF.ret1 10 (.bool false) (fn := Go.Proofs.Tryd.f3) Go.Proofs.Tryd.func3 (by kernel_rfl) (by kernel_rfl) (by kernel_rfl) ⟨_, rfl, rfl, (hM.pick [] rfl rfl)⟩
  · replace h := of_false h c3
    refine RunF.know 20 (b := false) (by kernel_rfl) c3 ?_
    refine RunF.go 9 [0, 1, 2, 3, 4, 23] (k' := (pl Go.Proofs.Tryd.f3 [1, 1, 0, 1])) (L' := [(0, .int .i64 a0), (1, .slice Ap1 a1.length cp1), (2, .slice Ap2 a2.length cp2), (3, .int .i64 a3), (4, .int .u8 a4), (23, .bool (decide ((a2.length : Int) > 300)))]) (w' := W1) (by kernel_rfl) ?_
    rcases two (decide ((a2.length : Int) > 300)) with c4 | c4
    · replace h := of_true h c4
      refine RunF.know 23 (b := true) (by kernel_rfl) c4 ?_
      refine RunF.go 5 [10] (k' := (pl Go.Proofs.Tryd.f3 [1, 1, 0, 1, 0, 1])) (L' := [(10, .bool true)]) (w' := W1) (by kernel_rfl) ?_
      obtain rfl := Option.some.inj h
      exact RunF.ret1 10 (.bool true) (fn := Go.Proofs.Tryd.f3) Go.Proofs.Tryd.func3 (by kernel_rfl) (by kernel_rfl) (by kernel_rfl) ⟨_, rfl, rfl, (hM.pick [] rfl rfl)⟩
    · replace h := of_false h c4
      refine RunF.know 23 (b := false) (by kernel_rfl) c4 ?_
      refine RunF.go 5 [1, 2, 3, 4, 24] (k' := (pin Go.Proofs.Tryd.f3 [1, 1, 1, 0] 1)) (L' := [(1, .slice Ap1 a1.length cp1), (2, .slice Ap2 a2.length cp2), (3, .int .i64 a3), (4, .int .u8 a4), (24, .int .i64 a0)]) (w' := W1) (by kernel_rfl) ?_
      obtain ⟨t6, ht6, h⟩ := Option.bind_eq_some_iff.mp h
      refine RunF.call (d := some 25) (g := 14) (args := #[.int .i64 a0, .int .i64 257]) (k2 := (pin Go.Proofs.Tryd.f3 [1, 1, 1, 0] 2)) (by kernel_rfl) (scrimlaw4_within.calls k a0 257 t6 _ ht6) ?_
      rintro _ W5 ⟨rfl, hM_⟩
      replace hM := hM.call hM_
      clear hM_ ht6
      refine RunF.go 1 [2, 3, 4, 25, 26] (k' := (pin Go.Proofs.Tryd.f3 [1, 1, 1, 0] 3)) (L' := [(2, .slice Ap2 a2.length cp2), (3, .int .i64 a3), (4, .int .u8 a4), (25, .int .i64 t6), (26, .slice Ap1 a1.length cp1)]) (w' := W5) (by kernel_rfl) ?_
      obtain ⟨t8, ht8, h⟩ := Option.bind_eq_some_iff.mp h
      refine RunF.call (d := some 27) (g := 13) (args := #[.int .i64 t6, .slice Ap1 a1.length cp1]) (k2 := (pin Go.Proofs.Tryd.f3 [1, 1, 1, 0] 4)) (by kernel_rfl) (scrimlaw4_Table.calls k t6 Ap1 a1.length cp1 a1 t8 _ (hr1.mono hM.below) ht8) ?_
      rintro _ W7 ⟨A9, n10, c11, rfl, hM_⟩
      obtain rfl : t8.length = n10 := by have h_ := (hM_.rd 0 rfl).1; simpa [nums_length, bools_length, strs_length] using h_
      replace hM := hM.call hM_
      clear hM_ ht8
      refine RunF.go 4 [2, 3, 4, 11] (k' := (pin Go.Proofs.Tryd.f3 [1, 1, 1, 1, 0] 0)) (L' := [(2, .slice Ap2 a2.length cp2), (3, .int .i64 a3), (4, .int .u8 a4), (11, .slice A9 t8.length c11)]) (w' := W7) (by kernel_rfl) ?_
      refine RunF.new 5 1 0 (nums .u8 []) (d := some 28) (k2 := (pin Go.Proofs.Tryd.f3 [1, 1, 1, 1, 0] 1)) hM (by simp [nums, bools, strs]) (by kernel_rfl) (by kernel_rfl) ?_
      replace hM := hM
      intro g13 W14 hM
      refine RunF.go 1 [2, 3, 4, 11, 28, 29] (k' := (pin Go.Proofs.Tryd.f3 [1, 1, 1, 1, 0] 2)) (L' := [(2, .slice Ap2 a2.length cp2), (3, .int .i64 a3), (4, .int .u8 a4), (11, .slice A9 t8.length c11), (28, .slice (some ⟨g13, 0, none⟩) 0 0), (29, .slice A9 t8.length c11)]) (w' := W14) (by kernel_rfl) ?_
      rcases two (decide (([] : List Int).length + t8.length ≤ 1000000000)) with c20 | c20
      · replace h := of_true h c20
        have h_ := of_decide_eq_true c20
        obtain ⟨A16, n17, c18, W19, hD, hM', hS_⟩ := app_does (P := Go.Proofs.Tryd.prog) (n := 98) (k := (pin Go.Proofs.Tryd.f3 [1, 1, 1, 1, 0] 2)) (L := [(2, .slice Ap2 a2.length cp2), (3, .int .i64 a3), (4, .int .u8 a4), (11, .slice A9 t8.length c11), (28, .slice (some ⟨g13, 0, none⟩) 0 0), (29, .slice A9 t8.length c11)]) (d := some 30) (e := 5) (A := (some ⟨g13, 0, none⟩)) (m := 0) (c := 0) (A2 := A9) (m2 := t8.length) (c2 := c11) (cs := nums .u8 ([] : List Int)) (ys := nums .u8 t8) (k2 := (pin Go.Proofs.Tryd.f3 [1, 1, 1, 1, 0] 3)) [] [⟨.slice A9 t8.length c11, 5, 1, nums .u8 t8⟩] (by kernel_rfl) (hM.pick [0, 1] rfl rfl) (hM.rd 1 rfl) (one_nums _ _) (by omega)
        rw [nums_append] at hM'
        replace hM := hM'; clear h_ hM'
        obtain rfl : (([] : List Int) ++ t8).length = n17 := by have h_ := (hM.rd 0 rfl).1; simpa only [nums_length, bools_length, strs_length] using h_
        refine RunF.does hD ?_
        clear hD hS_
        refine RunF.go 9 [2, 3, 4, 11, 12, 33] (k' := (pl Go.Proofs.Tryd.f3 [1, 1, 1, 1, 1, 0, 1])) (L' := [(2, .slice Ap2 a2.length cp2), (3, .int .i64 a3), (4, .int .u8 a4), (11, .slice A9 t8.length c11), (12, .slice A16 ((([] : List Int) ++ t8).length) c18), (33, .bool (decide (((([] : List Int) ++ t8).length : Int) > 0)))]) (w' := W19) (by kernel_rfl) ?_
        obtain ⟨y22, hy, h⟩ := Option.bind_eq_some_iff.mp h
        rw [show (decide (((([] : List Int) ++ t8).length : Int) > 0)) = y22 from Option.some.inj hy]
        clear hy
        rcases two (y22) with c23 | c23
        · replace h := of_true h c23
          refine RunF.know 33 (b := true) (by kernel_rfl) c23 ?_
          refine RunF.go 6 [2, 4, 11, 12, 34, 35, 37] (k' := (pin Go.Proofs.Tryd.f3 [1, 1, 1, 1, 1, 0, 1, 0] 4)) (L' := [(2, .slice Ap2 a2.length cp2), (4, .int .u8 a4), (11, .slice A9 t8.length c11), (12, .slice A16 ((([] : List Int) ++ t8).length) c18), (34, .slice A16 ((([] : List Int) ++ t8).length) c18), (35, .int .i64 a3), (37, .int .i64 ((([] : List Int) ++ t8).length : Int))]) (w' := W19) (by kernel_rfl) ?_
          obtain ⟨t25, ht25, h⟩ := Option.bind_eq_some_iff.mp h
          refine RunF.call (d := some 38) (g := 14) (args := #[.int .i64 a3, .int .i64 ((([] : List Int) ++ t8).length : Int)]) (k2 := (pin Go.Proofs.Tryd.f3 [1, 1, 1, 1, 1, 0, 1, 0] 5)) (by kernel_rfl) (scrimlaw4_within.calls k a3 ((([] : List Int) ++ t8).length : Int) t25 _ ht25) ?_
          rintro _ W24 ⟨rfl, hM_⟩
          replace hM := hM.call hM_
          clear hM_ ht25
          rcases two (decide (0 ≤ t25)) with c27 | c27
          · replace h := of_true h c27
            rcases two (decide (t25 < ((([] : List Int) ++ t8).length : Int))) with c28 | c28
            · replace h := of_true h c28
              obtain ⟨q26, hAq26, hcq26, hfq26, hlq26⟩ := hM.num_at 0 rfl (i := t25) (of_decide_eq_true c27) (by have h_ := of_decide_eq_true c28; omega)
              refine RunF.y (idx_own (d := some 39) (A := A16) (m := (([] : List Int) ++ t8).length) (i := t25) (k2 := (pin Go.Proofs.Tryd.f3 [1, 1, 1, 1, 1, 0, 1, 0] 6)) (by kernel_rfl) (of_decide_eq_true c27) (by have h_ := of_decide_eq_true c28; omega) hAq26) trivial ?_
              refine RunF.y (ld_y (d := some 40) (p := ⟨q26, (t25 : Int).toNat, none⟩) (k2 := (pin Go.Proofs.Tryd.f3 [1, 1, 1, 1, 1, 0, 1, 0] 7)) (.int .u8 (rd (([] : List Int) ++ t8) t25)) (by kernel_rfl)) hcq26 ?_
              refine RunF.go 2 [2, 11, 12, 34, 38, 42] (k' := (pin Go.Proofs.Tryd.f3 [1, 1, 1, 1, 1, 0, 1, 0] 9)) (L' := [(2, .slice Ap2 a2.length cp2), (11, .slice A9 t8.length c11), (12, .slice A16 ((([] : List Int) ++ t8).length) c18), (34, .slice A16 ((([] : List Int) ++ t8).length) c18), (38, .int .i64 t25), (42, .int .u8 (U8 ((rd (([] : List Int) ++ t8) t25) + a4)))]) (w' := W24) (by kernel_rfl) ?_
              rcases two (decide (0 ≤ t25)) with c30 | c30
              · replace h := of_true h c30
                rcases two (decide (t25 < ((([] : List Int) ++ t8).length : Int))) with c31 | c31
                · replace h := of_true h c31
                  obtain ⟨q29, hAq29, hcq29, hfq29, hlq29⟩ := hM.num_at 0 rfl (i := t25) (of_decide_eq_true c30) (by have h_ := of_decide_eq_true c31; omega)
                  refine RunF.y (idx_own (d := some 43) (A := A16) (m := (([] : List Int) ++ t8).length) (i := t25) (k2 := (pin Go.Proofs.Tryd.f3 [1, 1, 1, 1, 1, 0, 1, 0] 10)) (by kernel_rfl) (of_decide_eq_true c30) (by have h_ := of_decide_eq_true c31; omega) hAq29) trivial ?_
                  obtain ⟨g_, hA_, hc_, hf_, hl_⟩ := hM.num_at 0 rfl (i := t25) (of_decide_eq_true c30) (by have h_ := of_decide_eq_true c31; omega)
                  obtain rfl : q29 = g_ := by rw [hAq29] at hA_; injection hA_ with hA_; injection hA_
                  refine RunF.doesU (st_u (p := (⟨q29, (t25 : Int).toNat, none⟩ : Addr)) (v := .int .u8 (U8 ((rd (([] : List Int) ++ t8) t25) + a4))) (k2 := (pin Go.Proofs.Tryd.f3 [1, 1, 1, 1, 1, 0, 1, 0] 11)) (by kernel_rfl) hc_ hf_) ?_
                  replace hM : Mem w (W24.setCell (⟨q29, (t25 : Int).toNat, none⟩ : Addr) (.int .u8 (U8 ((rd (([] : List Int) ++ t8) t25) + a4)))) [⟨.slice A16 ((([] : List Int) ++ t8).length) c18, 5, 1, nums .u8 ((([] : List Int) ++ t8).set (t25 : Int).toNat (U8 ((rd (([] : List Int) ++ t8) t25) + a4)))⟩, ⟨.slice A9 t8.length c11, 5, 1, nums .u8 t8⟩] := Mem.put_num [] [⟨.slice A9 t8.length c11, 5, 1, nums .u8 t8⟩] (hM.pick [0, 1] rfl rfl) hAq29 _ hl_ _
                  generalize W24.setCell (⟨q29, (t25 : Int).toNat, none⟩ : Addr) (.int .u8 (U8 ((rd (([] : List Int) ++ t8) t25) + a4))) = W32 at hM ⊢
                  clear hc_ hf_ hl_ hA_ hcq29
                  refine RunF.go 6 [11, 44, 45, 46] (k' := (pin Go.Proofs.Tryd.f3 [1, 1, 1, 1, 1, 1, 0] 3)) (L' := [(11, .slice A9 t8.length c11), (44, .slice A9 t8.length c11), (45, .slice A16 ((([] : List Int) ++ t8).length) c18), (46, .slice Ap2 a2.length cp2)]) (w' := W32) (by kernel_rfl) ?_
                  refine RunF.new 5 1 1 (nums .u8 [0]) (d := some 47) (k2 := (pin Go.Proofs.Tryd.f3 [1, 1, 1, 1, 1, 1, 0] 4)) hM (by simp [nums, bools, strs]) (by kernel_rfl) (by kernel_rfl) ?_
                  replace hM := hM
                  intro g33 W34 hM
                  refine RunF.new 5 1 1 (nums .u8 [1]) (d := some 48) (k2 := (pin Go.Proofs.Tryd.f3 [1, 1, 1, 1, 1, 1, 0] 5)) hM (by simp [nums, bools, strs]) (by kernel_rfl) (by kernel_rfl) ?_
                  replace hM := hM
                  intro g36 W37 hM
                  refine RunF.new 5 1 2 (nums .u8 [0, 0]) (d := some 49) (k2 := (pin Go.Proofs.Tryd.f3 [1, 1, 1, 1, 1, 1, 0] 6)) hM (by simp [nums, bools, strs]) (by kernel_rfl) (by kernel_rfl) ?_
                  replace hM := hM
                  intro g39 W40 hM
                  obtain ⟨Fq42, hfq42, hM⟩ := Mem.freezeS (H1 := [⟨.slice (some ⟨g39, 0, none⟩) 2 2, 5, 1, nums .u8 [0, 0]⟩, ⟨.slice (some ⟨g36, 0, none⟩) 1 1, 5, 1, nums .u8 [1]⟩, ⟨.slice (some ⟨g33, 0, none⟩) 1 1, 5, 1, nums .u8 [0]⟩, ⟨.slice A16 ((([] : List Int) ++ t8).length) c18, 5, 1, nums .u8 ((([] : List Int) ++ t8).set (t25 : Int).toNat (U8 ((rd (([] : List Int) ++ t8) t25) + a4)))⟩]) (H2 := []) (Fs := []) (A := A9) (n := t8.length) (c := c11) (ty := 5) (cs := nums .u8 t8) (hM.as rfl)
                  obtain ⟨Fq43, hfq43, hM⟩ := Mem.freezeS (H1 := [⟨.slice (some ⟨g39, 0, none⟩) 2 2, 5, 1, nums .u8 [0, 0]⟩, ⟨.slice (some ⟨g36, 0, none⟩) 1 1, 5, 1, nums .u8 [1]⟩, ⟨.slice (some ⟨g33, 0, none⟩) 1 1, 5, 1, nums .u8 [0]⟩]) (H2 := []) (Fs := [Fq42]) (A := A16) (n := (([] : List Int) ++ t8).length) (c := c18) (ty := 5) (cs := nums .u8 ((([] : List Int) ++ t8).set (t25 : Int).toNat (U8 ((rd (([] : List Int) ++ t8) t25) + a4)))) (hM.as rfl)
                  obtain ⟨Fq44, hfq44, hM⟩ := Mem.freezeS (H1 := [⟨.slice (some ⟨g39, 0, none⟩) 2 2, 5, 1, nums .u8 [0, 0]⟩, ⟨.slice (some ⟨g36, 0, none⟩) 1 1, 5, 1, nums .u8 [1]⟩]) (H2 := []) (Fs := [Fq43, Fq42]) (A := (some ⟨g33, 0, none⟩)) (n := 1) (c := 1) (ty := 5) (cs := nums .u8 [0]) (hM.as rfl)
                  obtain ⟨Fq45, hfq45, hM⟩ := Mem.freezeS (H1 := [⟨.slice (some ⟨g39, 0, none⟩) 2 2, 5, 1, nums .u8 [0, 0]⟩]) (H2 := []) (Fs := [Fq44, Fq43, Fq42]) (A := (some ⟨g36, 0, none⟩)) (n := 1) (c := 1) (ty := 5) (cs := nums .u8 [1]) (hM.as rfl)
                  obtain ⟨Fq46, hfq46, hM⟩ := Mem.freezeS (H1 := []) (H2 := []) (Fs := [Fq45, Fq44, Fq43, Fq42]) (A := (some ⟨g39, 0, none⟩)) (n := 2) (c := 2) (ty := 5) (cs := nums .u8 [0, 0]) (hM.as rfl)
                  have hqq47 : Each2 ((rNums .u8) (andZ (Oks Fq42) (andZ (Oks Fq43) (andZ (Kept w) (andZ (Oks Fq44) (andZ (Oks Fq45) (Oks Fq46))))))) [.slice A9 t8.length c11, .slice A16 ((([] : List Int) ++ t8).length) c18, .slice Ap2 a2.length cp2, .slice none 0 0, .slice (some ⟨g33, 0, none⟩) 1 1, .slice (some ⟨g36, 0, none⟩) 1 1, .slice (some ⟨g39, 0, none⟩) 2 2] ([t8, ((([] : List Int) ++ t8).set (t25 : Int).toNat (U8 ((rd (([] : List Int) ++ t8) t25) + a4))), a2, ([] : List Int), ([0] : List Int), ([1] : List Int), ([0, 0] : List Int)] : List (List Int)) := (.cons (rnums_of (RdF.up hfq42 (fun _ hz_ => hz_.1)) (And.intro (Mem.oks (hM.as (H' := Gs [] [Fq46, Fq45, Fq44, Fq43, Fq42]) rfl) 4 rfl) (And.intro (Mem.oks (hM.as (H' := Gs [] [Fq46, Fq45, Fq44, Fq43, Fq42]) rfl) 3 rfl) (And.intro hM.kept (And.intro (Mem.oks (hM.as (H' := Gs [] [Fq46, Fq45, Fq44, Fq43, Fq42]) rfl) 2 rfl) (And.intro (Mem.oks (hM.as (H' := Gs [] [Fq46, Fq45, Fq44, Fq43, Fq42]) rfl) 1 rfl) (Mem.oks (hM.as (H' := Gs [] [Fq46, Fq45, Fq44, Fq43, Fq42]) rfl) 0 rfl))))))) (.cons (rnums_of (RdF.up hfq43 (fun _ hz_ => hz_.2.1)) (And.intro (Mem.oks (hM.as (H' := Gs [] [Fq46, Fq45, Fq44, Fq43, Fq42]) rfl) 4 rfl) (And.intro (Mem.oks (hM.as (H' := Gs [] [Fq46, Fq45, Fq44, Fq43, Fq42]) rfl) 3 rfl) (And.intro hM.kept (And.intro (Mem.oks (hM.as (H' := Gs [] [Fq46, Fq45, Fq44, Fq43, Fq42]) rfl) 2 rfl) (And.intro (Mem.oks (hM.as (H' := Gs [] [Fq46, Fq45, Fq44, Fq43, Fq42]) rfl) 1 rfl) (Mem.oks (hM.as (H' := Gs [] [Fq46, Fq45, Fq44, Fq43, Fq42]) rfl) 0 rfl))))))) (.cons (rnums_of (RdF.up (RdF.of_rd hr2) (fun _ hz_ => hz_.2.2.1)) (And.intro (Mem.oks (hM.as (H' := Gs [] [Fq46, Fq45, Fq44, Fq43, Fq42]) rfl) 4 rfl) (And.intro (Mem.oks (hM.as (H' := Gs [] [Fq46, Fq45, Fq44, Fq43, Fq42]) rfl) 3 rfl) (And.intro hM.kept (And.intro (Mem.oks (hM.as (H' := Gs [] [Fq46, Fq45, Fq44, Fq43, Fq42]) rfl) 2 rfl) (And.intro (Mem.oks (hM.as (H' := Gs [] [Fq46, Fq45, Fq44, Fq43, Fq42]) rfl) 1 rfl) (Mem.oks (hM.as (H' := Gs [] [Fq46, Fq45, Fq44, Fq43, Fq42]) rfl) 0 rfl))))))) (.cons ⟨_, _, rfl, fun _ _ => Rd.nil _ _⟩ (.cons (rnums_of (RdF.up hfq44 (fun _ hz_ => hz_.2.2.2.1)) (And.intro (Mem.oks (hM.as (H' := Gs [] [Fq46, Fq45, Fq44, Fq43, Fq42]) rfl) 4 rfl) (And.intro (Mem.oks (hM.as (H' := Gs [] [Fq46, Fq45, Fq44, Fq43, Fq42]) rfl) 3 rfl) (And.intro hM.kept (And.intro (Mem.oks (hM.as (H' := Gs [] [Fq46, Fq45, Fq44, Fq43, Fq42]) rfl) 2 rfl) (And.intro (Mem.oks (hM.as (H' := Gs [] [Fq46, Fq45, Fq44, Fq43, Fq42]) rfl) 1 rfl) (Mem.oks (hM.as (H' := Gs [] [Fq46, Fq45, Fq44, Fq43, Fq42]) rfl) 0 rfl))))))) (.cons (rnums_of (RdF.up hfq45 (fun _ hz_ => hz_.2.2.2.2.1)) (And.intro (Mem.oks (hM.as (H' := Gs [] [Fq46, Fq45, Fq44, Fq43, Fq42]) rfl) 4 rfl) (And.intro (Mem.oks (hM.as (H' := Gs [] [Fq46, Fq45, Fq44, Fq43, Fq42]) rfl) 3 rfl) (And.intro hM.kept (And.intro (Mem.oks (hM.as (H' := Gs [] [Fq46, Fq45, Fq44, Fq43, Fq42]) rfl) 2 rfl) (And.intro (Mem.oks (hM.as (H' := Gs [] [Fq46, Fq45, Fq44, Fq43, Fq42]) rfl) 1 rfl) (Mem.oks (hM.as (H' := Gs [] [Fq46, Fq45, Fq44, Fq43, Fq42]) rfl) 0 rfl))))))) (.cons (rnums_of (RdF.up hfq46 (fun _ hz_ => hz_.2.2.2.2.2)) (And.intro (Mem.oks (hM.as (H' := Gs [] [Fq46, Fq45, Fq44, Fq43, Fq42]) rfl) 4 rfl) (And.intro (Mem.oks (hM.as (H' := Gs [] [Fq46, Fq45, Fq44, Fq43, Fq42]) rfl) 3 rfl) (And.intro hM.kept (And.intro (Mem.oks (hM.as (H' := Gs [] [Fq46, Fq45, Fq44, Fq43, Fq42]) rfl) 2 rfl) (And.intro (Mem.oks (hM.as (H' := Gs [] [Fq46, Fq45, Fq44, Fq43, Fq42]) rfl) 1 rfl) (Mem.oks (hM.as (H' := Gs [] [Fq46, Fq45, Fq44, Fq43, Fq42]) rfl) 0 rfl))))))) (Each2.nil _))))))))
                  refine RunF.new 23 1 7 ([.slice A9 t8.length c11, .slice A16 ((([] : List Int) ++ t8).length) c18, .slice Ap2 a2.length cp2, .slice none 0 0, .slice (some ⟨g33, 0, none⟩) 1 1, .slice (some ⟨g36, 0, none⟩) 1 1, .slice (some ⟨g39, 0, none⟩) 2 2]) (d := some 50) (k2 := (pin Go.Proofs.Tryd.f3 [1, 1, 1, 1, 1, 1, 0] 7)) hM (by rfl) (by kernel_rfl) (by kernel_rfl) ?_
                  intro g48 W49 hM
                  refine RunF.go 9 [11, 13, 14] (k' := (pl Go.Proofs.Tryd.f3 [1, 1, 1, 1, 1, 1, 1, 0, 1, 0, 0])) (L' := [(11, .slice A9 t8.length c11), (13, .slice (some ⟨g48, 0, none⟩) 7 7), (14, .int .i64 0)]) (w' := W49) (by kernel_rfl) ?_
                  obtain ⟨Fq51, hfq51, hM⟩ := Mem.freezeS (H1 := []) (H2 := []) (Fs := [Fq46, Fq45, Fq44, Fq43, Fq42]) (A := (some ⟨g48, 0, none⟩)) (n := 7) (c := 7) (ty := 23) (cs := [.slice A9 t8.length c11, .slice A16 ((([] : List Int) ++ t8).length) c18, .slice Ap2 a2.length cp2, .slice none 0 0, .slice (some ⟨g33, 0, none⟩) 1 1, .slice (some ⟨g36, 0, none⟩) 1 1, .slice (some ⟨g39, 0, none⟩) 2 2]) (hM.as rfl)
                  have l0 : ∀ (k_ : Nat), k_ ≤ k → ∀ (x14_0 : Int) (W : World) (hM : Mem w W (Gs [] [Fq51, Fq46, Fq45, Fq44, Fq43, Fq42])) (h : scrimlaw4_BoxIs.l0 k_ a2 a4 t25 t8 x14_0 = some r), RunF Go.Proofs.Tryd.prog (Ret fun v w' => v = .bool r ∧ Mem w w' []) 3 (pl Go.Proofs.Tryd.f3 [1, 1, 1, 1, 1, 1, 1, 0, 1, 0, 0]) 98 [(11, .slice A9 t8.length c11), (13, .slice (some ⟨g48, 0, none⟩) 7 7), (14, .int .i64 x14_0)] W := by
                    intro k_
                    induction k_ using Nat.strongRecOn with
                    | _ k_ ih0 =>
                      intro hk x14_0 W hM h
                      cases k_ with
                      | zero => exact absurd h (by simp [scrimlaw4_BoxIs.l0])
                      | succ k =>
                        simp only [scrimlaw4_BoxIs.l0] at h
                        replace ih0 : ∀ m, m ≤ k → _ := fun m hm => ih0 m (by omega) (by omega)
                        refine RunF.go 8 [11, 13, 14, 54] (k' := (pl Go.Proofs.Tryd.f3 [1, 1, 1, 1, 1, 1, 1, 0, 1, 0, 0, 0, 1])) (L' := [(11, .slice A9 t8.length c11), (13, .slice (some ⟨g48, 0, none⟩) 7 7), (14, .int .i64 x14_0), (54, .bool (decide (x14_0 < ((7 : Nat) : Int))))]) (w' := W) (by kernel_rfl) ?_
                        rcases two (decide (x14_0 < ((7 : Nat) : Int))) with c52 | c52
                        · replace h := of_true h c52
                          refine RunF.know 54 (b := true) (by kernel_rfl) c52 ?_
                          refine RunF.go 8 [11, 13, 14, 58, 59] (k' := (pin Go.Proofs.Tryd.f3 [1, 1, 1, 1, 1, 1, 1, 0, 1, 0, 0, 1, 0, 0, 0] 2)) (L' := [(11, .slice A9 t8.length c11), (13, .slice (some ⟨g48, 0, none⟩) 7 7), (14, .int .i64 x14_0), (58, .slice (some ⟨g48, 0, none⟩) 7 7), (59, .int .i64 x14_0)]) (w' := W) (by kernel_rfl) ?_
                          rcases two (decide (0 ≤ x14_0)) with c54 | c54
                          · replace h := of_true h c54
                            rcases two (decide (x14_0 < (7 : Int))) with c55 | c55
                            · replace h := of_true h c55
                              obtain ⟨uq53, huq53, hvq53⟩ := Each2.at hqq47 ([] : List Int) (i := x14_0) (of_decide_eq_true c54) (by have h_ : x14_0 < (7 : Int) := (of_decide_eq_true c55); first | exact h_ | (simpa using h_))
                              obtain ⟨Aq53, cq53, rfl, hq53⟩ := hvq53
                              obtain ⟨q53, hAq53, hcq53⟩ := RdF.elem hfq51 (Mem.oks (hM.as (H' := Gs [] [Fq51, Fq46, Fq45, Fq44, Fq43, Fq42]) rfl) 0 rfl) huq53
                              refine RunF.y (idx_y (d := some 60) (A := (some ⟨g48, 0, none⟩)) (m := 7) (i := x14_0) (k2 := (pin Go.Proofs.Tryd.f3 [1, 1, 1, 1, 1, 1, 1, 0, 1, 0, 0, 1, 0, 0, 0] 3)) (by kernel_rfl) (of_decide_eq_true c54) (of_decide_eq_true c55) hAq53) trivial ?_
                              refine RunF.y (ld_y (d := some 61) (p := (q53.add (x14_0 : Int).toNat)) (k2 := (pin Go.Proofs.Tryd.f3 [1, 1, 1, 1, 1, 1, 1, 0, 1, 0, 0, 1, 0, 0, 0] 4)) (.slice Aq53 ((rdr ([] : List Int) ([t8, ((([] : List Int) ++ t8).set (t25 : Int).toNat (U8 ((rd (([] : List Int) ++ t8) t25) + a4))), a2, ([] : List Int), ([0] : List Int), ([1] : List Int), ([0, 0] : List Int)] : List (List Int)) x14_0).length) cq53) (by kernel_rfl)) hcq53 ?_
                              obtain ⟨t57, ht57, h⟩ := Option.bind_eq_some_iff.mp h
                              refine RunF.call (d := some 62) (g := 15) (args := #[.slice Aq53 ((rdr ([] : List Int) ([t8, ((([] : List Int) ++ t8).set (t25 : Int).toNat (U8 ((rd (([] : List Int) ++ t8) t25) + a4))), a2, ([] : List Int), ([0] : List Int), ([1] : List Int), ([0, 0] : List Int)] : List (List Int)) x14_0).length) cq53]) (k2 := (pin Go.Proofs.Tryd.f3 [1, 1, 1, 1, 1, 1, 1, 0, 1, 0, 0, 1, 0, 0, 0] 5)) (by kernel_rfl) (box_Back.calls k Aq53 ((rdr ([] : List Int) ([t8, ((([] : List Int) ++ t8).set (t25 : Int).toNat (U8 ((rd (([] : List Int) ++ t8) t25) + a4))), a2, ([] : List Int), ([0] : List Int), ([1] : List Int), ([0, 0] : List Int)] : List (List Int)) x14_0).length) cq53 (rdr ([] : List Int) ([t8, ((([] : List Int) ++ t8).set (t25 : Int).toNat (U8 ((rd (([] : List Int) ++ t8) t25) + a4))), a2, ([] : List Int), ([0] : List Int), ([1] : List Int), ([0, 0] : List Int)] : List (List Int)) x14_0) t57 _ (hq53 _ (And.intro (Mem.oks (hM.as (H' := Gs [] [Fq51, Fq46, Fq45, Fq44, Fq43, Fq42]) rfl) 5 rfl) (And.intro (Mem.oks (hM.as (H' := Gs [] [Fq51, Fq46, Fq45, Fq44, Fq43, Fq42]) rfl) 4 rfl) (And.intro hM.kept (And.intro (Mem.oks (hM.as (H' := Gs [] [Fq51, Fq46, Fq45, Fq44, Fq43, Fq42]) rfl) 3 rfl) (And.intro (Mem.oks (hM.as (H' := Gs [] [Fq51, Fq46, Fq45, Fq44, Fq43, Fq42]) rfl) 2 rfl) (Mem.oks (hM.as (H' := Gs [] [Fq51, Fq46, Fq45, Fq44, Fq43, Fq42]) rfl) 1 rfl))))))) ht57) ?_
                              rintro _ W56 ⟨A58, n59, c60, rfl, hM_⟩
                              obtain rfl : t57.1.length = n59 := by have h_ := (hM_.rd 0 rfl).1; simpa [nums_length, bools_length, strs_length] using h_
                              replace hM : Mem w W56 (Gs [⟨.slice A58 t57.1.length c60, 5, 1, nums .u8 t57.1⟩] [Fq51, Fq46, Fq45, Fq44, Fq43, Fq42]) := (Mem.callG (hM.as (H' := Gs [] [Fq51, Fq46, Fq45, Fq44, Fq43, Fq42]) rfl) hM_.grp).as rfl
                              clear hM_ ht57
                              refine RunF.go 10 [11, 13, 14, 15, 16, 66, 67] (k' := (pin Go.Proofs.Tryd.f3 [1, 1, 1, 1, 1, 1, 1, 0, 1, 0, 0, 1, 0, 0, 1, 0] 2)) (L' := [(11, .slice A9 t8.length c11), (13, .slice (some ⟨g48, 0, none⟩) 7 7), (14, .int .i64 x14_0), (15, .slice A58 t57.1.length c60), (16, .bool t57.2), (66, .slice (some ⟨g48, 0, none⟩) 7 7), (67, .int .i64 x14_0)]) (w' := W56) (by kernel_rfl) ?_
                              rcases two (decide (0 ≤ x14_0)) with c63 | c63
                              · replace h := of_true h c63
                                rcases two (decide (x14_0 < (7 : Int))) with c64 | c64
                                · replace h := of_true h c64
                                  obtain ⟨uq62, huq62, hvq62⟩ := Each2.at hqq47 ([] : List Int) (i := x14_0) (of_decide_eq_true c63) (by have h_ : x14_0 < (7 : Int) := (of_decide_eq_true c64); first | exact h_ | (simpa using h_))
                                  obtain ⟨Aq62, cq62, rfl, hq62⟩ := hvq62
                                  obtain ⟨q62, hAq62, hcq62⟩ := RdF.elem hfq51 (Mem.oks (hM.as (H' := Gs [⟨.slice A58 t57.1.length c60, 5, 1, nums .u8 t57.1⟩] [Fq51, Fq46, Fq45, Fq44, Fq43, Fq42]) rfl) 0 rfl) huq62
                                  refine RunF.y (idx_y (d := some 68) (A := (some ⟨g48, 0, none⟩)) (m := 7) (i := x14_0) (k2 := (pin Go.Proofs.Tryd.f3 [1, 1, 1, 1, 1, 1, 1, 0, 1, 0, 0, 1, 0, 0, 1, 0] 3)) (by kernel_rfl) (of_decide_eq_true c63) (of_decide_eq_true c64) hAq62) trivial ?_
                                  refine RunF.y (ld_y (d := some 69) (p := (q62.add (x14_0 : Int).toNat)) (k2 := (pin Go.Proofs.Tryd.f3 [1, 1, 1, 1, 1, 1, 1, 0, 1, 0, 0, 1, 0, 0, 1, 0] 4)) (.slice Aq62 ((rdr ([] : List Int) ([t8, ((([] : List Int) ++ t8).set (t25 : Int).toNat (U8 ((rd (([] : List Int) ++ t8) t25) + a4))), a2, ([] : List Int), ([0] : List Int), ([1] : List Int), ([0, 0] : List Int)] : List (List Int)) x14_0).length) cq62) (by kernel_rfl)) hcq62 ?_
                                  obtain ⟨t66, ht66, h⟩ := Option.bind_eq_some_iff.mp h
                                  refine RunF.call (d := some 70) (g := 16) (args := #[.slice Aq62 ((rdr ([] : List Int) ([t8, ((([] : List Int) ++ t8).set (t25 : Int).toNat (U8 ((rd (([] : List Int) ++ t8) t25) + a4))), a2, ([] : List Int), ([0] : List Int), ([1] : List Int), ([0, 0] : List Int)] : List (List Int)) x14_0).length) cq62]) (k2 := (pin Go.Proofs.Tryd.f3 [1, 1, 1, 1, 1, 1, 1, 0, 1, 0, 0, 1, 0, 0, 1, 0] 5)) (by kernel_rfl) (scrimref4_Back.calls k Aq62 ((rdr ([] : List Int) ([t8, ((([] : List Int) ++ t8).set (t25 : Int).toNat (U8 ((rd (([] : List Int) ++ t8) t25) + a4))), a2, ([] : List Int), ([0] : List Int), ([1] : List Int), ([0, 0] : List Int)] : List (List Int)) x14_0).length) cq62 (rdr ([] : List Int) ([t8, ((([] : List Int) ++ t8).set (t25 : Int).toNat (U8 ((rd (([] : List Int) ++ t8) t25) + a4))), a2, ([] : List Int), ([0] : List Int), ([1] : List Int), ([0, 0] : List Int)] : List (List Int)) x14_0) t66 _ (hq62 _ (And.intro (Mem.oks (hM.as (H' := Gs [⟨.slice A58 t57.1.length c60, 5, 1, nums .u8 t57.1⟩] [Fq51, Fq46, Fq45, Fq44, Fq43, Fq42]) rfl) 5 rfl) (And.intro (Mem.oks (hM.as (H' := Gs [⟨.slice A58 t57.1.length c60, 5, 1, nums .u8 t57.1⟩] [Fq51, Fq46, Fq45, Fq44, Fq43, Fq42]) rfl) 4 rfl) (And.intro hM.kept (And.intro (Mem.oks (hM.as (H' := Gs [⟨.slice A58 t57.1.length c60, 5, 1, nums .u8 t57.1⟩] [Fq51, Fq46, Fq45, Fq44, Fq43, Fq42]) rfl) 3 rfl) (And.intro (Mem.oks (hM.as (H' := Gs [⟨.slice A58 t57.1.length c60, 5, 1, nums .u8 t57.1⟩] [Fq51, Fq46, Fq45, Fq44, Fq43, Fq42]) rfl) 2 rfl) (Mem.oks (hM.as (H' := Gs [⟨.slice A58 t57.1.length c60, 5, 1, nums .u8 t57.1⟩] [Fq51, Fq46, Fq45, Fq44, Fq43, Fq42]) rfl) 1 rfl))))))) ht66) ?_
                                  rintro _ W65 ⟨A67, n68, c69, rfl, hM_⟩
                                  obtain rfl : t66.1.length = n68 := by have h_ := (hM_.rd 0 rfl).1; simpa [nums_length, bools_length, strs_length] using h_
                                  replace hM : Mem w W65 (Gs [⟨.slice A67 t66.1.length c69, 5, 1, nums .u8 t66.1⟩, ⟨.slice A58 t57.1.length c60, 5, 1, nums .u8 t57.1⟩] [Fq51, Fq46, Fq45, Fq44, Fq43, Fq42]) := (Mem.callG (hM.as (H' := Gs [⟨.slice A58 t57.1.length c60, 5, 1, nums .u8 t57.1⟩] [Fq51, Fq46, Fq45, Fq44, Fq43, Fq42]) rfl) hM_.grp).as rfl
                                  clear hM_ ht66
                                  refine RunF.go 7 [11, 13, 14, 15, 16, 17, 18] (k' := (pl Go.Proofs.Tryd.f3 [1, 1, 1, 1, 1, 1, 1, 0, 1, 0, 0, 1, 0, 0, 1, 1, 0])) (L' := [(11, .slice A9 t8.length c11), (13, .slice (some ⟨g48, 0, none⟩) 7 7), (14, .int .i64 x14_0), (15, .slice A58 t57.1.length c60), (16, .bool t57.2), (17, .slice A67 t66.1.length c69), (18, .bool t66.2)]) (w' := W65) (by kernel_rfl) ?_
                                  refine RunF.draw (Still ({ W65 with drawn := W65.drawn + 1 } : World) []) (by kernel_rfl) (by kernel_rfl) ?_
                                  have hMd72 := hM.drew
                                  have hS := Still.refl ({ W65 with drawn := W65.drawn + 1 } : World) []
                                  generalize ({ W65 with drawn := W65.drawn + 1 } : World) = W71 at hMd72 hS ⊢
                                  replace hM := hMd72
                                  refine RunAny.y 0 (by kernel_rfl) (yl_pure (d := some 73) (v := .slice (some ⟨g48, 0, none⟩) 7 7) (k2 := [.inRegion (opsOf (pl Go.Proofs.Tryd.f3 [1, 1, 1, 1, 1, 1, 1, 0, 1, 0, 0, 1, 0, 0, 1, 1, 0])) []]) fun w => by kernel_rfl) (fun _ _ => trivial) hS ?_
                                  refine RunAny.y 1 (by kernel_rfl) (yl_pure (d := some 74) (v := .int .i64 x14_0) (k2 := [.inRegion (opsOf (pl Go.Proofs.Tryd.f3 [1, 1, 1, 1, 1, 1, 1, 0, 1, 0, 0, 1, 0, 0, 1, 1, 0])) []]) fun w => by kernel_rfl) (fun _ _ => trivial) hS ?_
                                  rcases two (decide (0 ≤ x14_0)) with c74 | c74
                                  · replace h := of_true h c74
                                    rcases two (decide (x14_0 < (7 : Int))) with c75 | c75
                                    · replace h := of_true h c75
                                      obtain ⟨uq73, huq73, hvq73⟩ := Each2.at hqq47 ([] : List Int) (i := x14_0) (of_decide_eq_true c74) (by have h_ : x14_0 < (7 : Int) := (of_decide_eq_true c75); first | exact h_ | (simpa using h_))
                                      obtain ⟨Aq73, cq73, rfl, hq73⟩ := hvq73
                                      obtain ⟨q73, hAq73, hcq73⟩ := RdF.elem hfq51 (Mem.oks (hM.as (H' := Gs [⟨.slice A67 t66.1.length c69, 5, 1, nums .u8 t66.1⟩, ⟨.slice A58 t57.1.length c60, 5, 1, nums .u8 t57.1⟩] [Fq51, Fq46, Fq45, Fq44, Fq43, Fq42]) rfl) 0 rfl) huq73
                                      refine RunAny.y 2 (by kernel_rfl) (idx_y (d := some 75) (A := (some ⟨g48, 0, none⟩)) (m := 7) (i := x14_0) (k2 := [.inRegion (opsOf (pl Go.Proofs.Tryd.f3 [1, 1, 1, 1, 1, 1, 1, 0, 1, 0, 0, 1, 0, 0, 1, 1, 0])) []]) (by kernel_rfl) (of_decide_eq_true c74) (of_decide_eq_true c75) hAq73) (fun _ _ => trivial) hS ?_
                                      refine RunAny.y 3 (by kernel_rfl) (ld_y (d := some 76) (p := (q73.add (x14_0 : Int).toNat)) (k2 := [.inRegion (opsOf (pl Go.Proofs.Tryd.f3 [1, 1, 1, 1, 1, 1, 1, 0, 1, 0, 0, 1, 0, 0, 1, 1, 0])) []]) (.slice Aq73 ((rdr ([] : List Int) ([t8, ((([] : List Int) ++ t8).set (t25 : Int).toNat (U8 ((rd (([] : List Int) ++ t8) t25) + a4))), a2, ([] : List Int), ([0] : List Int), ([1] : List Int), ([0, 0] : List Int)] : List (List Int)) x14_0).length) cq73) (by kernel_rfl)) (fun _ hs => hs.cell hcq73 (by simp)) hS ?_
                                      refine RunAny.y 5 (by kernel_rfl) (yl_pure (d := some 78) (v := .slice (some ⟨g48, 0, none⟩) 7 7) (k2 := [.inRegion (opsOf (pl Go.Proofs.Tryd.f3 [1, 1, 1, 1, 1, 1, 1, 0, 1, 0, 0, 1, 0, 0, 1, 1, 0])) []]) fun w => by kernel_rfl) (fun _ _ => trivial) hS ?_
                                      refine RunAny.y 6 (by kernel_rfl) (yl_pure (d := some 79) (v := .int .i64 x14_0) (k2 := [.inRegion (opsOf (pl Go.Proofs.Tryd.f3 [1, 1, 1, 1, 1, 1, 1, 0, 1, 0, 0, 1, 0, 0, 1, 1, 0])) []]) fun w => by kernel_rfl) (fun _ _ => trivial) hS ?_
                                      rcases two (decide (0 ≤ x14_0)) with c77 | c77
                                      · replace h := of_true h c77
                                        rcases two (decide (x14_0 < (7 : Int))) with c78 | c78
                                        · replace h := of_true h c78
                                          obtain ⟨uq76, huq76, hvq76⟩ := Each2.at hqq47 ([] : List Int) (i := x14_0) (of_decide_eq_true c77) (by have h_ : x14_0 < (7 : Int) := (of_decide_eq_true c78); first | exact h_ | (simpa using h_))
                                          obtain ⟨Aq76, cq76, rfl, hq76⟩ := hvq76
                                          obtain ⟨q76, hAq76, hcq76⟩ := RdF.elem hfq51 (Mem.oks (hM.as (H' := Gs [⟨.slice A67 t66.1.length c69, 5, 1, nums .u8 t66.1⟩, ⟨.slice A58 t57.1.length c60, 5, 1, nums .u8 t57.1⟩] [Fq51, Fq46, Fq45, Fq44, Fq43, Fq42]) rfl) 0 rfl) huq76
                                          refine RunAny.y 7 (by kernel_rfl) (idx_y (d := some 80) (A := (some ⟨g48, 0, none⟩)) (m := 7) (i := x14_0) (k2 := [.inRegion (opsOf (pl Go.Proofs.Tryd.f3 [1, 1, 1, 1, 1, 1, 1, 0, 1, 0, 0, 1, 0, 0, 1, 1, 0])) []]) (by kernel_rfl) (of_decide_eq_true c77) (of_decide_eq_true c78) hAq76) (fun _ _ => trivial) hS ?_
                                          refine RunAny.y 8 (by kernel_rfl) (ld_y (d := some 81) (p := (q76.add (x14_0 : Int).toNat)) (k2 := [.inRegion (opsOf (pl Go.Proofs.Tryd.f3 [1, 1, 1, 1, 1, 1, 1, 0, 1, 0, 0, 1, 0, 0, 1, 1, 0])) []]) (.slice Aq76 ((rdr ([] : List Int) ([t8, ((([] : List Int) ++ t8).set (t25 : Int).toNat (U8 ((rd (([] : List Int) ++ t8) t25) + a4))), a2, ([] : List Int), ([0] : List Int), ([1] : List Int), ([0, 0] : List Int)] : List (List Int)) x14_0).length) cq76) (by kernel_rfl)) (fun _ hs => hs.cell hcq76 (by simp)) hS ?_
                                          obtain ⟨t80, ht80, h⟩ := Option.bind_eq_some_iff.mp h
                                          refine RunAny.call 4 (d := some 77) (g := 17) (args := #[.slice Aq73 ((rdr ([] : List Int) ([t8, ((([] : List Int) ++ t8).set (t25 : Int).toNat (U8 ((rd (([] : List Int) ++ t8) t25) + a4))), a2, ([] : List Int), ([0] : List Int), ([1] : List Int), ([0, 0] : List Int)] : List (List Int)) x14_0).length) cq73]) (by kernel_rfl) (by kernel_rfl) (box_Is.calls k Aq73 ((rdr ([] : List Int) ([t8, ((([] : List Int) ++ t8).set (t25 : Int).toNat (U8 ((rd (([] : List Int) ++ t8) t25) + a4))), a2, ([] : List Int), ([0] : List Int), ([1] : List Int), ([0, 0] : List Int)] : List (List Int)) x14_0).length) cq73 (rdr ([] : List Int) ([t8, ((([] : List Int) ++ t8).set (t25 : Int).toNat (U8 ((rd (([] : List Int) ++ t8) t25) + a4))), a2, ([] : List Int), ([0] : List Int), ([1] : List Int), ([0, 0] : List Int)] : List (List Int)) x14_0) t80 _ (hq73 _ (And.intro (Mem.oks (hM.as (H' := Gs [⟨.slice A67 t66.1.length c69, 5, 1, nums .u8 t66.1⟩, ⟨.slice A58 t57.1.length c60, 5, 1, nums .u8 t57.1⟩] [Fq51, Fq46, Fq45, Fq44, Fq43, Fq42]) rfl) 5 rfl) (And.intro (Mem.oks (hM.as (H' := Gs [⟨.slice A67 t66.1.length c69, 5, 1, nums .u8 t66.1⟩, ⟨.slice A58 t57.1.length c60, 5, 1, nums .u8 t57.1⟩] [Fq51, Fq46, Fq45, Fq44, Fq43, Fq42]) rfl) 4 rfl) (And.intro hM.kept (And.intro (Mem.oks (hM.as (H' := Gs [⟨.slice A67 t66.1.length c69, 5, 1, nums .u8 t66.1⟩, ⟨.slice A58 t57.1.length c60, 5, 1, nums .u8 t57.1⟩] [Fq51, Fq46, Fq45, Fq44, Fq43, Fq42]) rfl) 3 rfl) (And.intro (Mem.oks (hM.as (H' := Gs [⟨.slice A67 t66.1.length c69, 5, 1, nums .u8 t66.1⟩, ⟨.slice A58 t57.1.length c60, 5, 1, nums .u8 t57.1⟩] [Fq51, Fq46, Fq45, Fq44, Fq43, Fq42]) rfl) 2 rfl) (Mem.oks (hM.as (H' := Gs [⟨.slice A67 t66.1.length c69, 5, 1, nums .u8 t66.1⟩, ⟨.slice A58 t57.1.length c60, 5, 1, nums .u8 t57.1⟩] [Fq51, Fq46, Fq45, Fq44, Fq43, Fq42]) rfl) 1 rfl))))))) ht80) (by rintro _ _ ⟨rfl, hM_⟩; exact hS.below hM_.below) ?_
                                          rintro _ W79 ⟨rfl, hM_⟩
                                          replace hS := hS.below hM_.below
                                          replace hM : Mem w W79 (Gs [⟨.slice A67 t66.1.length c69, 5, 1, nums .u8 t66.1⟩, ⟨.slice A58 t57.1.length c60, 5, 1, nums .u8 t57.1⟩] [Fq51, Fq46, Fq45, Fq44, Fq43, Fq42]) := (Mem.callG (hM.as (H' := Gs [⟨.slice A67 t66.1.length c69, 5, 1, nums .u8 t66.1⟩, ⟨.slice A58 t57.1.length c60, 5, 1, nums .u8 t57.1⟩] [Fq51, Fq46, Fq45, Fq44, Fq43, Fq42]) rfl) hM_.grp).as rfl
                                          clear hM_ ht80
                                          refine RunAny.rebase hS ?_
                                          replace hS := Still.refl W79 []
                                          obtain ⟨t82, ht82, h⟩ := Option.bind_eq_some_iff.mp h
                                          refine RunAny.call 9 (d := some 82) (g := 18) (args := #[.slice Aq76 ((rdr ([] : List Int) ([t8, ((([] : List Int) ++ t8).set (t25 : Int).toNat (U8 ((rd (([] : List Int) ++ t8) t25) + a4))), a2, ([] : List Int), ([0] : List Int), ([1] : List Int), ([0, 0] : List Int)] : List (List Int)) x14_0).length) cq76]) (by kernel_rfl) (by kernel_rfl) (scrimref4_Is.calls k Aq76 ((rdr ([] : List Int) ([t8, ((([] : List Int) ++ t8).set (t25 : Int).toNat (U8 ((rd (([] : List Int) ++ t8) t25) + a4))), a2, ([] : List Int), ([0] : List Int), ([1] : List Int), ([0, 0] : List Int)] : List (List Int)) x14_0).length) cq76 (rdr ([] : List Int) ([t8, ((([] : List Int) ++ t8).set (t25 : Int).toNat (U8 ((rd (([] : List Int) ++ t8) t25) + a4))), a2, ([] : List Int), ([0] : List Int), ([1] : List Int), ([0, 0] : List Int)] : List (List Int)) x14_0) t82 _ (hq76 _ (And.intro (Mem.oks (hM.as (H' := Gs [⟨.slice A67 t66.1.length c69, 5, 1, nums .u8 t66.1⟩, ⟨.slice A58 t57.1.length c60, 5, 1, nums .u8 t57.1⟩] [Fq51, Fq46, Fq45, Fq44, Fq43, Fq42]) rfl) 5 rfl) (And.intro (Mem.oks (hM.as (H' := Gs [⟨.slice A67 t66.1.length c69, 5, 1, nums .u8 t66.1⟩, ⟨.slice A58 t57.1.length c60, 5, 1, nums .u8 t57.1⟩] [Fq51, Fq46, Fq45, Fq44, Fq43, Fq42]) rfl) 4 rfl) (And.intro hM.kept (And.intro (Mem.oks (hM.as (H' := Gs [⟨.slice A67 t66.1.length c69, 5, 1, nums .u8 t66.1⟩, ⟨.slice A58 t57.1.length c60, 5, 1, nums .u8 t57.1⟩] [Fq51, Fq46, Fq45, Fq44, Fq43, Fq42]) rfl) 3 rfl) (And.intro (Mem.oks (hM.as (H' := Gs [⟨.slice A67 t66.1.length c69, 5, 1, nums .u8 t66.1⟩, ⟨.slice A58 t57.1.length c60, 5, 1, nums .u8 t57.1⟩] [Fq51, Fq46, Fq45, Fq44, Fq43, Fq42]) rfl) 2 rfl) (Mem.oks (hM.as (H' := Gs [⟨.slice A67 t66.1.length c69, 5, 1, nums .u8 t66.1⟩, ⟨.slice A58 t57.1.length c60, 5, 1, nums .u8 t57.1⟩] [Fq51, Fq46, Fq45, Fq44, Fq43, Fq42]) rfl) 1 rfl))))))) ht82) (by rintro _ _ ⟨rfl, hM_⟩; exact hS.below hM_.below) ?_
                                          rintro _ W81 ⟨rfl, hM_⟩
                                          replace hS := hS.below hM_.below
                                          replace hM : Mem w W81 (Gs [⟨.slice A67 t66.1.length c69, 5, 1, nums .u8 t66.1⟩, ⟨.slice A58 t57.1.length c60, 5, 1, nums .u8 t57.1⟩] [Fq51, Fq46, Fq45, Fq44, Fq43, Fq42]) := (Mem.callG (hM.as (H' := Gs [⟨.slice A67 t66.1.length c69, 5, 1, nums .u8 t66.1⟩, ⟨.slice A58 t57.1.length c60, 5, 1, nums .u8 t57.1⟩] [Fq51, Fq46, Fq45, Fq44, Fq43, Fq42]) rfl) hM_.grp).as rfl
                                          clear hM_ ht82
                                          refine RunAny.rebase hS ?_
                                          replace hS := Still.refl W81 []
                                          refine RunAny.y 10 (by kernel_rfl) (yl_pure (d := some 83) (v := .bool (!(t80 == t82))) (k2 := [.inRegion (opsOf (pl Go.Proofs.Tryd.f3 [1, 1, 1, 1, 1, 1, 1, 0, 1, 0, 0, 1, 0, 0, 1, 1, 0])) []]) fun w => by kernel_rfl) (fun _ _ => trivial) hS ?_
                                          refine RunAny.y 11 (by kernel_rfl) (yl_pure (d := some 84) (v := .bool (!(t80 == t82))) (k2 := [.inRegion (opsOf (pl Go.Proofs.Tryd.f3 [1, 1, 1, 1, 1, 1, 1, 0, 1, 0, 0, 1, 0, 0, 1, 1, 0])) []]) fun w => by kernel_rfl) (fun _ _ => trivial) hS ?_
                                          rcases two (!(t80 == t82)) with c83 | c83
                                          · replace h := of_true h c83
                                            refine RunAny.know 84 (b := true) (by kernel_rfl) c83 ?_
                                            refine RunAny.off 12 (d := some 85) (by kernel_rfl) (by kernel_rfl) hS ?_
                                            refine RunAny.off 13 (d := some 86) (by kernel_rfl) (by kernel_rfl) hS ?_
                                            refine RunAny.off 14 (d := some 87) (by kernel_rfl) (by kernel_rfl) hS ?_
                                            refine RunAny.y 15 (by kernel_rfl) (yl_pure (d := some 88) (v := .bool true) (k2 := [.inRegion (opsOf (pl Go.Proofs.Tryd.f3 [1, 1, 1, 1, 1, 1, 1, 0, 1, 0, 0, 1, 0, 0, 1, 1, 0])) []]) fun w => by kernel_rfl) (fun _ _ => trivial) hS ?_
                                            refine RunAny.y 16 (by kernel_rfl) (yl_pure (d := some 89) (v := .bool true) (k2 := [.inRegion (opsOf (pl Go.Proofs.Tryd.f3 [1, 1, 1, 1, 1, 1, 1, 0, 1, 0, 0, 1, 0, 0, 1, 1, 0])) []]) fun w => by kernel_rfl) (fun _ _ => trivial) hS ?_
                                            refine RunAny.off 17 (d := some 90) (by kernel_rfl) (by kernel_rfl) hS ?_
                                            refine RunAny.off 18 (d := some 91) (by kernel_rfl) (by kernel_rfl) hS ?_
                                            refine RunAny.off 19 (d := some 92) (by kernel_rfl) (by kernel_rfl) hS ?_
                                            refine RunAny.off 20 (d := some 93) (by kernel_rfl) (by kernel_rfl) hS ?_
                                            refine RunAny.off 21 (d := some 94) (by kernel_rfl) (by kernel_rfl) hS ?_
                                            refine RunAny.y 22 (by kernel_rfl) (yl_pure (d := some 95) (v := .bool true) (k2 := [.inRegion (opsOf (pl Go.Proofs.Tryd.f3 [1, 1, 1, 1, 1, 1, 1, 0, 1, 0, 0, 1, 0, 0, 1, 1, 0])) []]) fun w => by kernel_rfl) (fun _ _ => trivial) hS ?_
                                            refine RunAny.done (by kernel_rfl) ?_
                                            clear hS
                                            refine RunF.go 5 [10] (k' := (pl Go.Proofs.Tryd.f3 [1, 1, 1, 1, 1, 1, 1, 0, 1, 0, 0, 1, 0, 0, 1, 1, 1, 0, 1])) (L' := [(10, .bool false)]) (w' := W81) (by kernel_rfl) ?_
                                            obtain rfl := Option.some.inj h
                                            exact RunF.ret1 10 (.bool false) (fn := Go.Proofs.Tryd.f3) Go.Proofs.Tryd.func3 (by kernel_rfl) (by kernel_rfl) (by kernel_rfl) ⟨_, rfl, rfl, (Mem.pickF (hM.as (H' := Gs [⟨.slice A67 t66.1.length c69, 5, 1, nums .u8 t66.1⟩, ⟨.slice A58 t57.1.length c60, 5, 1, nums .u8 t57.1⟩] [Fq51, Fq46, Fq45, Fq44, Fq43, Fq42]) rfl) [] rfl rfl rfl).ungrp⟩
                                          · replace h := of_false h c83
                                            refine RunAny.know 84 (b := false) (by kernel_rfl) c83 ?_
                                            refine RunAny.y 12 (by kernel_rfl) (yl_pure (d := some 85) (v := .bool t57.2) (k2 := [.inRegion (opsOf (pl Go.Proofs.Tryd.f3 [1, 1, 1, 1, 1, 1, 1, 0, 1, 0, 0, 1, 0, 0, 1, 1, 0])) []]) fun w => by kernel_rfl) (fun _ _ => trivial) hS ?_
                                            refine RunAny.y 13 (by kernel_rfl) (yl_pure (d := some 86) (v := .bool t66.2) (k2 := [.inRegion (opsOf (pl Go.Proofs.Tryd.f3 [1, 1, 1, 1, 1, 1, 1, 0, 1, 0, 0, 1, 0, 0, 1, 1, 0])) []]) fun w => by kernel_rfl) (fun _ _ => trivial) hS ?_
                                            refine RunAny.y 14 (by kernel_rfl) (yl_pure (d := some 87) (v := .bool (!(t57.2 == t66.2))) (k2 := [.inRegion (opsOf (pl Go.Proofs.Tryd.f3 [1, 1, 1, 1, 1, 1, 1, 0, 1, 0, 0, 1, 0, 0, 1, 1, 0])) []]) fun w => by kernel_rfl) (fun _ _ => trivial) hS ?_
                                            refine RunAny.y 15 (by kernel_rfl) (yl_pure (d := some 88) (v := .bool (!(t57.2 == t66.2))) (k2 := [.inRegion (opsOf (pl Go.Proofs.Tryd.f3 [1, 1, 1, 1, 1, 1, 1, 0, 1, 0, 0, 1, 0, 0, 1, 1, 0])) []]) fun w => by kernel_rfl) (fun _ _ => trivial) hS ?_
                                            refine RunAny.y 16 (by kernel_rfl) (yl_pure (d := some 89) (v := .bool (!(t57.2 == t66.2))) (k2 := [.inRegion (opsOf (pl Go.Proofs.Tryd.f3 [1, 1, 1, 1, 1, 1, 1, 0, 1, 0, 0, 1, 0, 0, 1, 1, 0])) []]) fun w => by kernel_rfl) (fun _ _ => trivial) hS ?_
                                            rcases two (!(t57.2 == t66.2)) with c84 | c84
                                            · replace h := of_true h c84
                                              refine RunAny.know 89 (b := true) (by kernel_rfl) c84 ?_
                                              refine RunAny.off 17 (d := some 90) (by kernel_rfl) (by kernel_rfl) hS ?_
                                              refine RunAny.off 18 (d := some 91) (by kernel_rfl) (by kernel_rfl) hS ?_
                                              refine RunAny.off 19 (d := some 92) (by kernel_rfl) (by kernel_rfl) hS ?_
                                              refine RunAny.off 20 (d := some 93) (by kernel_rfl) (by kernel_rfl) hS ?_
                                              refine RunAny.off 21 (d := some 94) (by kernel_rfl) (by kernel_rfl) hS ?_
                                              refine RunAny.y 22 (by kernel_rfl) (yl_pure (d := some 95) (v := .bool true) (k2 := [.inRegion (opsOf (pl Go.Proofs.Tryd.f3 [1, 1, 1, 1, 1, 1, 1, 0, 1, 0, 0, 1, 0, 0, 1, 1, 0])) []]) fun w => by kernel_rfl) (fun _ _ => trivial) hS ?_
                                              refine RunAny.done (by kernel_rfl) ?_
                                              clear hS
                                              refine RunF.go 5 [10] (k' := (pl Go.Proofs.Tryd.f3 [1, 1, 1, 1, 1, 1, 1, 0, 1, 0, 0, 1, 0, 0, 1, 1, 1, 0, 1])) (L' := [(10, .bool false)]) (w' := W81) (by kernel_rfl) ?_
                                              obtain rfl := Option.some.inj h
                                              exact RunF.ret1 10 (.bool false) (fn := Go.Proofs.Tryd.f3) Go.Proofs.Tryd.func3 (by kernel_rfl) (by kernel_rfl) (by kernel_rfl) ⟨_, rfl, rfl, (Mem.pickF (hM.as (H' := Gs [⟨.slice A67 t66.1.length c69, 5, 1, nums .u8 t66.1⟩, ⟨.slice A58 t57.1.length c60, 5, 1, nums .u8 t57.1⟩] [Fq51, Fq46, Fq45, Fq44, Fq43, Fq42]) rfl) [] rfl rfl rfl).ungrp⟩
                                            · replace h := of_false h c84
                                              refine RunAny.know 89 (b := false) (by kernel_rfl) c84 ?_
                                              refine RunAny.y 17 (by kernel_rfl) (yl_pure (d := some 90) (v := .slice A58 t57.1.length c60) (k2 := [.inRegion (opsOf (pl Go.Proofs.Tryd.f3 [1, 1, 1, 1, 1, 1, 1, 0, 1, 0, 0, 1, 0, 0, 1, 1, 0])) []]) fun w => by kernel_rfl) (fun _ _ => trivial) hS ?_
                                              refine RunAny.y 18 (by kernel_rfl) (str_y (d := some 91) (A := A58) (m := t57.1.length) (c := c60) (k2 := [.inRegion (opsOf (pl Go.Proofs.Tryd.f3 [1, 1, 1, 1, 1, 1, 1, 0, 1, 0, 0, 1, 0, 0, 1, 1, 0])) []]) t57.1 (by kernel_rfl)) (fun _ hs => ((hM.rd 1 rfl).still hs (by simp))) hS ?_
                                              refine RunAny.y 19 (by kernel_rfl) (yl_pure (d := some 92) (v := .slice A67 t66.1.length c69) (k2 := [.inRegion (opsOf (pl Go.Proofs.Tryd.f3 [1, 1, 1, 1, 1, 1, 1, 0, 1, 0, 0, 1, 0, 0, 1, 1, 0])) []]) fun w => by kernel_rfl) (fun _ _ => trivial) hS ?_
                                              refine RunAny.y 20 (by kernel_rfl) (str_y (d := some 93) (A := A67) (m := t66.1.length) (c := c69) (k2 := [.inRegion (opsOf (pl Go.Proofs.Tryd.f3 [1, 1, 1, 1, 1, 1, 1, 0, 1, 0, 0, 1, 0, 0, 1, 1, 0])) []]) t66.1 (by kernel_rfl)) (fun _ hs => ((hM.rd 0 rfl).still hs (by simp))) hS ?_
                                              refine RunAny.y 21 (by kernel_rfl) (yl_pure (d := some 94) (v := .bool (!((strOf t57.1).toList == (strOf t66.1).toList))) (k2 := [.inRegion (opsOf (pl Go.Proofs.Tryd.f3 [1, 1, 1, 1, 1, 1, 1, 0, 1, 0, 0, 1, 0, 0, 1, 1, 0])) []]) fun w => by kernel_rfl) (fun _ _ => trivial) hS ?_
                                              refine RunAny.y 22 (by kernel_rfl) (yl_pure (d := some 95) (v := .bool (!((strOf t57.1).toList == (strOf t66.1).toList))) (k2 := [.inRegion (opsOf (pl Go.Proofs.Tryd.f3 [1, 1, 1, 1, 1, 1, 1, 0, 1, 0, 0, 1, 0, 0, 1, 1, 0])) []]) fun w => by kernel_rfl) (fun _ _ => trivial) hS ?_
                                              refine RunAny.done (by kernel_rfl) ?_
                                              clear hS
                                              obtain ⟨y85, hy, h⟩ := Option.bind_eq_some_iff.mp h
                                              rw [show (!((strOf t57.1).toList == (strOf t66.1).toList)) = y85 from Option.some.inj hy]
                                              clear hy
                                              rcases two (y85) with c86 | c86
                                              · replace h := of_true h c86
                                                refine RunF.know 95 (b := true) (by kernel_rfl) c86 ?_
                                                refine RunF.go 5 [10] (k' := (pl Go.Proofs.Tryd.f3 [1, 1, 1, 1, 1, 1, 1, 0, 1, 0, 0, 1, 0, 0, 1, 1, 1, 0, 1])) (L' := [(10, .bool false)]) (w' := W81) (by kernel_rfl) ?_
                                                obtain rfl := Option.some.inj h
                                                exact RunF.ret1 10 (.bool false) (fn := Go.Proofs.Tryd.f3) Go.Proofs.Tryd.func3 (by kernel_rfl) (by kernel_rfl) (by kernel_rfl) ⟨_, rfl, rfl, (Mem.pickF (hM.as (H' := Gs [⟨.slice A67 t66.1.length c69, 5, 1, nums .u8 t66.1⟩, ⟨.slice A58 t57.1.length c60, 5, 1, nums .u8 t57.1⟩] [Fq51, Fq46, Fq45, Fq44, Fq43, Fq42]) rfl) [] rfl rfl rfl).ungrp⟩
                                              · replace h := of_false h c86
                                                refine RunF.know 95 (b := false) (by kernel_rfl) c86 ?_
                                                refine RunF.go 9 [11, 13, 14] (k' := (pl Go.Proofs.Tryd.f3 [1, 1, 1, 1, 1, 1, 1, 0, 1, 0, 0])) (L' := [(11, .slice A9 t8.length c11), (13, .slice (some ⟨g48, 0, none⟩) 7 7), (14, .int .i64 (I64 (x14_0 + 1)))]) (w' := W81) (by kernel_rfl) ?_
                                                exact ih0 k (by omega) (I64 (x14_0 + 1)) _ (Mem.pickF (hM.as (H' := Gs [⟨.slice A67 t66.1.length c69, 5, 1, nums .u8 t66.1⟩, ⟨.slice A58 t57.1.length c60, 5, 1, nums .u8 t57.1⟩] [Fq51, Fq46, Fq45, Fq44, Fq43, Fq42]) rfl) [2, 3, 4, 5, 6, 7] rfl rfl rfl) h
                                        · replace h := of_false h c78
                                          cases h
                                      · replace h := of_false h c77
                                        cases h
                                    · replace h := of_false h c75
                                      cases h
                                  · replace h := of_false h c74
                                    cases h
                                · replace h := of_false h c64
                                  cases h
                              · replace h := of_false h c63
                                cases h
                            · replace h := of_false h c55
                              cases h
                          · replace h := of_false h c54
                            cases h
                        · replace h := of_false h c52
                          refine RunF.know 54 (b := false) (by kernel_rfl) c52 ?_
                          refine RunF.go 5 [96] (k' := (pin Go.Proofs.Tryd.f3 [1, 1, 1, 1, 1, 1, 1, 1, 0] 1)) (L' := [(96, .slice A9 t8.length c11)]) (w' := W) (by kernel_rfl) ?_
                          obtain ⟨t88, ht88, h⟩ := Option.bind_eq_some_iff.mp h
                          refine RunF.call (d := some 97) (g := 17) (args := #[.slice A9 t8.length c11]) (k2 := (pin Go.Proofs.Tryd.f3 [1, 1, 1, 1, 1, 1, 1, 1, 0] 2)) (by kernel_rfl) (box_Is.calls k A9 t8.length c11 t8 t88 _ (hfq42 _ (Mem.oks (hM.as (H' := Gs [] [Fq51, Fq46, Fq45, Fq44, Fq43, Fq42]) rfl) 5 rfl)) ht88) ?_
                          rintro _ W87 ⟨rfl, hM_⟩
                          replace hM : Mem w W87 (Gs [] [Fq51, Fq46, Fq45, Fq44, Fq43, Fq42]) := (Mem.callG (hM.as (H' := Gs [] [Fq51, Fq46, Fq45, Fq44, Fq43, Fq42]) rfl) hM_.grp).as rfl
                          clear hM_ ht88
                          refine RunF.go 2 [10] (k' := (pl Go.Proofs.Tryd.f3 [1, 1, 1, 1, 1, 1, 1, 1, 1])) (L' := [(10, .bool t88)]) (w' := W87) (by kernel_rfl) ?_
                          obtain rfl := Option.some.inj h
                          exact RunF.ret1 10 (.bool t88) (fn := Go.Proofs.Tryd.f3) Go.Proofs.Tryd.func3 (by kernel_rfl) (by kernel_rfl) (by kernel_rfl) ⟨_, rfl, rfl, (Mem.pickF (hM.as (H' := Gs [] [Fq51, Fq46, Fq45, Fq44, Fq43, Fq42]) rfl) [] rfl rfl rfl).ungrp⟩
                  exact l0 k (Nat.le_refl _) 0 _ (Mem.pickF (hM.as (H' := Gs [] [Fq51, Fq46, Fq45, Fq44, Fq43, Fq42]) rfl) [0, 1, 2, 3, 4, 5] rfl rfl rfl) h
                · replace h := of_false h c31
                  cases h
              · replace h := of_false h c30
                cases h
            · replace h := of_false h c28
              cases h
          · replace h := of_false h c27
            cases h
        · replace h := of_false h c23
          refine RunF.know 33 (b := false) (by kernel_rfl) c23 ?_
          refine RunF.go 7 [11, 44, 45, 46] (k' := (pin Go.Proofs.Tryd.f3 [1, 1, 1, 1, 1, 1, 0] 3)) (L' := [(11, .slice A9 t8.length c11), (44, .slice A9 t8.length c11), (45, .slice A16 ((([] : List Int) ++ t8).length) c18), (46, .slice Ap2 a2.length cp2)]) (w' := W19) (by kernel_rfl) ?_
          refine RunF.new 5 1 1 (nums .u8 [0]) (d := some 47) (k2 := (pin Go.Proofs.Tryd.f3 [1, 1, 1, 1, 1, 1, 0] 4)) hM (by simp [nums, bools, strs]) (by kernel_rfl) (by kernel_rfl) ?_
          replace hM := hM
          intro g89 W90 hM
          refine RunF.new 5 1 1 (nums .u8 [1]) (d := some 48) (k2 := (pin Go.Proofs.Tryd.f3 [1, 1, 1, 1, 1, 1, 0] 5)) hM (by simp [nums, bools, strs]) (by kernel_rfl) (by kernel_rfl) ?_
          replace hM := hM
          intro g92 W93 hM
          refine RunF.new 5 1 2 (nums .u8 [0, 0]) (d := some 49) (k2 := (pin Go.Proofs.Tryd.f3 [1, 1, 1, 1, 1, 1, 0] 6)) hM (by simp [nums, bools, strs]) (by kernel_rfl) (by kernel_rfl) ?_
          replace hM := hM
          intro g95 W96 hM
          obtain ⟨Fq98, hfq98, hM⟩ := Mem.freezeS (H1 := [⟨.slice (some ⟨g95, 0, none⟩) 2 2, 5, 1, nums .u8 [0, 0]⟩, ⟨.slice (some ⟨g92, 0, none⟩) 1 1, 5, 1, nums .u8 [1]⟩, ⟨.slice (some ⟨g89, 0, none⟩) 1 1, 5, 1, nums .u8 [0]⟩, ⟨.slice A16 ((([] : List Int) ++ t8).length) c18, 5, 1, nums .u8 (([] : List Int) ++ t8)⟩]) (H2 := []) (Fs := []) (A := A9) (n := t8.length) (c := c11) (ty := 5) (cs := nums .u8 t8) (hM.as rfl)
          obtain ⟨Fq99, hfq99, hM⟩ := Mem.freezeS (H1 := [⟨.slice (some ⟨g95, 0, none⟩) 2 2, 5, 1, nums .u8 [0, 0]⟩, ⟨.slice (some ⟨g92, 0, none⟩) 1 1, 5, 1, nums .u8 [1]⟩, ⟨.slice (some ⟨g89, 0, none⟩) 1 1, 5, 1, nums .u8 [0]⟩]) (H2 := []) (Fs := [Fq98]) (A := A16) (n := (([] : List Int) ++ t8).length) (c := c18) (ty := 5) (cs := nums .u8 (([] : List Int) ++ t8)) (hM.as rfl)
          obtain ⟨Fq100, hfq100, hM⟩ := Mem.freezeS (H1 := [⟨.slice (some ⟨g95, 0, none⟩) 2 2, 5, 1, nums .u8 [0, 0]⟩, ⟨.slice (some ⟨g92, 0, none⟩) 1 1, 5, 1, nums .u8 [1]⟩]) (H2 := []) (Fs := [Fq99, Fq98]) (A := (some ⟨g89, 0, none⟩)) (n := 1) (c := 1) (ty := 5) (cs := nums .u8 [0]) (hM.as rfl)
          obtain ⟨Fq101, hfq101, hM⟩ := Mem.freezeS (H1 := [⟨.slice (some ⟨g95, 0, none⟩) 2 2, 5, 1, nums .u8 [0, 0]⟩]) (H2 := []) (Fs := [Fq100, Fq99, Fq98]) (A := (some ⟨g92, 0, none⟩)) (n := 1) (c := 1) (ty := 5) (cs := nums .u8 [1]) (hM.as rfl)
          obtain ⟨Fq102, hfq102, hM⟩ := Mem.freezeS (H1 := []) (H2 := []) (Fs := [Fq101, Fq100, Fq99, Fq98]) (A := (some ⟨g95, 0, none⟩)) (n := 2) (c := 2) (ty := 5) (cs := nums .u8 [0, 0]) (hM.as rfl)
          have hqq103 : Each2 ((rNums .u8) (andZ (Oks Fq98) (andZ (Oks Fq99) (andZ (Kept w) (andZ (Oks Fq100) (andZ (Oks Fq101) (Oks Fq102))))))) [.slice A9 t8.length c11, .slice A16 ((([] : List Int) ++ t8).length) c18, .slice Ap2 a2.length cp2, .slice none 0 0, .slice (some ⟨g89, 0, none⟩) 1 1, .slice (some ⟨g92, 0, none⟩) 1 1, .slice (some ⟨g95, 0, none⟩) 2 2] ([t8, (([] : List Int) ++ t8), a2, ([] : List Int), ([0] : List Int), ([1] : List Int), ([0, 0] : List Int)] : List (List Int)) := (.cons (rnums_of (RdF.up hfq98 (fun _ hz_ => hz_.1)) (And.intro (Mem.oks (hM.as (H' := Gs [] [Fq102, Fq101, Fq100, Fq99, Fq98]) rfl) 4 rfl) (And.intro (Mem.oks (hM.as (H' := Gs [] [Fq102, Fq101, Fq100, Fq99, Fq98]) rfl) 3 rfl) (And.intro hM.kept (And.intro (Mem.oks (hM.as (H' := Gs [] [Fq102, Fq101, Fq100, Fq99, Fq98]) rfl) 2 rfl) (And.intro (Mem.oks (hM.as (H' := Gs [] [Fq102, Fq101, Fq100, Fq99, Fq98]) rfl) 1 rfl) (Mem.oks (hM.as (H' := Gs [] [Fq102, Fq101, Fq100, Fq99, Fq98]) rfl) 0 rfl))))))) (.cons (rnums_of (RdF.up hfq99 (fun _ hz_ => hz_.2.1)) (And.intro (Mem.oks (hM.as (H' := Gs [] [Fq102, Fq101, Fq100, Fq99, Fq98]) rfl) 4 rfl) (And.intro (Mem.oks (hM.as (H' := Gs [] [Fq102, Fq101, Fq100, Fq99, Fq98]) rfl) 3 rfl) (And.intro hM.kept (And.intro (Mem.oks (hM.as (H' := Gs [] [Fq102, Fq101, Fq100, Fq99, Fq98]) rfl) 2 rfl) (And.intro (Mem.oks (hM.as (H' := Gs [] [Fq102, Fq101, Fq100, Fq99, Fq98]) rfl) 1 rfl) (Mem.oks (hM.as (H' := Gs [] [Fq102, Fq101, Fq100, Fq99, Fq98]) rfl) 0 rfl))))))) (.cons (rnums_of (RdF.up (RdF.of_rd hr2) (fun _ hz_ => hz_.2.2.1)) (And.intro (Mem.oks (hM.as (H' := Gs [] [Fq102, Fq101, Fq100, Fq99, Fq98]) rfl) 4 rfl) (And.intro (Mem.oks (hM.as (H' := Gs [] [Fq102, Fq101, Fq100, Fq99, Fq98]) rfl) 3 rfl) (And.intro hM.kept (And.intro (Mem.oks (hM.as (H' := Gs [] [Fq102, Fq101, Fq100, Fq99, Fq98]) rfl) 2 rfl) (And.intro (Mem.oks (hM.as (H' := Gs [] [Fq102, Fq101, Fq100, Fq99, Fq98]) rfl) 1 rfl) (Mem.oks (hM.as (H' := Gs [] [Fq102, Fq101, Fq100, Fq99, Fq98]) rfl) 0 rfl))))))) (.cons ⟨_, _, rfl, fun _ _ => Rd.nil _ _⟩ (.cons (rnums_of (RdF.up hfq100 (fun _ hz_ => hz_.2.2.2.1)) (And.intro (Mem.oks (hM.as (H' := Gs [] [Fq102, Fq101, Fq100, Fq99, Fq98]) rfl) 4 rfl) (And.intro (Mem.oks (hM.as (H' := Gs [] [Fq102, Fq101, Fq100, Fq99, Fq98]) rfl) 3 rfl) (And.intro hM.kept (And.intro (Mem.oks (hM.as (H' := Gs [] [Fq102, Fq101, Fq100, Fq99, Fq98]) rfl) 2 rfl) (And.intro (Mem.oks (hM.as (H' := Gs [] [Fq102, Fq101, Fq100, Fq99, Fq98]) rfl) 1 rfl) (Mem.oks (hM.as (H' := Gs [] [Fq102, Fq101, Fq100, Fq99, Fq98]) rfl) 0 rfl))))))) (.cons (rnums_of (RdF.up hfq101 (fun _ hz_ => hz_.2.2.2.2.1)) (And.intro (Mem.oks (hM.as (H' := Gs [] [Fq102, Fq101, Fq100, Fq99, Fq98]) rfl) 4 rfl) (And.intro (Mem.oks (hM.as (H' := Gs [] [Fq102, Fq101, Fq100, Fq99, Fq98]) rfl) 3 rfl) (And.intro hM.kept (And.intro (Mem.oks (hM.as (H' := Gs [] [Fq102, Fq101, Fq100, Fq99, Fq98]) rfl) 2 rfl) (And.intro (Mem.oks (hM.as (H' := Gs [] [Fq102, Fq101, Fq100, Fq99, Fq98]) rfl) 1 rfl) (Mem.oks (hM.as (H' := Gs [] [Fq102, Fq101, Fq100, Fq99, Fq98]) rfl) 0 rfl))))))) (.cons (rnums_of (RdF.up hfq102 (fun _ hz_ => hz_.2.2.2.2.2)) (And.intro (Mem.oks (hM.as (H' := Gs [] [Fq102, Fq101, Fq100, Fq99, Fq98]) rfl) 4 rfl) (And.intro (Mem.oks (hM.as (H' := Gs [] [Fq102, Fq101, Fq100, Fq99, Fq98]) rfl) 3 rfl) (And.intro hM.kept (And.intro (Mem.oks (hM.as (H' := Gs [] [Fq102, Fq101, Fq100, Fq99, Fq98]) rfl) 2 rfl) (And.intro (Mem.oks (hM.as (H' := Gs [] [Fq102, Fq101, Fq100, Fq99, Fq98]) rfl) 1 rfl) (Mem.oks (hM.as (H' := Gs [] [Fq102, Fq101, Fq100, Fq99, Fq98]) rfl) 0 rfl))))))) (Each2.nil _))))))))
          refine RunF.new 23 1 7 ([.slice A9 t8.length c11, .slice A16 ((([] : List Int) ++ t8).length) c18, .slice Ap2 a2.length cp2, .slice none 0 0, .slice (some ⟨g89, 0, none⟩) 1 1, .slice (some ⟨g92, 0, none⟩) 1 1, .slice (some ⟨g95, 0, none⟩) 2 2]) (d := some 50) (k2 := (pin Go.Proofs.Tryd.f3 [1, 1, 1, 1, 1, 1, 0] 7)) hM (by rfl) (by kernel_rfl) (by kernel_rfl) ?_
          intro g104 W105 hM
          refine RunF.go 9 [11, 13, 14] (k' := (pl Go.Proofs.Tryd.f3 [1, 1, 1, 1, 1, 1, 1, 0, 1, 0, 0])) (L' := [(11, .slice A9 t8.length c11), (13, .slice (some ⟨g104, 0, none⟩) 7 7), (14, .int .i64 0)]) (w' := W105) (by kernel_rfl) ?_
          obtain ⟨Fq107, hfq107, hM⟩ := Mem.freezeS (H1 := []) (H2 := []) (Fs := [Fq102, Fq101, Fq100, Fq99, Fq98]) (A := (some ⟨g104, 0, none⟩)) (n := 7) (c := 7) (ty := 23) (cs := [.slice A9 t8.length c11, .slice A16 ((([] : List Int) ++ t8).length) c18, .slice Ap2 a2.length cp2, .slice none 0 0, .slice (some ⟨g89, 0, none⟩) 1 1, .slice (some ⟨g92, 0, none⟩) 1 1, .slice (some ⟨g95, 0, none⟩) 2 2]) (hM.as rfl)
          have l1 : ∀ (k_ : Nat), k_ ≤ k → ∀ (x14_1 : Int) (W : World) (hM : Mem w W (Gs [] [Fq107, Fq102, Fq101, Fq100, Fq99, Fq98])) (h : scrimlaw4_BoxIs.l1 k_ a2 t8 x14_1 = some r), RunF Go.Proofs.Tryd.prog (Ret fun v w' => v = .bool r ∧ Mem w w' []) 3 (pl Go.Proofs.Tryd.f3 [1, 1, 1, 1, 1, 1, 1, 0, 1, 0, 0]) 98 [(11, .slice A9 t8.length c11), (13, .slice (some ⟨g104, 0, none⟩) 7 7), (14, .int .i64 x14_1)] W := by
            intro k_
            induction k_ using Nat.strongRecOn with
            | _ k_ ih1 =>
              intro hk x14_1 W hM h
              cases k_ with
              | zero => exact absurd h (by simp [scrimlaw4_BoxIs.l1])
              | succ k =>
                simp only [scrimlaw4_BoxIs.l1] at h
                replace ih1 : ∀ m, m ≤ k → _ := fun m hm => ih1 m (by omega) (by omega)
                refine RunF.go 8 [11, 13, 14, 54] (k' := (pl Go.Proofs.Tryd.f3 [1, 1, 1, 1, 1, 1, 1, 0, 1, 0, 0, 0, 1])) (L' := [(11, .slice A9 t8.length c11), (13, .slice (some ⟨g104, 0, none⟩) 7 7), (14, .int .i64 x14_1), (54, .bool (decide (x14_1 < ((7 : Nat) : Int))))]) (w' := W) (by kernel_rfl) ?_
                rcases two (decide (x14_1 < ((7 : Nat) : Int))) with c108 | c108
                · replace h := of_true h c108
                  refine RunF.know 54 (b := true) (by kernel_rfl) c108 ?_
                  refine RunF.go 8 [11, 13, 14, 58, 59] (k' := (pin Go.Proofs.Tryd.f3 [1, 1, 1, 1, 1, 1, 1, 0, 1, 0, 0, 1, 0, 0, 0] 2)) (L' := [(11, .slice A9 t8.length c11), (13, .slice (some ⟨g104, 0, none⟩) 7 7), (14, .int .i64 x14_1), (58, .slice (some ⟨g104, 0, none⟩) 7 7), (59, .int .i64 x14_1)]) (w' := W) (by kernel_rfl) ?_
                  rcases two (decide (0 ≤ x14_1)) with c110 | c110
                  · replace h := of_true h c110
                    rcases two (decide (x14_1 < (7 : Int))) with c111 | c111
                    · replace h := of_true h c111
                      obtain ⟨uq109, huq109, hvq109⟩ := Each2.at hqq103 ([] : List Int) (i := x14_1) (of_decide_eq_true c110) (by have h_ : x14_1 < (7 : Int) := (of_decide_eq_true c111); first | exact h_ | (simpa using h_))
                      obtain ⟨Aq109, cq109, rfl, hq109⟩ := hvq109
                      obtain ⟨q109, hAq109, hcq109⟩ := RdF.elem hfq107 (Mem.oks (hM.as (H' := Gs [] [Fq107, Fq102, Fq101, Fq100, Fq99, Fq98]) rfl) 0 rfl) huq109
                      refine RunF.y (idx_y (d := some 60) (A := (some ⟨g104, 0, none⟩)) (m := 7) (i := x14_1) (k2 := (pin Go.Proofs.Tryd.f3 [1, 1, 1, 1, 1, 1, 1, 0, 1, 0, 0, 1, 0, 0, 0] 3)) (by kernel_rfl) (of_decide_eq_true c110) (of_decide_eq_true c111) hAq109) trivial ?_
                      refine RunF.y (ld_y (d := some 61) (p := (q109.add (x14_1 : Int).toNat)) (k2 := (pin Go.Proofs.Tryd.f3 [1, 1, 1, 1, 1, 1, 1, 0, 1, 0, 0, 1, 0, 0, 0] 4)) (.slice Aq109 ((rdr ([] : List Int) ([t8, (([] : List Int) ++ t8), a2, ([] : List Int), ([0] : List Int), ([1] : List Int), ([0, 0] : List Int)] : List (List Int)) x14_1).length) cq109) (by kernel_rfl)) hcq109 ?_
                      obtain ⟨t113, ht113, h⟩ := Option.bind_eq_some_iff.mp h
                      refine RunF.call (d := some 62) (g := 15) (args := #[.slice Aq109 ((rdr ([] : List Int) ([t8, (([] : List Int) ++ t8), a2, ([] : List Int), ([0] : List Int), ([1] : List Int), ([0, 0] : List Int)] : List (List Int)) x14_1).length) cq109]) (k2 := (pin Go.Proofs.Tryd.f3 [1, 1, 1, 1, 1, 1, 1, 0, 1, 0, 0, 1, 0, 0, 0] 5)) (by kernel_rfl) (box_Back.calls k Aq109 ((rdr ([] : List Int) ([t8, (([] : List Int) ++ t8), a2, ([] : List Int), ([0] : List Int), ([1] : List Int), ([0, 0] : List Int)] : List (List Int)) x14_1).length) cq109 (rdr ([] : List Int) ([t8, (([] : List Int) ++ t8), a2, ([] : List Int), ([0] : List Int), ([1] : List Int), ([0, 0] : List Int)] : List (List Int)) x14_1) t113 _ (hq109 _ (And.intro (Mem.oks (hM.as (H' := Gs [] [Fq107, Fq102, Fq101, Fq100, Fq99, Fq98]) rfl) 5 rfl) (And.intro (Mem.oks (hM.as (H' := Gs [] [Fq107, Fq102, Fq101, Fq100, Fq99, Fq98]) rfl) 4 rfl) (And.intro hM.kept (And.intro (Mem.oks (hM.as (H' := Gs [] [Fq107, Fq102, Fq101, Fq100, Fq99, Fq98]) rfl) 3 rfl) (And.intro (Mem.oks (hM.as (H' := Gs [] [Fq107, Fq102, Fq101, Fq100, Fq99, Fq98]) rfl) 2 rfl) (Mem.oks (hM.as (H' := Gs [] [Fq107, Fq102, Fq101, Fq100, Fq99, Fq98]) rfl) 1 rfl))))))) ht113) ?_
                      rintro _ W112 ⟨A114, n115, c116, rfl, hM_⟩
                      obtain rfl : t113.1.length = n115 := by have h_ := (hM_.rd 0 rfl).1; simpa [nums_length, bools_length, strs_length] using h_
                      replace hM : Mem w W112 (Gs [⟨.slice A114 t113.1.length c116, 5, 1, nums .u8 t113.1⟩] [Fq107, Fq102, Fq101, Fq100, Fq99, Fq98]) := (Mem.callG (hM.as (H' := Gs [] [Fq107, Fq102, Fq101, Fq100, Fq99, Fq98]) rfl) hM_.grp).as rfl
                      clear hM_ ht113
                      refine RunF.go 10 [11, 13, 14, 15, 16, 66, 67] (k' := (pin Go.Proofs.Tryd.f3 [1, 1, 1, 1, 1, 1, 1, 0, 1, 0, 0, 1, 0, 0, 1, 0] 2)) (L' := [(11, .slice A9 t8.length c11), (13, .slice (some ⟨g104, 0, none⟩) 7 7), (14, .int .i64 x14_1), (15, .slice A114 t113.1.length c116), (16, .bool t113.2), (66, .slice (some ⟨g104, 0, none⟩) 7 7), (67, .int .i64 x14_1)]) (w' := W112) (by kernel_rfl) ?_
                      rcases two (decide (0 ≤ x14_1)) with c119 | c119
                      · replace h := of_true h c119
                        rcases two (decide (x14_1 < (7 : Int))) with c120 | c120
                        · replace h := of_true h c120
                          obtain ⟨uq118, huq118, hvq118⟩ := Each2.at hqq103 ([] : List Int) (i := x14_1) (of_decide_eq_true c119) (by have h_ : x14_1 < (7 : Int) := (of_decide_eq_true c120); first | exact h_ | (simpa using h_))
                          obtain ⟨Aq118, cq118, rfl, hq118⟩ := hvq118
                          obtain ⟨q118, hAq118, hcq118⟩ := RdF.elem hfq107 (Mem.oks (hM.as (H' := Gs [⟨.slice A114 t113.1.length c116, 5, 1, nums .u8 t113.1⟩] [Fq107, Fq102, Fq101, Fq100, Fq99, Fq98]) rfl) 0 rfl) huq118
                          refine RunF.y (idx_y (d := some 68) (A := (some ⟨g104, 0, none⟩)) (m := 7) (i := x14_1) (k2 := (pin Go.Proofs.Tryd.f3 [1, 1, 1, 1, 1, 1, 1, 0, 1, 0, 0, 1, 0, 0, 1, 0] 3)) (by kernel_rfl) (of_decide_eq_true c119) (of_decide_eq_true c120) hAq118) trivial ?_
                          refine RunF.y (ld_y (d := some 69) (p := (q118.add (x14_1 : Int).toNat)) (k2 := (pin Go.Proofs.Tryd.f3 [1, 1, 1, 1, 1, 1, 1, 0, 1, 0, 0, 1, 0, 0, 1, 0] 4)) (.slice Aq118 ((rdr ([] : List Int) ([t8, (([] : List Int) ++ t8), a2, ([] : List Int), ([0] : List Int), ([1] : List Int), ([0, 0] : List Int)] : List (List Int)) x14_1).length) cq118) (by kernel_rfl)) hcq118 ?_
                          obtain ⟨t122, ht122, h⟩ := Option.bind_eq_some_iff.mp h
                          refine RunF.call (d := some 70) (g := 16) (args := #[.slice Aq118 ((rdr ([] : List Int) ([t8, (([] : List Int) ++ t8), a2, ([] : List Int), ([0] : List Int), ([1] : List Int), ([0, 0] : List Int)] : List (List Int)) x14_1).length) cq118]) (k2 := (pin Go.Proofs.Tryd.f3 [1, 1, 1, 1, 1, 1, 1, 0, 1, 0, 0, 1, 0, 0, 1, 0] 5)) (by kernel_rfl) (scrimref4_Back.calls k Aq118 ((rdr ([] : List Int) ([t8, (([] : List Int) ++ t8), a2, ([] : List Int), ([0] : List Int), ([1] : List Int), ([0, 0] : List Int)] : List (List Int)) x14_1).length) cq118 (rdr ([] : List Int) ([t8, (([] : List Int) ++ t8), a2, ([] : List Int), ([0] : List Int), ([1] : List Int), ([0, 0] : List Int)] : List (List Int)) x14_1) t122 _ (hq118 _ (And.intro (Mem.oks (hM.as (H' := Gs [⟨.slice A114 t113.1.length c116, 5, 1, nums .u8 t113.1⟩] [Fq107, Fq102, Fq101, Fq100, Fq99, Fq98]) rfl) 5 rfl) (And.intro (Mem.oks (hM.as (H' := Gs [⟨.slice A114 t113.1.length c116, 5, 1, nums .u8 t113.1⟩] [Fq107, Fq102, Fq101, Fq100, Fq99, Fq98]) rfl) 4 rfl) (And.intro hM.kept (And.intro (Mem.oks (hM.as (H' := Gs [⟨.slice A114 t113.1.length c116, 5, 1, nums .u8 t113.1⟩] [Fq107, Fq102, Fq101, Fq100, Fq99, Fq98]) rfl) 3 rfl) (And.intro (Mem.oks (hM.as (H' := Gs [⟨.slice A114 t113.1.length c116, 5, 1, nums .u8 t113.1⟩] [Fq107, Fq102, Fq101, Fq100, Fq99, Fq98]) rfl) 2 rfl) (Mem.oks (hM.as (H' := Gs [⟨.slice A114 t113.1.length c116, 5, 1, nums .u8 t113.1⟩] [Fq107, Fq102, Fq101, Fq100, Fq99, Fq98]) rfl) 1 rfl))))))) ht122) ?_
                          rintro _ W121 ⟨A123, n124, c125, rfl, hM_⟩
                          obtain rfl : t122.1.length = n124 := by have h_ := (hM_.rd 0 rfl).1; simpa [nums_length, bools_length, strs_length] using h_
                          replace hM : Mem w W121 (Gs [⟨.slice A123 t122.1.length c125, 5, 1, nums .u8 t122.1⟩, ⟨.slice A114 t113.1.length c116, 5, 1, nums .u8 t113.1⟩] [Fq107, Fq102, Fq101, Fq100, Fq99, Fq98]) := (Mem.callG (hM.as (H' := Gs [⟨.slice A114 t113.1.length c116, 5, 1, nums .u8 t113.1⟩] [Fq107, Fq102, Fq101, Fq100, Fq99, Fq98]) rfl) hM_.grp).as rfl
                          clear hM_ ht122
                          refine RunF.go 7 [11, 13, 14, 15, 16, 17, 18] (k' := (pl Go.Proofs.Tryd.f3 [1, 1, 1, 1, 1, 1, 1, 0, 1, 0, 0, 1, 0, 0, 1, 1, 0])) (L' := [(11, .slice A9 t8.length c11), (13, .slice (some ⟨g104, 0, none⟩) 7 7), (14, .int .i64 x14_1), (15, .slice A114 t113.1.length c116), (16, .bool t113.2), (17, .slice A123 t122.1.length c125), (18, .bool t122.2)]) (w' := W121) (by kernel_rfl) ?_
                          refine RunF.draw (Still ({ W121 with drawn := W121.drawn + 1 } : World) []) (by kernel_rfl) (by kernel_rfl) ?_
                          have hMd128 := hM.drew
                          have hS := Still.refl ({ W121 with drawn := W121.drawn + 1 } : World) []
                          generalize ({ W121 with drawn := W121.drawn + 1 } : World) = W127 at hMd128 hS ⊢
                          replace hM := hMd128
                          refine RunAny.y 0 (by kernel_rfl) (yl_pure (d := some 73) (v := .slice (some ⟨g104, 0, none⟩) 7 7) (k2 := [.inRegion (opsOf (pl Go.Proofs.Tryd.f3 [1, 1, 1, 1, 1, 1, 1, 0, 1, 0, 0, 1, 0, 0, 1, 1, 0])) []]) fun w => by kernel_rfl) (fun _ _ => trivial) hS ?_
                          refine RunAny.y 1 (by kernel_rfl) (yl_pure (d := some 74) (v := .int .i64 x14_1) (k2 := [.inRegion (opsOf (pl Go.Proofs.Tryd.f3 [1, 1, 1, 1, 1, 1, 1, 0, 1, 0, 0, 1, 0, 0, 1, 1, 0])) []]) fun w => by kernel_rfl) (fun _ _ => trivial) hS ?_
                          rcases two (decide (0 ≤ x14_1)) with c130 | c130
                          · replace h := of_true h c130
                            rcases two (decide (x14_1 < (7 : Int))) with c131 | c131
                            · replace h := of_true h c131
                              obtain ⟨uq129, huq129, hvq129⟩ := Each2.at hqq103 ([] : List Int) (i := x14_1) (of_decide_eq_true c130) (by have h_ : x14_1 < (7 : Int) := (of_decide_eq_true c131); first | exact h_ | (simpa using h_))
                              obtain ⟨Aq129, cq129, rfl, hq129⟩ := hvq129
                              obtain ⟨q129, hAq129, hcq129⟩ := RdF.elem hfq107 (Mem.oks (hM.as (H' := Gs [⟨.slice A123 t122.1.length c125, 5, 1, nums .u8 t122.1⟩, ⟨.slice A114 t113.1.length c116, 5, 1, nums .u8 t113.1⟩] [Fq107, Fq102, Fq101, Fq100, Fq99, Fq98]) rfl) 0 rfl) huq129
                              refine RunAny.y 2 (by kernel_rfl) (idx_y (d := some 75) (A := (some ⟨g104, 0, none⟩)) (m := 7) (i := x14_1) (k2 := [.inRegion (opsOf (pl Go.Proofs.Tryd.f3 [1, 1, 1, 1, 1, 1, 1, 0, 1, 0, 0, 1, 0, 0, 1, 1, 0])) []]) (by kernel_rfl) (of_decide_eq_true c130) (of_decide_eq_true c131) hAq129) (fun _ _ => trivial) hS ?_
                              refine RunAny.y 3 (by kernel_rfl) (ld_y (d := some 76) (p := (q129.add (x14_1 : Int).toNat)) (k2 := [.inRegion (opsOf (pl Go.Proofs.Tryd.f3 [1, 1, 1, 1, 1, 1, 1, 0, 1, 0, 0, 1, 0, 0, 1, 1, 0])) []]) (.slice Aq129 ((rdr ([] : List Int) ([t8, (([] : List Int) ++ t8), a2, ([] : List Int), ([0] : List Int), ([1] : List Int), ([0, 0] : List Int)] : List (List Int)) x14_1).length) cq129) (by kernel_rfl)) (fun _ hs => hs.cell hcq129 (by simp)) hS ?_
                              refine RunAny.y 5 (by kernel_rfl) (yl_pure (d := some 78) (v := .slice (some ⟨g104, 0, none⟩) 7 7) (k2 := [.inRegion (opsOf (pl Go.Proofs.Tryd.f3 [1, 1, 1, 1, 1, 1, 1, 0, 1, 0, 0, 1, 0, 0, 1, 1, 0])) []]) fun w => by kernel_rfl) (fun _ _ => trivial) hS ?_
                              refine RunAny.y 6 (by kernel_rfl) (yl_pure (d := some 79) (v := .int .i64 x14_1) (k2 := [.inRegion (opsOf (pl Go.Proofs.Tryd.f3 [1, 1, 1, 1, 1, 1, 1, 0, 1, 0, 0, 1, 0, 0, 1, 1, 0])) []]) fun w => by kernel_rfl) (fun _ _ => trivial) hS ?_
                              rcases two (decide (0 ≤ x14_1)) with c133 | c133
                              · replace h := of_true h c133
                                rcases two (decide (x14_1 < (7 : Int))) with c134 | c134
                                · replace h := of_true h c134
                                  obtain ⟨uq132, huq132, hvq132⟩ := Each2.at hqq103 ([] : List Int) (i := x14_1) (of_decide_eq_true c133) (by have h_ : x14_1 < (7 : Int) := (of_decide_eq_true c134); first | exact h_ | (simpa using h_))
                                  obtain ⟨Aq132, cq132, rfl, hq132⟩ := hvq132
                                  obtain ⟨q132, hAq132, hcq132⟩ := RdF.elem hfq107 (Mem.oks (hM.as (H' := Gs [⟨.slice A123 t122.1.length c125, 5, 1, nums .u8 t122.1⟩, ⟨.slice A114 t113.1.length c116, 5, 1, nums .u8 t113.1⟩] [Fq107, Fq102, Fq101, Fq100, Fq99, Fq98]) rfl) 0 rfl) huq132
                                  refine RunAny.y 7 (by kernel_rfl) (idx_y (d := some 80) (A := (some ⟨g104, 0, none⟩)) (m := 7) (i := x14_1) (k2 := [.inRegion (opsOf (pl Go.Proofs.Tryd.f3 [1, 1, 1, 1, 1, 1, 1, 0, 1, 0, 0, 1, 0, 0, 1, 1, 0])) []]) (by kernel_rfl) (of_decide_eq_true c133) (of_decide_eq_true c134) hAq132) (fun _ _ => trivial) hS ?_
                                  refine RunAny.y 8 (by kernel_rfl) (ld_y (d := some 81) (p := (q132.add (x14_1 : Int).toNat)) (k2 := [.inRegion (opsOf (pl Go.Proofs.Tryd.f3 [1, 1, 1, 1, 1, 1, 1, 0, 1, 0, 0, 1, 0, 0, 1, 1, 0])) []]) (.slice Aq132 ((rdr ([] : List Int) ([t8, (([] : List Int) ++ t8), a2, ([] : List Int), ([0] : List Int), ([1] : List Int), ([0, 0] : List Int)] : List (List Int)) x14_1).length) cq132) (by kernel_rfl)) (fun _ hs => hs.cell hcq132 (by simp)) hS ?_
                                  obtain ⟨t136, ht136, h⟩ := Option.bind_eq_some_iff.mp h
                                  refine RunAny.call 4 (d := some 77) (g := 17) (args := #[.slice Aq129 ((rdr ([] : List Int) ([t8, (([] : List Int) ++ t8), a2, ([] : List Int), ([0] : List Int), ([1] : List Int), ([0, 0] : List Int)] : List (List Int)) x14_1).length) cq129]) (by kernel_rfl) (by kernel_rfl) (box_Is.calls k Aq129 ((rdr ([] : List Int) ([t8, (([] : List Int) ++ t8), a2, ([] : List Int), ([0] : List Int), ([1] : List Int), ([0, 0] : List Int)] : List (List Int)) x14_1).length) cq129 (rdr ([] : List Int) ([t8, (([] : List Int) ++ t8), a2, ([] : List Int), ([0] : List Int), ([1] : List Int), ([0, 0] : List Int)] : List (List Int)) x14_1) t136 _ (hq129 _ (And.intro (Mem.oks (hM.as (H' := Gs [⟨.slice A123 t122.1.length c125, 5, 1, nums .u8 t122.1⟩, ⟨.slice A114 t113.1.length c116, 5, 1, nums .u8 t113.1⟩] [Fq107, Fq102, Fq101, Fq100, Fq99, Fq98]) rfl) 5 rfl) (And.intro (Mem.oks (hM.as (H' := Gs [⟨.slice A123 t122.1.length c125, 5, 1, nums .u8 t122.1⟩, ⟨.slice A114 t113.1.length c116, 5, 1, nums .u8 t113.1⟩] [Fq107, Fq102, Fq101, Fq100, Fq99, Fq98]) rfl) 4 rfl) (And.intro hM.kept (And.intro (Mem.oks (hM.as (H' := Gs [⟨.slice A123 t122.1.length c125, 5, 1, nums .u8 t122.1⟩, ⟨.slice A114 t113.1.length c116, 5, 1, nums .u8 t113.1⟩] [Fq107, Fq102, Fq101, Fq100, Fq99, Fq98]) rfl) 3 rfl) (And.intro (Mem.oks (hM.as (H' := Gs [⟨.slice A123 t122.1.length c125, 5, 1, nums .u8 t122.1⟩, ⟨.slice A114 t113.1.length c116, 5, 1, nums .u8 t113.1⟩] [Fq107, Fq102, Fq101, Fq100, Fq99, Fq98]) rfl) 2 rfl) (Mem.oks (hM.as (H' := Gs [⟨.slice A123 t122.1.length c125, 5, 1, nums .u8 t122.1⟩, ⟨.slice A114 t113.1.length c116, 5, 1, nums .u8 t113.1⟩] [Fq107, Fq102, Fq101, Fq100, Fq99, Fq98]) rfl) 1 rfl))))))) ht136) (by rintro _ _ ⟨rfl, hM_⟩; exact hS.below hM_.below) ?_
                                  rintro _ W135 ⟨rfl, hM_⟩
                                  replace hS := hS.below hM_.below
                                  replace hM : Mem w W135 (Gs [⟨.slice A123 t122.1.length c125, 5, 1, nums .u8 t122.1⟩, ⟨.slice A114 t113.1.length c116, 5, 1, nums .u8 t113.1⟩] [Fq107, Fq102, Fq101, Fq100, Fq99, Fq98]) := (Mem.callG (hM.as (H' := Gs [⟨.slice A123 t122.1.length c125, 5, 1, nums .u8 t122.1⟩, ⟨.slice A114 t113.1.length c116, 5, 1, nums .u8 t113.1⟩] [Fq107, Fq102, Fq101, Fq100, Fq99, Fq98]) rfl) hM_.grp).as rfl
                                  clear hM_ ht136
                                  refine RunAny.rebase hS ?_
                                  replace hS := Still.refl W135 []
                                  obtain ⟨t138, ht138, h⟩ := Option.bind_eq_some_iff.mp h
                                  refine RunAny.call 9 (d := some 82) (g := 18) (args := #[.slice Aq132 ((rdr ([] : List Int) ([t8, (([] : List Int) ++ t8), a2, ([] : List Int), ([0] : List Int), ([1] : List Int), ([0, 0] : List Int)] : List (List Int)) x14_1).length) cq132]) (by kernel_rfl) (by kernel_rfl) (scrimref4_Is.calls k Aq132 ((rdr ([] : List Int) ([t8, (([] : List Int) ++ t8), a2, ([] : List Int), ([0] : List Int), ([1] : List Int), ([0, 0] : List Int)] : List (List Int)) x14_1).length) cq132 (rdr ([] : List Int) ([t8, (([] : List Int) ++ t8), a2, ([] : List Int), ([0] : List Int), ([1] : List Int), ([0, 0] : List Int)] : List (List Int)) x14_1) t138 _ (hq132 _ (And.intro (Mem.oks (hM.as (H' := Gs [⟨.slice A123 t122.1.length c125, 5, 1, nums .u8 t122.1⟩, ⟨.slice A114 t113.1.length c116, 5, 1, nums .u8 t113.1⟩] [Fq107, Fq102, Fq101, Fq100, Fq99, Fq98]) rfl) 5 rfl) (And.intro (Mem.oks (hM.as (H' := Gs [⟨.slice A123 t122.1.length c125, 5, 1, nums .u8 t122.1⟩, ⟨.slice A114 t113.1.length c116, 5, 1, nums .u8 t113.1⟩] [Fq107, Fq102, Fq101, Fq100, Fq99, Fq98]) rfl) 4 rfl) (And.intro hM.kept (And.intro (Mem.oks (hM.as (H' := Gs [⟨.slice A123 t122.1.length c125, 5, 1, nums .u8 t122.1⟩, ⟨.slice A114 t113.1.length c116, 5, 1, nums .u8 t113.1⟩] [Fq107, Fq102, Fq101, Fq100, Fq99, Fq98]) rfl) 3 rfl) (And.intro (Mem.oks (hM.as (H' := Gs [⟨.slice A123 t122.1.length c125, 5, 1, nums .u8 t122.1⟩, ⟨.slice A114 t113.1.length c116, 5, 1, nums .u8 t113.1⟩] [Fq107, Fq102, Fq101, Fq100, Fq99, Fq98]) rfl) 2 rfl) (Mem.oks (hM.as (H' := Gs [⟨.slice A123 t122.1.length c125, 5, 1, nums .u8 t122.1⟩, ⟨.slice A114 t113.1.length c116, 5, 1, nums .u8 t113.1⟩] [Fq107, Fq102, Fq101, Fq100, Fq99, Fq98]) rfl) 1 rfl))))))) ht138) (by rintro _ _ ⟨rfl, hM_⟩; exact hS.below hM_.below) ?_
                                  rintro _ W137 ⟨rfl, hM_⟩
                                  replace hS := hS.below hM_.below
                                  replace hM : Mem w W137 (Gs [⟨.slice A123 t122.1.length c125, 5, 1, nums .u8 t122.1⟩, ⟨.slice A114 t113.1.length c116, 5, 1, nums .u8 t113.1⟩] [Fq107, Fq102, Fq101, Fq100, Fq99, Fq98]) := (Mem.callG (hM.as (H' := Gs [⟨.slice A123 t122.1.length c125, 5, 1, nums .u8 t122.1⟩, ⟨.slice A114 t113.1.length c116, 5, 1, nums .u8 t113.1⟩] [Fq107, Fq102, Fq101, Fq100, Fq99, Fq98]) rfl) hM_.grp).as rfl
                                  clear hM_ ht138
                                  refine RunAny.rebase hS ?_
                                  replace hS := Still.refl W137 []
                                  refine RunAny.y 10 (by kernel_rfl) (yl_pure (d := some 83) (v := .bool (!(t136 == t138))) (k2 := [.inRegion (opsOf (pl Go.Proofs.Tryd.f3 [1, 1, 1, 1, 1, 1, 1, 0, 1, 0, 0, 1, 0, 0, 1, 1, 0])) []]) fun w => by kernel_rfl) (fun _ _ => trivial) hS ?_
                                  refine RunAny.y 11 (by kernel_rfl) (yl_pure (d := some 84) (v := .bool (!(t136 == t138))) (k2 := [.inRegion (opsOf (pl Go.Proofs.Tryd.f3 [1, 1, 1, 1, 1, 1, 1, 0, 1, 0, 0, 1, 0, 0, 1, 1, 0])) []]) fun w => by kernel_rfl) (fun _ _ => trivial) hS ?_
                                  rcases two (!(t136 == t138)) with c139 | c139
                                  · replace h := of_true h c139
                                    refine RunAny.know 84 (b := true) (by kernel_rfl) c139 ?_
                                    refine RunAny.off 12 (d := some 85) (by kernel_rfl) (by kernel_rfl) hS ?_
                                    refine RunAny.off 13 (d := some 86) (by kernel_rfl) (by kernel_rfl) hS ?_
                                    refine RunAny.off 14 (d := some 87) (by kernel_rfl) (by kernel_rfl) hS ?_
                                    refine RunAny.y 15 (by kernel_rfl) (yl_pure (d := some 88) (v := .bool true) (k2 := [.inRegion (opsOf (pl Go.Proofs.Tryd.f3 [1, 1, 1, 1, 1, 1, 1, 0, 1, 0, 0, 1, 0, 0, 1, 1, 0])) []]) fun w => by kernel_rfl) (fun _ _ => trivial) hS ?_
                                    refine RunAny.y 16 (by kernel_rfl) (yl_pure (d := some 89) (v := .bool true) (k2 := [.inRegion (opsOf (pl Go.Proofs.Tryd.f3 [1, 1, 1, 1, 1, 1, 1, 0, 1, 0, 0, 1, 0, 0, 1, 1, 0])) []]) fun w => by kernel_rfl) (fun _ _ => trivial) hS ?_
                                    refine RunAny.off 17 (d := some 90) (by kernel_rfl) (by kernel_rfl) hS ?_
                                    refine RunAny.off 18 (d := some 91) (by kernel_rfl) (by kernel_rfl) hS ?_
                                    refine RunAny.off 19 (d := some 92) (by kernel_rfl) (by kernel_rfl) hS ?_
                                    refine RunAny.off 20 (d := some 93) (by kernel_rfl) (by kernel_rfl) hS ?_
                                    refine RunAny.off 21 (d := some 94) (by kernel_rfl) (by kernel_rfl) hS ?_
                                    refine RunAny.y 22 (by kernel_rfl) (yl_pure (d := some 95) (v := .bool true) (k2 := [.inRegion (opsOf (pl Go.Proofs.Tryd.f3 [1, 1, 1, 1, 1, 1, 1, 0, 1, 0, 0, 1, 0, 0, 1, 1, 0])) []]) fun w => by kernel_rfl) (fun _ _ => trivial) hS ?_
                                    refine RunAny.done (by kernel_rfl) ?_
                                    clear hS
                                    refine RunF.go 5 [10] (k' := (pl Go.Proofs.Tryd.f3 [1, 1, 1, 1, 1, 1, 1, 0, 1, 0, 0, 1, 0, 0, 1, 1, 1, 0, 1])) (L' := [(10, .bool false)]) (w' := W137) (by kernel_rfl) ?_
                                    obtain rfl := Option.some.inj h
                                    exact RunF.ret1 10 (.bool false) (fn := Go.Proofs.Tryd.f3) Go.Proofs.Tryd.func3 (by kernel_rfl) (by kernel_rfl) (by kernel_rfl) ⟨_, rfl, rfl, (Mem.pickF (hM.as (H' := Gs [⟨.slice A123 t122.1.length c125, 5, 1, nums .u8 t122.1⟩, ⟨.slice A114 t113.1.length c116, 5, 1, nums .u8 t113.1⟩] [Fq107, Fq102, Fq101, Fq100, Fq99, Fq98]) rfl) [] rfl rfl rfl).ungrp⟩
                                  · replace h := of_false h c139
                                    refine RunAny.know 84 (b := false) (by kernel_rfl) c139 ?_
                                    refine RunAny.y 12 (by kernel_rfl) (yl_pure (d := some 85) (v := .bool t113.2) (k2 := [.inRegion (opsOf (pl Go.Proofs.Tryd.f3 [1, 1, 1, 1, 1, 1, 1, 0, 1, 0, 0, 1, 0, 0, 1, 1, 0])) []]) fun w => by kernel_rfl) (fun _ _ => trivial) hS ?_
                                    refine RunAny.y 13 (by kernel_rfl) (yl_pure (d := some 86) (v := .bool t122.2) (k2 := [.inRegion (opsOf (pl Go.Proofs.Tryd.f3 [1, 1, 1, 1, 1, 1, 1, 0, 1, 0, 0, 1, 0, 0, 1, 1, 0])) []]) fun w => by kernel_rfl) (fun _ _ => trivial) hS ?_
                                    refine RunAny.y 14 (by kernel_rfl) (yl_pure (d := some 87) (v := .bool (!(t113.2 == t122.2))) (k2 := [.inRegion (opsOf (pl Go.Proofs.Tryd.f3 [1, 1, 1, 1, 1, 1, 1, 0, 1, 0, 0, 1, 0, 0, 1, 1, 0])) []]) fun w => by kernel_rfl) (fun _ _ => trivial) hS ?_
                                    refine RunAny.y 15 (by kernel_rfl) (yl_pure (d := some 88) (v := .bool (!(t113.2 == t122.2))) (k2 := [.inRegion (opsOf (pl Go.Proofs.Tryd.f3 [1, 1, 1, 1, 1, 1, 1, 0, 1, 0, 0, 1, 0, 0, 1, 1, 0])) []]) fun w => by kernel_rfl) (fun _ _ => trivial) hS ?_
                                    refine RunAny.y 16 (by kernel_rfl) (yl_pure (d := some 89) (v := .bool (!(t113.2 == t122.2))) (k2 := [.inRegion (opsOf (pl Go.Proofs.Tryd.f3 [1, 1, 1, 1, 1, 1, 1, 0, 1, 0, 0, 1, 0, 0, 1, 1, 0])) []]) fun w => by kernel_rfl) (fun _ _ => trivial) hS ?_
                                    rcases two (!(t113.2 == t122.2)) with c140 | c140
                                    · replace h := of_true h c140
                                      refine RunAny.know 89 (b := true) (by kernel_rfl) c140 ?_
                                      refine RunAny.off 17 (d := some 90) (by kernel_rfl) (by kernel_rfl) hS ?_
                                      refine RunAny.off 18 (d := some 91) (by kernel_rfl) (by kernel_rfl) hS ?_
                                      refine RunAny.off 19 (d := some 92) (by kernel_rfl) (by kernel_rfl) hS ?_
                                      refine RunAny.off 20 (d := some 93) (by kernel_rfl) (by kernel_rfl) hS ?_
                                      refine RunAny.off 21 (d := some 94) (by kernel_rfl) (by kernel_rfl) hS ?_
                                      refine RunAny.y 22 (by kernel_rfl) (yl_pure (d := some 95) (v := .bool true) (k2 := [.inRegion (opsOf (pl Go.Proofs.Tryd.f3 [1, 1, 1, 1, 1, 1, 1, 0, 1, 0, 0, 1, 0, 0, 1, 1, 0])) []]) fun w => by kernel_rfl) (fun _ _ => trivial) hS ?_
                                      refine RunAny.done (by kernel_rfl) ?_
                                      clear hS
                                      refine RunF.go 5 [10] (k' := (pl Go.Proofs.Tryd.f3 [1, 1, 1, 1, 1, 1, 1, 0, 1, 0, 0, 1, 0, 0, 1, 1, 1, 0, 1])) (L' := [(10, .bool false)]) (w' := W137) (by kernel_rfl) ?_
                                      obtain rfl := Option.some.inj h
                                      exact RunF.ret1 10 (.bool false) (fn := Go.Proofs.Tryd.f3) Go.Proofs.Tryd.func3 (by kernel_rfl) (by kernel_rfl) (by kernel_rfl) ⟨_, rfl, rfl, (Mem.pickF (hM.as (H' := Gs [⟨.slice A123 t122.1.length c125, 5, 1, nums .u8 t122.1⟩, ⟨.slice A114 t113.1.length c116, 5, 1, nums .u8 t113.1⟩] [Fq107, Fq102, Fq101, Fq100, Fq99, Fq98]) rfl) [] rfl rfl rfl).ungrp⟩
                                    · replace h := of_false h c140
                                      refine RunAny.know 89 (b := false) (by kernel_rfl) c140 ?_
                                      refine RunAny.y 17 (by kernel_rfl) (yl_pure (d := some 90) (v := .slice A114 t113.1.length c116) (k2 := [.inRegion (opsOf (pl Go.Proofs.Tryd.f3 [1, 1, 1, 1, 1, 1, 1, 0, 1, 0, 0, 1, 0, 0, 1, 1, 0])) []]) fun w => by kernel_rfl) (fun _ _ => trivial) hS ?_
                                      refine RunAny.y 18 (by kernel_rfl) (str_y (d := some 91) (A := A114) (m := t113.1.length) (c := c116) (k2 := [.inRegion (opsOf (pl Go.Proofs.Tryd.f3 [1, 1, 1, 1, 1, 1, 1, 0, 1, 0, 0, 1, 0, 0, 1, 1, 0])) []]) t113.1 (by kernel_rfl)) (fun _ hs => ((hM.rd 1 rfl).still hs (by simp))) hS ?_
                                      refine RunAny.y 19 (by kernel_rfl) (yl_pure (d := some 92) (v := .slice A123 t122.1.length c125) (k2 := [.inRegion (opsOf (pl Go.Proofs.Tryd.f3 [1, 1, 1, 1, 1, 1, 1, 0, 1, 0, 0, 1, 0, 0, 1, 1, 0])) []]) fun w => by kernel_rfl) (fun _ _ => trivial) hS ?_
                                      refine RunAny.y 20 (by kernel_rfl) (str_y (d := some 93) (A := A123) (m := t122.1.length) (c := c125) (k2 := [.inRegion (opsOf (pl Go.Proofs.Tryd.f3 [1, 1, 1, 1, 1, 1, 1, 0, 1, 0, 0, 1, 0, 0, 1, 1, 0])) []]) t122.1 (by kernel_rfl)) (fun _ hs => ((hM.rd 0 rfl).still hs (by simp))) hS ?_
                                      refine RunAny.y 21 (by kernel_rfl) (yl_pure (d := some 94) (v := .bool (!((strOf t113.1).toList == (strOf t122.1).toList))) (k2 := [.inRegion (opsOf (pl Go.Proofs.Tryd.f3 [1, 1, 1, 1, 1, 1, 1, 0, 1, 0, 0, 1, 0, 0, 1, 1, 0])) []]) fun w => by kernel_rfl) (fun _ _ => trivial) hS ?_
                                      refine RunAny.y 22 (by kernel_rfl) (yl_pure (d := some 95) (v := .bool (!((strOf t113.1).toList == (strOf t122.1).toList))) (k2 := [.inRegion (opsOf (pl Go.Proofs.Tryd.f3 [1, 1, 1, 1, 1, 1, 1, 0, 1, 0, 0, 1, 0, 0, 1, 1, 0])) []]) fun w => by kernel_rfl) (fun _ _ => trivial) hS ?_
                                      refine RunAny.done (by kernel_rfl) ?_
                                      clear hS
                                      obtain ⟨y141, hy, h⟩ := Option.bind_eq_some_iff.mp h
                                      rw [show (!((strOf t113.1).toList == (strOf t122.1).toList)) = y141 from Option.some.inj hy]
                                      clear hy
                                      rcases two (y141) with c142 | c142
                                      · replace h := of_true h c142
                                        refine RunF.know 95 (b := true) (by kernel_rfl) c142 ?_
                                        refine RunF.go 5 [10] (k' := (pl Go.Proofs.Tryd.f3 [1, 1, 1, 1, 1, 1, 1, 0, 1, 0, 0, 1, 0, 0, 1, 1, 1, 0, 1])) (L' := [(10, .bool false)]) (w' := W137) (by kernel_rfl) ?_
                                        obtain rfl := Option.some.inj h
                                        exact RunF.ret1 10 (.bool false) (fn := Go.Proofs.Tryd.f3) Go.Proofs.Tryd.func3 (by kernel_rfl) (by kernel_rfl) (by kernel_rfl) ⟨_, rfl, rfl, (Mem.pickF (hM.as (H' := Gs [⟨.slice A123 t122.1.length c125, 5, 1, nums .u8 t122.1⟩, ⟨.slice A114 t113.1.length c116, 5, 1, nums .u8 t113.1⟩] [Fq107, Fq102, Fq101, Fq100, Fq99, Fq98]) rfl) [] rfl rfl rfl).ungrp⟩
                                      · replace h := of_false h c142
                                        refine RunF.know 95 (b := false) (by kernel_rfl) c142 ?_
                                        refine RunF.go 9 [11, 13, 14] (k' := (pl Go.Proofs.Tryd.f3 [1, 1, 1, 1, 1, 1, 1, 0, 1, 0, 0])) (L' := [(11, .slice A9 t8.length c11), (13, .slice (some ⟨g104, 0, none⟩) 7 7), (14, .int .i64 (I64 (x14_1 + 1)))]) (w' := W137) (by kernel_rfl) ?_
                                        exact ih1 k (by omega) (I64 (x14_1 + 1)) _ (Mem.pickF (hM.as (H' := Gs [⟨.slice A123 t122.1.length c125, 5, 1, nums .u8 t122.1⟩, ⟨.slice A114 t113.1.length c116, 5, 1, nums .u8 t113.1⟩] [Fq107, Fq102, Fq101, Fq100, Fq99, Fq98]) rfl) [2, 3, 4, 5, 6, 7] rfl rfl rfl) h
                                · replace h := of_false h c134
                                  cases h
                              · replace h := of_false h c133
                                cases h
                            · replace h := of_false h c131
                              cases h
                          · replace h := of_false h c130
                            cases h
                        · replace h := of_false h c120
                          cases h
                      · replace h := of_false h c119
                        cases h
                    · replace h := of_false h c111
                      cases h
                  · replace h := of_false h c110
                    cases h
                · replace h := of_false h c108
                  refine RunF.know 54 (b := false) (by kernel_rfl) c108 ?_
                  refine RunF.go 5 [96] (k' := (pin Go.Proofs.Tryd.f3 [1, 1, 1, 1, 1, 1, 1, 1, 0] 1)) (L' := [(96, .slice A9 t8.length c11)]) (w' := W) (by kernel_rfl) ?_
                  obtain ⟨t144, ht144, h⟩ := Option.bind_eq_some_iff.mp h
                  refine RunF.call (d := some 97) (g := 17) (args := #[.slice A9 t8.length c11]) (k2 := (pin Go.Proofs.Tryd.f3 [1, 1, 1, 1, 1, 1, 1, 1, 0] 2)) (by kernel_rfl) (box_Is.calls k A9 t8.length c11 t8 t144 _ (hfq98 _ (Mem.oks (hM.as (H' := Gs [] [Fq107, Fq102, Fq101, Fq100, Fq99, Fq98]) rfl) 5 rfl)) ht144) ?_
                  rintro _ W143 ⟨rfl, hM_⟩
                  replace hM : Mem w W143 (Gs [] [Fq107, Fq102, Fq101, Fq100, Fq99, Fq98]) := (Mem.callG (hM.as (H' := Gs [] [Fq107, Fq102, Fq101, Fq100, Fq99, Fq98]) rfl) hM_.grp).as rfl
                  clear hM_ ht144
                  refine RunF.go 2 [10] (k' := (pl Go.Proofs.Tryd.f3 [1, 1, 1, 1, 1, 1, 1, 1, 1])) (L' := [(10, .bool t144)]) (w' := W143) (by kernel_rfl) ?_
                  obtain rfl := Option.some.inj h
                  exact RunF.ret1 10 (.bool t144) (fn := Go.Proofs.Tryd.f3) Go.Proofs.Tryd.func3 (by kernel_rfl) (by kernel_rfl) (by kernel_rfl) ⟨_, rfl, rfl, (Mem.pickF (hM.as (H' := Gs [] [Fq107, Fq102, Fq101, Fq100, Fq99, Fq98]) rfl) [] rfl rfl rfl).ungrp⟩
          exact l1 k (Nat.le_refl _) 0 _ (Mem.pickF (hM.as (H' := Gs [] [Fq107, Fq102, Fq101, Fq100, Fq99, Fq98]) rfl) [0, 1, 2, 3, 4, 5] rfl rfl rfl) h
      · replace h := of_false h c20
        cases h


end Go.Scr.S
