/- The functions that the law BoxPowers reaches, as plain functions, and that each call answers so. -/
import Derived.Test.YtfffmmpibebpcaaDoorProg
import Derived.Test.YtfffmmpibebpcaaDoorXPure
set_option linter.unusedVariables false
set_option linter.unusedSimpArgs false
set_option linter.unnecessarySimpa false
namespace Go.Scr.S
/-! ### scrim/box.seen: function 25 -/
def box_seen.l0 : Nat → (List Int) → (List Bool) → Int → Option (List Bool)
  | 0, _, _, _ => none
  | k + 1, a0, x2_0, x7_0 => if (decide (x7_0 < (a0.length : Int))) = true then (if (decide (0 ≤ x7_0)) = true then (if (decide (x7_0 < (a0.length : Int))) = true then (if (decide (0 ≤ (rd a0 x7_0))) = true then (if (decide ((rd a0 x7_0) < (256 : Int))) = true then (box_seen.l0 k a0 (x2_0.set (rd a0 x7_0 : Int).toNat true) (I64 (x7_0 + 1))) else (none)) else (none)) else (none)) else (none)) else (some x2_0)
def box_seen.f (k : Nat) (a0 : List Int) : Option (List Bool) := box_seen.l0 k a0 (List.replicate 256 false) 0
set_option maxRecDepth 100000 in
theorem box_seen.calls (k : Nat) (Ap0 : Option Addr) (np0 cp0 : Nat) (a0 : List Int) (r : List Bool) (w : World) (hr0 : Rd w (.slice Ap0 np0 cp0) (nums .u8 a0)) (h : box_seen.f k a0 = some r) :
    Calls Go.Proofs.Tryd.prog 25 #[(.slice Ap0 np0 cp0)] w (Ret fun v w' => v = .agg (bools r).toArray ∧ r.length = 256 ∧ Mem w w' []) := by
  obtain rfl : a0.length = np0 := by have h_ := hr0.1; simpa [nums_length, bools_length] using h_
  unfold box_seen.f at h
  refine calls_of [.slice Ap0 a0.length cp0] (fn := Go.Proofs.Tryd.f25) Go.Proofs.Tryd.func25 (by kernel_rfl) (by kernel_rfl) ?_
  have hM := Mem.refl w
  refine RunF.go 2 [0] (k' := (pin Go.Proofs.Tryd.f25 [0] 0)) (L' := [(0, .slice Ap0 a0.length cp0)]) (w' := w) (by kernel_rfl) ?_
  refine RunF.newVar 47 (bools (List.replicate 256 false)) (d := some 2) (k2 := (pin Go.Proofs.Tryd.f25 [0] 1)) hM (by kernel_rfl) ?_
  intro g1 W2 hM
  refine RunF.go 10 [2, 5, 6, 7] (k' := (pl Go.Proofs.Tryd.f25 [1, 0, 1, 0, 0])) (L' := [(2, .pointer (some ⟨g1, 0, none⟩)), (5, .slice Ap0 a0.length cp0), (6, .int .i64 (a0.length : Int)), (7, .int .i64 0)]) (w' := W2) (by kernel_rfl) ?_
  have l0 : ∀ (k_ : Nat), k_ ≤ k → ∀ (x2_0 : List Bool) (x7_0 : Int) (W : World) (hM : Mem w W [⟨.pointer (some ⟨g1, 0, none⟩), 47, 0, bools x2_0⟩]) (hlx2_0 : x2_0.length = 256) (h : box_seen.l0 k_ a0 x2_0 x7_0 = some r), RunF Go.Proofs.Tryd.prog (Ret fun v w' => v = .agg (bools r).toArray ∧ r.length = 256 ∧ Mem w w' []) 25 (pl Go.Proofs.Tryd.f25 [1, 0, 1, 0, 0]) 15 [(2, .pointer (some ⟨g1, 0, none⟩)), (5, .slice Ap0 a0.length cp0), (6, .int .i64 (a0.length : Int)), (7, .int .i64 x7_0)] W := by
    intro k_
    induction k_ using Nat.strongRecOn with
    | _ k_ ih0 =>
      intro hk x2_0 x7_0 W hM hlx2_0 h
      cases k_ with
      | zero => exact absurd h (by simp [box_seen.l0])
      | succ k =>
        simp only [box_seen.l0] at h
        replace ih0 : ∀ m, m ≤ k → _ := fun m hm => ih0 m (by omega) (by omega)
        refine RunF.go 5 [2, 5, 6, 7, 8] (k' := (pl Go.Proofs.Tryd.f25 [1, 0, 1, 0, 0, 1, 0])) (L' := [(2, .pointer (some ⟨g1, 0, none⟩)), (5, .slice Ap0 a0.length cp0), (6, .int .i64 (a0.length : Int)), (7, .int .i64 x7_0), (8, .bool (decide (x7_0 < (a0.length : Int))))]) (w' := W) (by kernel_rfl) ?_
        rcases two (decide (x7_0 < (a0.length : Int))) with c4 | c4
        · replace h := of_true h c4
          refine RunF.know 8 (b := true) (by kernel_rfl) c4 ?_
          refine RunF.go 6 [2, 5, 6, 7] (k' := (pin Go.Proofs.Tryd.f25 [1, 0, 1, 0, 0, 1, 1, 0, 0, 0] 0)) (L' := [(2, .pointer (some ⟨g1, 0, none⟩)), (5, .slice Ap0 a0.length cp0), (6, .int .i64 (a0.length : Int)), (7, .int .i64 x7_0)]) (w' := W) (by kernel_rfl) ?_
          rcases two (decide (0 ≤ x7_0)) with c6 | c6
          · replace h := of_true h c6
            rcases two (decide (x7_0 < (a0.length : Int))) with c7 | c7
            · replace h := of_true h c7
              obtain ⟨q5, hAq5, hcq5⟩ := Rd.num (hr0.mono hM.below) (i := x7_0) (of_decide_eq_true c6) (by have h_ := of_decide_eq_true c7; omega)
              refine RunF.y (idx_y (d := some 9) (A := Ap0) (m := a0.length) (i := x7_0) (k2 := (pin Go.Proofs.Tryd.f25 [1, 0, 1, 0, 0, 1, 1, 0, 0, 0] 1)) (by kernel_rfl) (of_decide_eq_true c6) (by have h_ := of_decide_eq_true c7; omega) hAq5) trivial ?_
              refine RunF.y (ld_y (d := some 10) (p := (q5.add (x7_0 : Int).toNat)) (k2 := (pin Go.Proofs.Tryd.f25 [1, 0, 1, 0, 0, 1, 1, 0, 0, 0] 2)) (.int .u8 (rd a0 x7_0)) (by kernel_rfl)) hcq5 ?_
              refine RunF.go 4 [2, 5, 6, 7, 11] (k' := (pin Go.Proofs.Tryd.f25 [1, 0, 1, 0, 0, 1, 1, 0, 0, 1] 1)) (L' := [(2, .pointer (some ⟨g1, 0, none⟩)), (5, .slice Ap0 a0.length cp0), (6, .int .i64 (a0.length : Int)), (7, .int .i64 x7_0), (11, .int .u8 (rd a0 x7_0))]) (w' := W) (by kernel_rfl) ?_
              rcases two (decide (0 ≤ (rd a0 x7_0))) with c9 | c9
              · replace h := of_true h c9
                rcases two (decide ((rd a0 x7_0) < (256 : Int))) with c10 | c10
                · replace h := of_true h c10
                  obtain ⟨hcq8, hfq8, hlq8⟩ := hM.arr_bool 0 rfl (i := rd a0 x7_0) (of_decide_eq_true c9) (N := 256) hlx2_0 (of_decide_eq_true c10)
                  refine RunF.y (idxArr_own (d := some 12) (g := g1) (len := 256) (i := rd a0 x7_0) (k2 := (pin Go.Proofs.Tryd.f25 [1, 0, 1, 0, 0, 1, 1, 0, 0, 1] 2)) (by kernel_rfl) (of_decide_eq_true c9) (of_decide_eq_true c10)) trivial ?_
                  obtain ⟨hc_, hf_, hl_⟩ := hM.arr_bool 0 rfl (i := rd a0 x7_0) (of_decide_eq_true c9) (N := 256) hlx2_0 (of_decide_eq_true c10)
                  refine RunF.doesU (st_u (p := (⟨g1, (rd a0 x7_0 : Int).toNat, none⟩ : Addr)) (v := .bool true) (k2 := (pin Go.Proofs.Tryd.f25 [1, 0, 1, 0, 0, 1, 1, 0, 0, 1] 3)) (by kernel_rfl) hc_ hf_) ?_
                  replace hM : Mem w (W.setCell (⟨g1, (rd a0 x7_0 : Int).toNat, none⟩ : Addr) (.bool true)) [⟨.pointer (some ⟨g1, 0, none⟩), 47, 0, bools (x2_0.set (rd a0 x7_0 : Int).toNat true)⟩] := Mem.arr_put_bool [] [] (hM.pick [0] rfl rfl) _ hl_ _
                  generalize W.setCell (⟨g1, (rd a0 x7_0 : Int).toNat, none⟩ : Addr) (.bool true) = W11 at hM ⊢
                  clear hc_ hf_ hl_ hcq8 hfq8 hlq8
                  refine RunF.go 7 [2, 5, 6, 7] (k' := (pl Go.Proofs.Tryd.f25 [1, 0, 1, 0, 0])) (L' := [(2, .pointer (some ⟨g1, 0, none⟩)), (5, .slice Ap0 a0.length cp0), (6, .int .i64 (a0.length : Int)), (7, .int .i64 (I64 (x7_0 + 1)))]) (w' := W11) (by kernel_rfl) ?_
                  exact ih0 k (by omega) (x2_0.set (rd a0 x7_0 : Int).toNat true) (I64 (x7_0 + 1)) _ (hM.pick [0] rfl rfl) (List.length_set.trans hlx2_0) h
                · replace h := of_false h c10
                  cases h
              · replace h := of_false h c9
                cases h
            · replace h := of_false h c7
              cases h
          · replace h := of_false h c6
            cases h
        · replace h := of_false h c4
          refine RunF.know 8 (b := false) (by kernel_rfl) c4 ?_
          refine RunF.go 4 [2] (k' := (pin Go.Proofs.Tryd.f25 [1, 1, 0] 0)) (L' := [(2, .pointer (some ⟨g1, 0, none⟩))]) (w' := W) (by kernel_rfl) ?_
          refine RunF.y (ldv_y (d := some 14) (g := g1) (N := 256) (ty := 47) (k2 := (pin Go.Proofs.Tryd.f25 [1, 1, 0] 1)) (bools x2_0) (by kernel_rfl) (by simp only [nums_length, bools_length]; exact hlx2_0)) (hM.block 0 rfl) ?_
          refine RunF.doesU (stv_u (N := 256) (cells := (bools x2_0).toArray) (old := (bools x2_0).toArray) (ty := 47) (k2 := (pin Go.Proofs.Tryd.f25 [1, 1, 0] 2)) (by kernel_rfl) (by rw [List.size_toArray]; simp only [nums_length, bools_length]; exact hlx2_0) (hM.block 0 rfl) (by rw [List.size_toArray]; simp only [nums_length, bools_length]; exact hlx2_0) (all_bools _)) ?_
          replace hM : Mem w (W.setRow g1 (bools x2_0).toArray) [⟨.pointer (some ⟨g1, 0, none⟩), 47, 0, bools x2_0⟩] := Mem.setAll [] [] (hM.pick [0] rfl rfl)
          generalize W.setRow g1 (bools x2_0).toArray = W12 at hM ⊢
          refine RunF.go 1 [2] (k' := (pl Go.Proofs.Tryd.f25 [1, 1, 1])) (L' := [(2, .pointer (some ⟨g1, 0, none⟩))]) (w' := W12) (by kernel_rfl) ?_
          obtain rfl := Option.some.inj h
          exact RunF.retc (t := 2) (ty := 47) (N := 256) (g := g1) (bools x2_0) (fn := Go.Proofs.Tryd.f25) Go.Proofs.Tryd.func25 (by kernel_rfl) (by kernel_rfl) (by kernel_rfl) (by kernel_rfl) (by simp only [nums_length, bools_length]; exact hlx2_0) (hM.block 0 rfl) ⟨_, rfl, rfl, hlx2_0, (hM.pick [] rfl rfl)⟩
  exact l0 k (Nat.le_refl _) (List.replicate 256 false) 0 _ (hM.pick [0] rfl rfl) List.length_replicate h

/-! ### scrim/box.Is: function 17 -/
def box_Is.l0 : Nat → (List Int) → (List Bool) → Int → Option (Bool)
  | 0, _, _, _ => none
  | k + 1, a0, x3_0, x10_0 => if (decide (x10_0 < (a0.length : Int))) = true then (if (decide (0 ≤ x10_0)) = true then (if (decide (x10_0 < (256 : Int))) = true then (box_Is.l0 k a0 (x3_0.set (x10_0 : Int).toNat true) (I64 (x10_0 + 1))) else (none)) else (none)) else ((box_seen.f k a0).bind fun t13 => (some (t13 == x3_0)))
def box_Is.f (k : Nat) (a0 : List Int) : Option (Bool) := if (decide ((a0.length : Int) > 256)) = true then (some false) else (box_Is.l0 k a0 (List.replicate 256 false) 0)
set_option maxRecDepth 100000 in
theorem box_Is.calls (k : Nat) (Ap0 : Option Addr) (np0 cp0 : Nat) (a0 : List Int) (r : Bool) (w : World) (hr0 : Rd w (.slice Ap0 np0 cp0) (nums .u8 a0)) (h : box_Is.f k a0 = some r) :
    Calls Go.Proofs.Tryd.prog 17 #[(.slice Ap0 np0 cp0)] w (Ret fun v w' => v = .bool r ∧ Mem w w' []) := by
  obtain rfl : a0.length = np0 := by have h_ := hr0.1; simpa [nums_length, bools_length] using h_
  unfold box_Is.f at h
  refine calls_of [.slice Ap0 a0.length cp0] (fn := Go.Proofs.Tryd.f17) Go.Proofs.Tryd.func17 (by kernel_rfl) (by kernel_rfl) ?_
  have hM := Mem.refl w
  refine RunF.go 11 [0, 7] (k' := (pl Go.Proofs.Tryd.f17 [1, 0, 1])) (L' := [(0, .slice Ap0 a0.length cp0), (7, .bool (decide ((a0.length : Int) > 256)))]) (w' := w) (by kernel_rfl) ?_
  rcases two (decide ((a0.length : Int) > 256)) with c1 | c1
  · replace h := of_true h c1
    refine RunF.know 7 (b := true) (by kernel_rfl) c1 ?_
    refine RunF.go 5 [2] (k' := (pl Go.Proofs.Tryd.f17 [1, 0, 1, 0, 1])) (L' := [(2, .bool false)]) (w' := w) (by kernel_rfl) ?_
    obtain rfl := Option.some.inj h
    exact RunF.ret1 2 (.bool false) (fn := Go.Proofs.Tryd.f17) Go.Proofs.Tryd.func17 (by kernel_rfl) (by kernel_rfl) (by kernel_rfl) ⟨_, rfl, rfl, (hM.pick [] rfl rfl)⟩
  · replace h := of_false h c1
    refine RunF.know 7 (b := false) (by kernel_rfl) c1 ?_
    refine RunF.go 4 [0] (k' := (pin Go.Proofs.Tryd.f17 [1, 1, 0] 0)) (L' := [(0, .slice Ap0 a0.length cp0)]) (w' := w) (by kernel_rfl) ?_
    refine RunF.newVar 47 (bools (List.replicate 256 false)) (d := some 3) (k2 := (pin Go.Proofs.Tryd.f17 [1, 1, 0] 1)) hM (by kernel_rfl) ?_
    intro g2 W3 hM
    refine RunF.go 10 [0, 3, 9, 10] (k' := (pl Go.Proofs.Tryd.f17 [1, 1, 1, 0, 1, 0, 0])) (L' := [(0, .slice Ap0 a0.length cp0), (3, .pointer (some ⟨g2, 0, none⟩)), (9, .int .i64 (a0.length : Int)), (10, .int .i64 0)]) (w' := W3) (by kernel_rfl) ?_
    have l0 : ∀ (k_ : Nat), k_ ≤ k → ∀ (x3_0 : List Bool) (x10_0 : Int) (W : World) (hM : Mem w W [⟨.pointer (some ⟨g2, 0, none⟩), 47, 0, bools x3_0⟩]) (hlx3_0 : x3_0.length = 256) (h : box_Is.l0 k_ a0 x3_0 x10_0 = some r), RunF Go.Proofs.Tryd.prog (Ret fun v w' => v = .bool r ∧ Mem w w' []) 17 (pl Go.Proofs.Tryd.f17 [1, 1, 1, 0, 1, 0, 0]) 20 [(0, .slice Ap0 a0.length cp0), (3, .pointer (some ⟨g2, 0, none⟩)), (9, .int .i64 (a0.length : Int)), (10, .int .i64 x10_0)] W := by
      intro k_
      induction k_ using Nat.strongRecOn with
      | _ k_ ih0 =>
        intro hk x3_0 x10_0 W hM hlx3_0 h
        cases k_ with
        | zero => exact absurd h (by simp [box_Is.l0])
        | succ k =>
          simp only [box_Is.l0] at h
          replace ih0 : ∀ m, m ≤ k → _ := fun m hm => ih0 m (by omega) (by omega)
          refine RunF.go 5 [0, 3, 9, 10, 11] (k' := (pl Go.Proofs.Tryd.f17 [1, 1, 1, 0, 1, 0, 0, 1, 0])) (L' := [(0, .slice Ap0 a0.length cp0), (3, .pointer (some ⟨g2, 0, none⟩)), (9, .int .i64 (a0.length : Int)), (10, .int .i64 x10_0), (11, .bool (decide (x10_0 < (a0.length : Int))))]) (w' := W) (by kernel_rfl) ?_
          rcases two (decide (x10_0 < (a0.length : Int))) with c5 | c5
          · replace h := of_true h c5
            refine RunF.know 11 (b := true) (by kernel_rfl) c5 ?_
            refine RunF.go 11 [0, 3, 9, 10, 13] (k' := (pin Go.Proofs.Tryd.f17 [1, 1, 1, 0, 1, 0, 0, 1, 1, 0, 0, 1] 1)) (L' := [(0, .slice Ap0 a0.length cp0), (3, .pointer (some ⟨g2, 0, none⟩)), (9, .int .i64 (a0.length : Int)), (10, .int .i64 x10_0), (13, .int .i64 x10_0)]) (w' := W) (by kernel_rfl) ?_
            rcases two (decide (0 ≤ x10_0)) with c7 | c7
            · replace h := of_true h c7
              rcases two (decide (x10_0 < (256 : Int))) with c8 | c8
              · replace h := of_true h c8
                obtain ⟨hcq6, hfq6, hlq6⟩ := hM.arr_bool 0 rfl (i := x10_0) (of_decide_eq_true c7) (N := 256) hlx3_0 (of_decide_eq_true c8)
                refine RunF.y (idxArr_own (d := some 14) (g := g2) (len := 256) (i := x10_0) (k2 := (pin Go.Proofs.Tryd.f17 [1, 1, 1, 0, 1, 0, 0, 1, 1, 0, 0, 1] 2)) (by kernel_rfl) (of_decide_eq_true c7) (of_decide_eq_true c8)) trivial ?_
                obtain ⟨hc_, hf_, hl_⟩ := hM.arr_bool 0 rfl (i := x10_0) (of_decide_eq_true c7) (N := 256) hlx3_0 (of_decide_eq_true c8)
                refine RunF.doesU (st_u (p := (⟨g2, (x10_0 : Int).toNat, none⟩ : Addr)) (v := .bool true) (k2 := (pin Go.Proofs.Tryd.f17 [1, 1, 1, 0, 1, 0, 0, 1, 1, 0, 0, 1] 3)) (by kernel_rfl) hc_ hf_) ?_
                replace hM : Mem w (W.setCell (⟨g2, (x10_0 : Int).toNat, none⟩ : Addr) (.bool true)) [⟨.pointer (some ⟨g2, 0, none⟩), 47, 0, bools (x3_0.set (x10_0 : Int).toNat true)⟩] := Mem.arr_put_bool [] [] (hM.pick [0] rfl rfl) _ hl_ _
                generalize W.setCell (⟨g2, (x10_0 : Int).toNat, none⟩ : Addr) (.bool true) = W9 at hM ⊢
                clear hc_ hf_ hl_ hcq6 hfq6 hlq6
                refine RunF.go 7 [0, 3, 9, 10] (k' := (pl Go.Proofs.Tryd.f17 [1, 1, 1, 0, 1, 0, 0])) (L' := [(0, .slice Ap0 a0.length cp0), (3, .pointer (some ⟨g2, 0, none⟩)), (9, .int .i64 (a0.length : Int)), (10, .int .i64 (I64 (x10_0 + 1)))]) (w' := W9) (by kernel_rfl) ?_
                exact ih0 k (by omega) (x3_0.set (x10_0 : Int).toNat true) (I64 (x10_0 + 1)) _ (hM.pick [0] rfl rfl) (List.length_set.trans hlx3_0) h
              · replace h := of_false h c8
                cases h
            · replace h := of_false h c7
              cases h
          · replace h := of_false h c5
            refine RunF.know 11 (b := false) (by kernel_rfl) c5 ?_
            refine RunF.go 3 [0, 3] (k' := (pl Go.Proofs.Tryd.f17 [1, 1, 1, 1, 0])) (L' := [(0, .slice Ap0 a0.length cp0), (3, .pointer (some ⟨g2, 0, none⟩))]) (w' := W) (by kernel_rfl) ?_
            refine RunF.draw (Still ({ W with drawn := W.drawn + 1 } : World) []) (by kernel_rfl) (by kernel_rfl) ?_
            have hMd11 := hM.drew
            have hS := Still.refl ({ W with drawn := W.drawn + 1 } : World) []
            generalize ({ W with drawn := W.drawn + 1 } : World) = W10 at hMd11 hS ⊢
            replace hM := hMd11
            refine RunAny.y 0 (by kernel_rfl) (yl_pure (d := some 16) (v := .slice Ap0 a0.length cp0) (k2 := [.inRegion (opsOf (pl Go.Proofs.Tryd.f17 [1, 1, 1, 1, 0])) []]) fun w => by kernel_rfl) (fun _ _ => trivial) hS ?_
            refine RunAny.y 2 (by kernel_rfl) (ldv_y (d := some 18) (g := g2) (N := 256) (ty := 47) (k2 := [.inRegion (opsOf (pl Go.Proofs.Tryd.f17 [1, 1, 1, 1, 0])) []]) (bools x3_0) (by kernel_rfl) (by simp only [nums_length, bools_length]; exact hlx3_0)) (fun _ hs => hs.block (hM.block 0 rfl) (by simp)) hS ?_
            obtain ⟨t13, ht13, h⟩ := Option.bind_eq_some_iff.mp h
            refine RunAny.call 1 (d := some 17) (g := 25) (args := #[.slice Ap0 a0.length cp0]) (by kernel_rfl) (by kernel_rfl) (box_seen.calls k Ap0 a0.length cp0 a0 t13 _ (hr0.mono hM.below) ht13) (by rintro _ _ ⟨rfl, _, hM_⟩; exact hS.below hM_.below) ?_
            rintro _ W12 ⟨rfl, hNt13_0, hM_⟩
            replace hS := hS.below hM_.below
            replace hM := hM.call hM_
            clear hM_ ht13
            refine RunAny.rebase hS ?_
            replace hS := Still.refl W12 []
            refine RunAny.y 3 (by kernel_rfl) (eqArr_y (d := some 19) (xs := t13) (ys := x3_0) (N := 256) (k2 := [.inRegion (opsOf (pl Go.Proofs.Tryd.f17 [1, 1, 1, 1, 0])) []]) (by kernel_rfl) hNt13_0 hlx3_0) (fun _ _ => trivial) hS ?_
            refine RunAny.y 4 (by kernel_rfl) (yl_pure (d := some 2) (v := .bool (t13 == x3_0)) (k2 := [.inRegion (opsOf (pl Go.Proofs.Tryd.f17 [1, 1, 1, 1, 0])) []]) fun w => by kernel_rfl) (fun _ _ => trivial) hS ?_
            refine RunAny.done (by kernel_rfl) ?_
            clear hS
            obtain rfl := Option.some.inj h
            exact RunF.ret1 2 (.bool (t13 == x3_0)) (fn := Go.Proofs.Tryd.f17) Go.Proofs.Tryd.func17 (by kernel_rfl) (by kernel_rfl) (by kernel_rfl) ⟨_, rfl, rfl, (hM.pick [] rfl rfl)⟩
    exact l0 k (Nat.le_refl _) (List.replicate 256 false) 0 _ (hM.pick [0] rfl rfl) List.length_replicate h

/-! ### scrim/box.Back: function 15 -/
def box_Back.l0 : Nat → (List Int) → (List Int) → Int → Option (List Int × Bool)
  | 0, _, _, _ => none
  | k + 1, a0, x4_0, x15_0 => if (decide (x15_0 < (a0.length : Int))) = true then (if (decide (0 ≤ x15_0)) = true then (if (decide (x15_0 < (a0.length : Int))) = true then (if (decide (0 ≤ (rd a0 x15_0))) = true then (if (decide ((rd a0 x15_0) < (((a0.length : Int)).toNat : Int))) = true then (box_Back.l0 k a0 (x4_0.set (rd a0 x15_0 : Int).toNat (U8 (x15_0))) (I64 (x15_0 + 1))) else (none)) else (none)) else (none)) else (none)) else (some (x4_0, true))
def box_Back.f (k : Nat) (a0 : List Int) : Option (List Int × Bool) := (box_Is.f k a0).bind fun t2 => (if (!t2) = true then (some (([] : List Int), false)) else (if (decide (0 ≤ (a0.length : Int))) = true then (if (decide ((a0.length : Int) ≤ 1000000000)) = true then (box_Back.l0 k a0 (List.replicate (((a0.length : Int)).toNat) 0) 0) else (none)) else (none)))
set_option maxRecDepth 100000 in
theorem box_Back.calls (k : Nat) (Ap0 : Option Addr) (np0 cp0 : Nat) (a0 : List Int) (r : List Int × Bool) (w : World) (hr0 : Rd w (.slice Ap0 np0 cp0) (nums .u8 a0)) (h : box_Back.f k a0 = some r) :
    Calls Go.Proofs.Tryd.prog 15 #[(.slice Ap0 np0 cp0)] w (Ret fun v w' => ∃ A0' n0' c0', v = .tuple #[.slice A0' n0' c0', .bool r.2] ∧ Mem w w' [⟨.slice A0' n0' c0', 5, 1, nums .u8 r.1⟩]) := by
  obtain rfl : a0.length = np0 := by have h_ := hr0.1; simpa [nums_length, bools_length] using h_
  unfold box_Back.f at h
  refine calls_of [.slice Ap0 a0.length cp0] (fn := Go.Proofs.Tryd.f15) Go.Proofs.Tryd.func15 (by kernel_rfl) (by kernel_rfl) ?_
  have hM := Mem.refl w
  refine RunF.go 9 [0, 7] (k' := (pin Go.Proofs.Tryd.f15 [1, 0, 0] 1)) (L' := [(0, .slice Ap0 a0.length cp0), (7, .slice Ap0 a0.length cp0)]) (w' := w) (by kernel_rfl) ?_
  obtain ⟨t2, ht2, h⟩ := Option.bind_eq_some_iff.mp h
  refine RunF.call (d := some 8) (g := 17) (args := #[.slice Ap0 a0.length cp0]) (k2 := (pin Go.Proofs.Tryd.f15 [1, 0, 0] 2)) (by kernel_rfl) (box_Is.calls k Ap0 a0.length cp0 a0 t2 _ (hr0.mono hM.below) ht2) ?_
  rintro _ W1 ⟨rfl, hM_⟩
  replace hM := hM.call hM_
  clear hM_ ht2
  refine RunF.go 2 [0, 9] (k' := (pl Go.Proofs.Tryd.f15 [1, 0, 1])) (L' := [(0, .slice Ap0 a0.length cp0), (9, .bool (!t2))]) (w' := W1) (by kernel_rfl) ?_
  rcases two (!t2) with c3 | c3
  · replace h := of_true h c3
    refine RunF.know 9 (b := true) (by kernel_rfl) c3 ?_
    refine RunF.go 6 [2, 3] (k' := (pl Go.Proofs.Tryd.f15 [1, 0, 1, 0, 1])) (L' := [(2, .slice none 0 0), (3, .bool false)]) (w' := W1) (by kernel_rfl) ?_
    replace hM := hM.nil 5
    obtain rfl := Option.some.inj h
    exact RunF.ret2 2 3 (.slice none 0 0) (.bool false) (fn := Go.Proofs.Tryd.f15) Go.Proofs.Tryd.func15 (by kernel_rfl) (by kernel_rfl) (by kernel_rfl) (by kernel_rfl) ⟨_, rfl, none, 0, 0, rfl, (hM.pick [0] rfl rfl)⟩
  · replace h := of_false h c3
    refine RunF.know 9 (b := false) (by kernel_rfl) c3 ?_
    refine RunF.go 6 [0, 11] (k' := (pin Go.Proofs.Tryd.f15 [1, 1, 0] 2)) (L' := [(0, .slice Ap0 a0.length cp0), (11, .int .i64 (a0.length : Int))]) (w' := W1) (by kernel_rfl) ?_
    rcases two (decide (0 ≤ (a0.length : Int))) with c7 | c7
    · replace h := of_true h c7
      rcases two (decide ((a0.length : Int) ≤ 1000000000)) with c8 | c8
      · replace h := of_true h c8
        have := of_decide_eq_true c7
        have := of_decide_eq_true c8
        obtain ⟨W5, hD, hM', hB_⟩ := mk_does (P := Go.Proofs.Tryd.prog) (n := 27) (k := (pin Go.Proofs.Tryd.f15 [1, 1, 0] 2)) (L := [(0, .slice Ap0 a0.length cp0), (11, .int .i64 (a0.length : Int))]) (d := some 12) (e := 5) (z := .int .u8 0) (l := (a0.length : Int)) (c := (a0.length : Int)) (k2 := (pin Go.Proofs.Tryd.f15 [1, 1, 0] 3)) (by kernel_rfl) (by omega) (by omega) (by omega) hM
        rw [rep_nums] at hM'
        refine RunF.does hD ?_
        replace hM := hM'; clear hD hM'
        generalize W1.heap.size = g6 at hM ⊢
        refine RunF.go 11 [4, 13, 14, 15] (k' := (pl Go.Proofs.Tryd.f15 [1, 1, 1, 0, 1, 0, 0])) (L' := [(4, .slice (some ⟨g6, 0, none⟩) (((a0.length : Int)).toNat) (((a0.length : Int) : Int).toNat)), (13, .slice Ap0 a0.length cp0), (14, .int .i64 (a0.length : Int)), (15, .int .i64 0)]) (w' := W5) (by kernel_rfl) ?_
        have l0 : ∀ (k_ : Nat), k_ ≤ k → ∀ (x4_0 : List Int) (x15_0 : Int) (W : World) (hM : Mem w W [⟨.slice (some ⟨g6, 0, none⟩) (((a0.length : Int)).toNat) (((a0.length : Int) : Int).toNat), 5, 1, nums .u8 x4_0⟩]) (h : box_Back.l0 k_ a0 x4_0 x15_0 = some r), RunF Go.Proofs.Tryd.prog (Ret fun v w' => ∃ A0' n0' c0', v = .tuple #[.slice A0' n0' c0', .bool r.2] ∧ Mem w w' [⟨.slice A0' n0' c0', 5, 1, nums .u8 r.1⟩]) 15 (pl Go.Proofs.Tryd.f15 [1, 1, 1, 0, 1, 0, 0]) 27 [(4, .slice (some ⟨g6, 0, none⟩) (((a0.length : Int)).toNat) (((a0.length : Int) : Int).toNat)), (13, .slice Ap0 a0.length cp0), (14, .int .i64 (a0.length : Int)), (15, .int .i64 x15_0)] W := by
          intro k_
          induction k_ using Nat.strongRecOn with
          | _ k_ ih0 =>
            intro hk x4_0 x15_0 W hM h
            cases k_ with
            | zero => exact absurd h (by simp [box_Back.l0])
            | succ k =>
              simp only [box_Back.l0] at h
              replace ih0 : ∀ m, m ≤ k → _ := fun m hm => ih0 m (by omega) (by omega)
              refine RunF.go 5 [4, 13, 14, 15, 16] (k' := (pl Go.Proofs.Tryd.f15 [1, 1, 1, 0, 1, 0, 0, 1, 0])) (L' := [(4, .slice (some ⟨g6, 0, none⟩) (((a0.length : Int)).toNat) (((a0.length : Int) : Int).toNat)), (13, .slice Ap0 a0.length cp0), (14, .int .i64 (a0.length : Int)), (15, .int .i64 x15_0), (16, .bool (decide (x15_0 < (a0.length : Int))))]) (w' := W) (by kernel_rfl) ?_
              rcases two (decide (x15_0 < (a0.length : Int))) with c10 | c10
              · replace h := of_true h c10
                refine RunF.know 16 (b := true) (by kernel_rfl) c10 ?_
                refine RunF.go 7 [4, 13, 14, 15, 17] (k' := (pin Go.Proofs.Tryd.f15 [1, 1, 1, 0, 1, 0, 0, 1, 1, 0, 0, 0] 1)) (L' := [(4, .slice (some ⟨g6, 0, none⟩) (((a0.length : Int)).toNat) (((a0.length : Int) : Int).toNat)), (13, .slice Ap0 a0.length cp0), (14, .int .i64 (a0.length : Int)), (15, .int .i64 x15_0), (17, .int .i64 x15_0)]) (w' := W) (by kernel_rfl) ?_
                rcases two (decide (0 ≤ x15_0)) with c12 | c12
                · replace h := of_true h c12
                  rcases two (decide (x15_0 < (a0.length : Int))) with c13 | c13
                  · replace h := of_true h c13
                    obtain ⟨q11, hAq11, hcq11⟩ := Rd.num (hr0.mono hM.below) (i := x15_0) (of_decide_eq_true c12) (by have h_ := of_decide_eq_true c13; omega)
                    refine RunF.y (idx_y (d := some 18) (A := Ap0) (m := a0.length) (i := x15_0) (k2 := (pin Go.Proofs.Tryd.f15 [1, 1, 1, 0, 1, 0, 0, 1, 1, 0, 0, 0] 2)) (by kernel_rfl) (of_decide_eq_true c12) (by have h_ := of_decide_eq_true c13; omega) hAq11) trivial ?_
                    refine RunF.y (ld_y (d := some 19) (p := (q11.add (x15_0 : Int).toNat)) (k2 := (pin Go.Proofs.Tryd.f15 [1, 1, 1, 0, 1, 0, 0, 1, 1, 0, 0, 0] 3)) (.int .u8 (rd a0 x15_0)) (by kernel_rfl)) hcq11 ?_
                    refine RunF.go 8 [4, 13, 14, 15, 20, 21, 23] (k' := (pin Go.Proofs.Tryd.f15 [1, 1, 1, 0, 1, 0, 0, 1, 1, 0, 0, 1] 4)) (L' := [(4, .slice (some ⟨g6, 0, none⟩) (((a0.length : Int)).toNat) (((a0.length : Int) : Int).toNat)), (13, .slice Ap0 a0.length cp0), (14, .int .i64 (a0.length : Int)), (15, .int .i64 x15_0), (20, .slice (some ⟨g6, 0, none⟩) (((a0.length : Int)).toNat) (((a0.length : Int) : Int).toNat)), (21, .int .u8 (rd a0 x15_0)), (23, .int .u8 (U8 (x15_0)))]) (w' := W) (by kernel_rfl) ?_
                    rcases two (decide (0 ≤ (rd a0 x15_0))) with c15 | c15
                    · replace h := of_true h c15
                      rcases two (decide ((rd a0 x15_0) < (((a0.length : Int)).toNat : Int))) with c16 | c16
                      · replace h := of_true h c16
                        obtain ⟨q14, hAq14, hcq14, hfq14, hlq14⟩ := hM.num_at 0 rfl (i := rd a0 x15_0) (of_decide_eq_true c15) (by have h_ := of_decide_eq_true c16; omega)
                        refine RunF.y (idx_own (d := some 24) (A := (some ⟨g6, 0, none⟩)) (m := ((a0.length : Int)).toNat) (i := rd a0 x15_0) (k2 := (pin Go.Proofs.Tryd.f15 [1, 1, 1, 0, 1, 0, 0, 1, 1, 0, 0, 1] 5)) (by kernel_rfl) (of_decide_eq_true c15) (by have h_ := of_decide_eq_true c16; omega) hAq14) trivial ?_
                        obtain ⟨g_, hA_, hc_, hf_, hl_⟩ := hM.num_at 0 rfl (i := rd a0 x15_0) (of_decide_eq_true c15) (by have h_ := of_decide_eq_true c16; omega)
                        obtain rfl : q14 = g_ := by rw [hAq14] at hA_; injection hA_ with hA_; injection hA_
                        refine RunF.doesU (st_u (p := (⟨q14, (rd a0 x15_0 : Int).toNat, none⟩ : Addr)) (v := .int .u8 (U8 (x15_0))) (k2 := (pin Go.Proofs.Tryd.f15 [1, 1, 1, 0, 1, 0, 0, 1, 1, 0, 0, 1] 6)) (by kernel_rfl) hc_ hf_) ?_
                        replace hM : Mem w (W.setCell (⟨q14, (rd a0 x15_0 : Int).toNat, none⟩ : Addr) (.int .u8 (U8 (x15_0)))) [⟨.slice (some ⟨g6, 0, none⟩) (((a0.length : Int)).toNat) (((a0.length : Int) : Int).toNat), 5, 1, nums .u8 (x4_0.set (rd a0 x15_0 : Int).toNat (U8 (x15_0)))⟩] := Mem.put_num [] [] (hM.pick [0] rfl rfl) hAq14 _ hl_ _
                        generalize W.setCell (⟨q14, (rd a0 x15_0 : Int).toNat, none⟩ : Addr) (.int .u8 (U8 (x15_0))) = W17 at hM ⊢
                        clear hc_ hf_ hl_ hA_ hcq14
                        refine RunF.go 7 [4, 13, 14, 15] (k' := (pl Go.Proofs.Tryd.f15 [1, 1, 1, 0, 1, 0, 0])) (L' := [(4, .slice (some ⟨g6, 0, none⟩) (((a0.length : Int)).toNat) (((a0.length : Int) : Int).toNat)), (13, .slice Ap0 a0.length cp0), (14, .int .i64 (a0.length : Int)), (15, .int .i64 (I64 (x15_0 + 1)))]) (w' := W17) (by kernel_rfl) ?_
                        exact ih0 k (by omega) (x4_0.set (rd a0 x15_0 : Int).toNat (U8 (x15_0))) (I64 (x15_0 + 1)) _ (hM.pick [0] rfl rfl) h
                      · replace h := of_false h c16
                        cases h
                    · replace h := of_false h c15
                      cases h
                  · replace h := of_false h c13
                    cases h
                · replace h := of_false h c12
                  cases h
              · replace h := of_false h c10
                refine RunF.know 16 (b := false) (by kernel_rfl) c10 ?_
                refine RunF.go 8 [2, 3] (k' := (pl Go.Proofs.Tryd.f15 [1, 1, 1, 1, 1])) (L' := [(2, .slice (some ⟨g6, 0, none⟩) (((a0.length : Int)).toNat) (((a0.length : Int) : Int).toNat)), (3, .bool true)]) (w' := W) (by kernel_rfl) ?_
                obtain rfl := Option.some.inj h
                exact RunF.ret2 2 3 (.slice (some ⟨g6, 0, none⟩) (((a0.length : Int)).toNat) (((a0.length : Int) : Int).toNat)) (.bool true) (fn := Go.Proofs.Tryd.f15) Go.Proofs.Tryd.func15 (by kernel_rfl) (by kernel_rfl) (by kernel_rfl) (by kernel_rfl) ⟨_, rfl, (some ⟨g6, 0, none⟩), ((a0.length : Int)).toNat, ((a0.length : Int) : Int).toNat, rfl, (hM.pick [0] rfl rfl)⟩
        exact l0 k (Nat.le_refl _) (List.replicate (((a0.length : Int)).toNat) 0) 0 _ (hM.pick [0] rfl rfl) h
      · replace h := of_false h c8
        cases h
    · replace h := of_false h c7
      cases h

/-! ### math/bits.OnesCount8: function 26 -/
def bits_OnesCount8.f (k : Nat) (a0 : Int) : Option (Int) := if (decide (0 ≤ a0)) = true then (if (decide (a0 < (256 : Int))) = true then (some (I64 (sb (⟨#[0, 1, 1, 2, 1, 2, 2, 3, 1, 2, 2, 3, 2, 3, 3, 4, 1, 2, 2, 3, 2, 3, 3, 4, 2, 3, 3, 4, 3, 4, 4, 5, 1, 2, 2, 3, 2, 3, 3, 4, 2, 3, 3, 4, 3, 4, 4, 5, 2, 3, 3, 4, 3, 4, 4, 5, 3, 4, 4, 5, 4, 5, 5, 6, 1, 2, 2, 3, 2, 3, 3, 4, 2, 3, 3, 4, 3, 4, 4, 5, 2, 3, 3, 4, 3, 4, 4, 5, 3, 4, 4, 5, 4, 5, 5, 6, 2, 3, 3, 4, 3, 4, 4, 5, 3, 4, 4, 5, 4, 5, 5, 6, 3, 4, 4, 5, 4, 5, 5, 6, 4, 5, 5, 6, 5, 6, 6, 7, 1, 2, 2, 3, 2, 3, 3, 4, 2, 3, 3, 4, 3, 4, 4, 5, 2, 3, 3, 4, 3, 4, 4, 5, 3, 4, 4, 5, 4, 5, 5, 6, 2, 3, 3, 4, 3, 4, 4, 5, 3, 4, 4, 5, 4, 5, 5, 6, 3, 4, 4, 5, 4, 5, 5, 6, 4, 5, 5, 6, 5, 6, 6, 7, 2, 3, 3, 4, 3, 4, 4, 5, 3, 4, 4, 5, 4, 5, 5, 6, 3, 4, 4, 5, 4, 5, 5, 6, 4, 5, 5, 6, 5, 6, 6, 7, 3, 4, 4, 5, 4, 5, 5, 6, 4, 5, 5, 6, 5, 6, 6, 7, 4, 5, 5, 6, 5, 6, 6, 7, 5, 6, 6, 7, 6, 7, 7, 8]⟩ : ByteArray) a0))) else (none)) else (none)
set_option maxRecDepth 100000 in
theorem bits_OnesCount8.calls (k : Nat) (a0 : Int) (r : Int) (w : World) (h : bits_OnesCount8.f k a0 = some r) :
    Calls Go.Proofs.Tryd.prog 26 #[.int .u8 a0] w (Ret fun v w' => v = .int .i64 r ∧ Mem w w' []) := by
  unfold bits_OnesCount8.f at h
  refine calls_of [.int .u8 a0] (fn := Go.Proofs.Tryd.f26) Go.Proofs.Tryd.func26 (by kernel_rfl) (by kernel_rfl) ?_
  have hM := Mem.refl w
  refine RunF.go 7 [3] (k' := (pin Go.Proofs.Tryd.f26 [1, 0] 1)) (L' := [(3, .int .u8 a0)]) (w' := w) (by kernel_rfl) ?_
  rcases two (decide (0 ≤ a0)) with c1 | c1
  · replace h := of_true h c1
    rcases two (decide (a0 < (256 : Int))) with c2 | c2
    · replace h := of_true h c2
      refine RunF.y (idxStr_y (d := some 4) (s := (⟨#[0, 1, 1, 2, 1, 2, 2, 3, 1, 2, 2, 3, 2, 3, 3, 4, 1, 2, 2, 3, 2, 3, 3, 4, 2, 3, 3, 4, 3, 4, 4, 5, 1, 2, 2, 3, 2, 3, 3, 4, 2, 3, 3, 4, 3, 4, 4, 5, 2, 3, 3, 4, 3, 4, 4, 5, 3, 4, 4, 5, 4, 5, 5, 6, 1, 2, 2, 3, 2, 3, 3, 4, 2, 3, 3, 4, 3, 4, 4, 5, 2, 3, 3, 4, 3, 4, 4, 5, 3, 4, 4, 5, 4, 5, 5, 6, 2, 3, 3, 4, 3, 4, 4, 5, 3, 4, 4, 5, 4, 5, 5, 6, 3, 4, 4, 5, 4, 5, 5, 6, 4, 5, 5, 6, 5, 6, 6, 7, 1, 2, 2, 3, 2, 3, 3, 4, 2, 3, 3, 4, 3, 4, 4, 5, 2, 3, 3, 4, 3, 4, 4, 5, 3, 4, 4, 5, 4, 5, 5, 6, 2, 3, 3, 4, 3, 4, 4, 5, 3, 4, 4, 5, 4, 5, 5, 6, 3, 4, 4, 5, 4, 5, 5, 6, 4, 5, 5, 6, 5, 6, 6, 7, 2, 3, 3, 4, 3, 4, 4, 5, 3, 4, 4, 5, 4, 5, 5, 6, 3, 4, 4, 5, 4, 5, 5, 6, 4, 5, 5, 6, 5, 6, 6, 7, 3, 4, 4, 5, 4, 5, 5, 6, 4, 5, 5, 6, 5, 6, 6, 7, 4, 5, 5, 6, 5, 6, 6, 7, 5, 6, 6, 7, 6, 7, 7, 8]⟩ : ByteArray)) (i := a0) (k2 := (pin Go.Proofs.Tryd.f26 [1, 0] 2)) (by kernel_rfl) (of_decide_eq_true c1) (of_decide_eq_true c2)) trivial ?_
      refine RunF.go 3 [2] (k' := (pl Go.Proofs.Tryd.f26 [1, 1])) (L' := [(2, .int .i64 (I64 (sb (⟨#[0, 1, 1, 2, 1, 2, 2, 3, 1, 2, 2, 3, 2, 3, 3, 4, 1, 2, 2, 3, 2, 3, 3, 4, 2, 3, 3, 4, 3, 4, 4, 5, 1, 2, 2, 3, 2, 3, 3, 4, 2, 3, 3, 4, 3, 4, 4, 5, 2, 3, 3, 4, 3, 4, 4, 5, 3, 4, 4, 5, 4, 5, 5, 6, 1, 2, 2, 3, 2, 3, 3, 4, 2, 3, 3, 4, 3, 4, 4, 5, 2, 3, 3, 4, 3, 4, 4, 5, 3, 4, 4, 5, 4, 5, 5, 6, 2, 3, 3, 4, 3, 4, 4, 5, 3, 4, 4, 5, 4, 5, 5, 6, 3, 4, 4, 5, 4, 5, 5, 6, 4, 5, 5, 6, 5, 6, 6, 7, 1, 2, 2, 3, 2, 3, 3, 4, 2, 3, 3, 4, 3, 4, 4, 5, 2, 3, 3, 4, 3, 4, 4, 5, 3, 4, 4, 5, 4, 5, 5, 6, 2, 3, 3, 4, 3, 4, 4, 5, 3, 4, 4, 5, 4, 5, 5, 6, 3, 4, 4, 5, 4, 5, 5, 6, 4, 5, 5, 6, 5, 6, 6, 7, 2, 3, 3, 4, 3, 4, 4, 5, 3, 4, 4, 5, 4, 5, 5, 6, 3, 4, 4, 5, 4, 5, 5, 6, 4, 5, 5, 6, 5, 6, 6, 7, 3, 4, 4, 5, 4, 5, 5, 6, 4, 5, 5, 6, 5, 6, 6, 7, 4, 5, 5, 6, 5, 6, 6, 7, 5, 6, 6, 7, 6, 7, 7, 8]⟩ : ByteArray) a0)))]) (w' := w) (by kernel_rfl) ?_
      obtain rfl := Option.some.inj h
      exact RunF.ret1 2 (.int .i64 (I64 (sb (⟨#[0, 1, 1, 2, 1, 2, 2, 3, 1, 2, 2, 3, 2, 3, 3, 4, 1, 2, 2, 3, 2, 3, 3, 4, 2, 3, 3, 4, 3, 4, 4, 5, 1, 2, 2, 3, 2, 3, 3, 4, 2, 3, 3, 4, 3, 4, 4, 5, 2, 3, 3, 4, 3, 4, 4, 5, 3, 4, 4, 5, 4, 5, 5, 6, 1, 2, 2, 3, 2, 3, 3, 4, 2, 3, 3, 4, 3, 4, 4, 5, 2, 3, 3, 4, 3, 4, 4, 5, 3, 4, 4, 5, 4, 5, 5, 6, 2, 3, 3, 4, 3, 4, 4, 5, 3, 4, 4, 5, 4, 5, 5, 6, 3, 4, 4, 5, 4, 5, 5, 6, 4, 5, 5, 6, 5, 6, 6, 7, 1, 2, 2, 3, 2, 3, 3, 4, 2, 3, 3, 4, 3, 4, 4, 5, 2, 3, 3, 4, 3, 4, 4, 5, 3, 4, 4, 5, 4, 5, 5, 6, 2, 3, 3, 4, 3, 4, 4, 5, 3, 4, 4, 5, 4, 5, 5, 6, 3, 4, 4, 5, 4, 5, 5, 6, 4, 5, 5, 6, 5, 6, 6, 7, 2, 3, 3, 4, 3, 4, 4, 5, 3, 4, 4, 5, 4, 5, 5, 6, 3, 4, 4, 5, 4, 5, 5, 6, 4, 5, 5, 6, 5, 6, 6, 7, 3, 4, 4, 5, 4, 5, 5, 6, 4, 5, 5, 6, 5, 6, 6, 7, 4, 5, 5, 6, 5, 6, 6, 7, 5, 6, 6, 7, 6, 7, 7, 8]⟩ : ByteArray) a0))) (fn := Go.Proofs.Tryd.f26) Go.Proofs.Tryd.func26 (by kernel_rfl) (by kernel_rfl) (by kernel_rfl) ⟨_, rfl, rfl, (hM.pick [] rfl rfl)⟩
    · replace h := of_false h c2
      cases h
  · replace h := of_false h c1
    cases h

/-! ### scrim/box.Affine: function 20 -/
def box_Affine.l0 : Nat → Int → (List Int) → Int → Int → Option (Int)
  | 0, _, _, _, _ => none
  | k + 1, a0, a1, x2_0, x10_0 => if (decide (x10_0 < 8)) = true then (if (decide (0 ≤ x10_0)) = true then (if (decide (x10_0 < (8 : Int))) = true then ((bits_OnesCount8.f k (band .u8 a0 (rd a1 x10_0))).bind fun t8 => (if (decide ((Int.tmod t8 2) > 0)) = true then (if (decide (0 ≤ x10_0)) = true then (if (decide (x10_0 < (8 : Int))) = true then ((some (bxor .u8 x2_0 (rd ([1, 2, 4, 8, 16, 32, 64, 128] : List Int) x10_0) : Int)).bind fun y13 => (box_Affine.l0 k a0 a1 y13 (I64 (x10_0 + 1)))) else (none)) else (none)) else (box_Affine.l0 k a0 a1 x2_0 (I64 (x10_0 + 1))))) else (none)) else (none)) else (some x2_0)
def box_Affine.f (k : Nat) (a0 : Int) (a1 : List Int) (a2 : Int) : Option (Int) := box_Affine.l0 k a0 a1 a2 0
set_option maxRecDepth 100000 in
theorem box_Affine.calls (k : Nat) (a0 : Int) (a1 : List Int) (a2 : Int) (r : Int) (w : World) (hl1 : a1.length = 8) (hG0 : Rg w 0 (nums .u8 [1, 2, 4, 8, 16, 32, 64, 128])) (h : box_Affine.f k a0 a1 a2 = some r) :
    Calls Go.Proofs.Tryd.prog 20 #[.int .u8 a0, .agg (nums .u8 a1).toArray, .int .u8 a2] w (Ret fun v w' => v = .int .u8 r ∧ Mem w w' []) := by
  unfold box_Affine.f at h
  refine calls_of [.int .u8 a0, .agg (nums .u8 a1).toArray, .int .u8 a2] (fn := Go.Proofs.Tryd.f20) Go.Proofs.Tryd.func20 (by kernel_rfl) (by kernel_rfl) ?_
  have hM := Mem.refl w
  refine RunF.go 2 [0, 1, 2] (k' := (pin Go.Proofs.Tryd.f20 [0] 0)) (L' := [(0, .int .u8 a0), (1, .agg (nums .u8 a1).toArray), (2, .int .u8 a2)]) (w' := w) (by kernel_rfl) ?_
  refine RunF.newVar 33 (nums .u8 a1) (d := some 4) (k2 := (pin Go.Proofs.Tryd.f20 [0] 1)) hM (by kernel_rfl) ?_
  intro g1 W2 hM
  refine RunF.go 5 [0, 2, 4] (k' := (pin Go.Proofs.Tryd.f20 [1, 0, 0] 0)) (L' := [(0, .int .u8 a0), (2, .int .u8 a2), (4, .pointer (some ⟨g1, 0, none⟩))]) (w' := W2) (by kernel_rfl) ?_
  refine RunF.y (ldv_y (d := some 9) (g := g1) (N := 8) (ty := 33) (k2 := (pin Go.Proofs.Tryd.f20 [1, 0, 0] 1)) (nums .u8 a1) (by kernel_rfl) (by simp only [nums_length, bools_length]; exact hl1)) (hM.block 0 rfl) ?_
  refine RunF.go 4 [0, 2, 9, 10] (k' := (pl Go.Proofs.Tryd.f20 [1, 0, 1, 0, 0])) (L' := [(0, .int .u8 a0), (2, .int .u8 a2), (9, .agg (nums .u8 a1).toArray), (10, .int .i64 0)]) (w' := W2) (by kernel_rfl) ?_
  have l0 : ∀ (k_ : Nat), k_ ≤ k → ∀ (x2_0 : Int) (x10_0 : Int) (W : World) (hM : Mem w W []) (h : box_Affine.l0 k_ a0 a1 x2_0 x10_0 = some r), RunF Go.Proofs.Tryd.prog (Ret fun v w' => v = .int .u8 r ∧ Mem w w' []) 20 (pl Go.Proofs.Tryd.f20 [1, 0, 1, 0, 0]) 27 [(0, .int .u8 a0), (2, .int .u8 x2_0), (9, .agg (nums .u8 a1).toArray), (10, .int .i64 x10_0)] W := by
    intro k_
    induction k_ using Nat.strongRecOn with
    | _ k_ ih0 =>
      intro hk x2_0 x10_0 W hM h
      cases k_ with
      | zero => exact absurd h (by simp [box_Affine.l0])
      | succ k =>
        simp only [box_Affine.l0] at h
        replace ih0 : ∀ m, m ≤ k → _ := fun m hm => ih0 m (by omega) (by omega)
        refine RunF.go 5 [0, 2, 9, 10, 11] (k' := (pl Go.Proofs.Tryd.f20 [1, 0, 1, 0, 0, 1, 0])) (L' := [(0, .int .u8 a0), (2, .int .u8 x2_0), (9, .agg (nums .u8 a1).toArray), (10, .int .i64 x10_0), (11, .bool (decide (x10_0 < 8)))]) (w' := W) (by kernel_rfl) ?_
        rcases two (decide (x10_0 < 8)) with c4 | c4
        · replace h := of_true h c4
          refine RunF.know 11 (b := true) (by kernel_rfl) c4 ?_
          refine RunF.go 7 [0, 2, 9, 10, 12] (k' := (pin Go.Proofs.Tryd.f20 [1, 0, 1, 0, 0, 1, 1, 0, 0, 0] 1)) (L' := [(0, .int .u8 a0), (2, .int .u8 x2_0), (9, .agg (nums .u8 a1).toArray), (10, .int .i64 x10_0), (12, .int .i64 x10_0)]) (w' := W) (by kernel_rfl) ?_
          rcases two (decide (0 ≤ x10_0)) with c5 | c5
          · replace h := of_true h c5
            rcases two (decide (x10_0 < (8 : Int))) with c6 | c6
            · replace h := of_true h c6
              refine RunF.y (idxVal_y (d := some 13) (cs := (nums .u8 a1).toArray) (len := 8) (i := x10_0) (u := .int .u8 (rd a1 x10_0)) (k2 := (pin Go.Proofs.Tryd.f20 [1, 0, 1, 0, 0, 1, 1, 0, 0, 0] 2)) (by kernel_rfl) (of_decide_eq_true c5) (of_decide_eq_true c6) (by rw [List.getElem?_toArray]; exact nums_at (of_decide_eq_true c5) (by rw [show a1.length = 8 from hl1]; exact (of_decide_eq_true c6)))) trivial ?_
              refine RunF.go 8 [0, 2, 7, 9, 10, 16] (k' := (pin Go.Proofs.Tryd.f20 [1, 0, 1, 0, 0, 1, 1, 0, 0, 1, 0] 3)) (L' := [(0, .int .u8 a0), (2, .int .u8 x2_0), (7, .int .i64 x10_0), (9, .agg (nums .u8 a1).toArray), (10, .int .i64 x10_0), (16, .int .u8 (band .u8 a0 (rd a1 x10_0)))]) (w' := W) (by kernel_rfl) ?_
              obtain ⟨t8, ht8, h⟩ := Option.bind_eq_some_iff.mp h
              refine RunF.call (d := some 17) (g := 26) (args := #[.int .u8 (band .u8 a0 (rd a1 x10_0))]) (k2 := (pin Go.Proofs.Tryd.f20 [1, 0, 1, 0, 0, 1, 1, 0, 0, 1, 0] 4)) (by kernel_rfl) (bits_OnesCount8.calls k (band .u8 a0 (rd a1 x10_0)) t8 _ ht8) ?_
              rintro _ W7 ⟨rfl, hM_⟩
              replace hM := hM.call hM_
              clear hM_ ht8
              refine RunF.go 3 [0, 2, 7, 9, 10, 19] (k' := (pl Go.Proofs.Tryd.f20 [1, 0, 1, 0, 0, 1, 1, 0, 0, 1, 1])) (L' := [(0, .int .u8 a0), (2, .int .u8 x2_0), (7, .int .i64 x10_0), (9, .agg (nums .u8 a1).toArray), (10, .int .i64 x10_0), (19, .bool (decide ((Int.tmod t8 2) > 0)))]) (w' := W7) (by kernel_rfl) ?_
              rcases two (decide ((Int.tmod t8 2) > 0)) with c9 | c9
              · replace h := of_true h c9
                refine RunF.know 19 (b := true) (by kernel_rfl) c9 ?_
                refine RunF.go 4 [0, 9, 10, 20, 21] (k' := (pin Go.Proofs.Tryd.f20 [1, 0, 1, 0, 0, 1, 1, 0, 0, 1, 1, 0] 2)) (L' := [(0, .int .u8 a0), (9, .agg (nums .u8 a1).toArray), (10, .int .i64 x10_0), (20, .int .u8 x2_0), (21, .int .i64 x10_0)]) (w' := W7) (by kernel_rfl) ?_
                rcases two (decide (0 ≤ x10_0)) with c11 | c11
                · replace h := of_true h c11
                  rcases two (decide (x10_0 < (8 : Int))) with c12 | c12
                  · replace h := of_true h c12
                    have hiq10 := hG0.num (i := x10_0) (of_decide_eq_true c11) (of_decide_eq_true c12)
                    have hcq10 := (hG0.mono hM.below).num (i := x10_0) (of_decide_eq_true c11) (of_decide_eq_true c12)
                    refine RunF.y (idxArr_own (d := some 22) (g := 0) (len := 8) (i := x10_0) (k2 := (pin Go.Proofs.Tryd.f20 [1, 0, 1, 0, 0, 1, 1, 0, 0, 1, 1, 0] 3)) (by kernel_rfl) (of_decide_eq_true c11) (of_decide_eq_true c12)) trivial ?_
                    refine RunF.y (ld_y (d := some 23) (p := ⟨0, (x10_0 : Int).toNat, none⟩) (k2 := (pin Go.Proofs.Tryd.f20 [1, 0, 1, 0, 0, 1, 1, 0, 0, 1, 1, 0] 4)) (.int .u8 (rd ([1, 2, 4, 8, 16, 32, 64, 128] : List Int) x10_0)) (by kernel_rfl)) hcq10 ?_
                    refine RunF.go 9 [0, 2, 9, 10] (k' := (pl Go.Proofs.Tryd.f20 [1, 0, 1, 0, 0])) (L' := [(0, .int .u8 a0), (2, .int .u8 (bxor .u8 x2_0 (rd ([1, 2, 4, 8, 16, 32, 64, 128] : List Int) x10_0))), (9, .agg (nums .u8 a1).toArray), (10, .int .i64 (I64 (x10_0 + 1)))]) (w' := W7) (by kernel_rfl) ?_
                    obtain ⟨y13, hy, h⟩ := Option.bind_eq_some_iff.mp h
                    rw [show (bxor .u8 x2_0 (rd ([1, 2, 4, 8, 16, 32, 64, 128] : List Int) x10_0)) = y13 from Option.some.inj hy]
                    clear hy
                    exact ih0 k (by omega) y13 (I64 (x10_0 + 1)) _ (hM.pick [] rfl rfl) h
                  · replace h := of_false h c12
                    cases h
                · replace h := of_false h c11
                  cases h
              · replace h := of_false h c9
                refine RunF.know 19 (b := false) (by kernel_rfl) c9 ?_
                refine RunF.go 8 [0, 2, 9, 10] (k' := (pl Go.Proofs.Tryd.f20 [1, 0, 1, 0, 0])) (L' := [(0, .int .u8 a0), (2, .int .u8 x2_0), (9, .agg (nums .u8 a1).toArray), (10, .int .i64 (I64 (x10_0 + 1)))]) (w' := W7) (by kernel_rfl) ?_
                exact ih0 k (by omega) x2_0 (I64 (x10_0 + 1)) _ (hM.pick [] rfl rfl) h
            · replace h := of_false h c6
              cases h
          · replace h := of_false h c5
            cases h
        · replace h := of_false h c4
          refine RunF.know 11 (b := false) (by kernel_rfl) c4 ?_
          refine RunF.go 7 [6] (k' := (pl Go.Proofs.Tryd.f20 [1, 1, 1])) (L' := [(6, .int .u8 x2_0)]) (w' := W) (by kernel_rfl) ?_
          obtain rfl := Option.some.inj h
          exact RunF.ret1 6 (.int .u8 x2_0) (fn := Go.Proofs.Tryd.f20) Go.Proofs.Tryd.func20 (by kernel_rfl) (by kernel_rfl) (by kernel_rfl) ⟨_, rfl, rfl, (hM.pick [] rfl rfl)⟩
  exact l0 k (Nat.le_refl _) a2 0 _ (hM.pick [] rfl rfl) h

/-! ### scrim/scrimlaw4.known: function 12 -/
def scrimlaw4_known.f (k : Nat)  : Option (Bool) := (box_Back.f k ([1, 0] : List Int)).bind fun t5 => (if t5.2 = true then (if ((t5.1.length : Int) == 2) = true then (if (decide (0 < (t5.1.length : Int))) = true then (if ((rd t5.1 0) == 1) = true then (if (decide (1 < (t5.1.length : Int))) = true then (if ((rd t5.1 1) == 0) = true then ((box_Is.f k t5.1).bind fun t19 => (if t19 = true then ((box_Affine.f k 0 ([0, 0, 0, 0, 0, 0, 0, 0] : List Int) 7).bind fun t22 => (some (t22 == 7))) else (some false))) else (some false)) else (none)) else (some false)) else (none)) else (some false)) else (some false))
set_option maxRecDepth 100000 in
theorem scrimlaw4_known.calls (k : Nat)  (r : Bool) (w : World) (hG0 : Rg w 0 (nums .u8 [1, 2, 4, 8, 16, 32, 64, 128])) (h : scrimlaw4_known.f k = some r) :
    Calls Go.Proofs.Tryd.prog 12 #[] w (Ret fun v w' => v = .bool r ∧ Mem w w' []) := by
  unfold scrimlaw4_known.f at h
  refine calls_of [] (fn := Go.Proofs.Tryd.f12) Go.Proofs.Tryd.func12 (by kernel_rfl) (by kernel_rfl) ?_
  have hM := Mem.refl w
  refine RunF.go 6 [] (k' := (pin Go.Proofs.Tryd.f12 [1, 0] 0)) (L' := []) (w' := w) (by kernel_rfl) ?_
  refine RunF.new 5 1 2 (nums .u8 [1, 0]) (d := some 4) (k2 := (pin Go.Proofs.Tryd.f12 [1, 0] 1)) hM (by simp [nums, bools]) (by kernel_rfl) (by kernel_rfl) ?_
  replace hM := hM
  intro g1 W2 hM
  obtain ⟨t5, ht5, h⟩ := Option.bind_eq_some_iff.mp h
  refine RunF.call (d := some 5) (g := 15) (args := #[.slice (some ⟨g1, 0, none⟩) 2 2]) (k2 := (pin Go.Proofs.Tryd.f12 [1, 0] 2)) (by kernel_rfl) (box_Back.calls k (some ⟨g1, 0, none⟩) 2 2 ([1, 0] : List Int) t5 _ (hM.rd 0 rfl) ht5) ?_
  rintro _ W4 ⟨A6, n7, c8, rfl, hM_⟩
  obtain rfl : t5.1.length = n7 := by have h_ := (hM_.rd 0 rfl).1; simpa [nums_length, bools_length] using h_
  replace hM := hM.call hM_
  clear hM_ ht5
  refine RunF.go 10 [1, 9] (k' := (pin Go.Proofs.Tryd.f12 [1, 1, 0] 2)) (L' := [(1, .slice A6 t5.1.length c8), (9, .bool t5.2)]) (w' := W4) (by kernel_rfl) ?_
  rcases two (t5.2) with c10 | c10
  · replace h := of_true h c10
    refine RunF.know 9 (b := true) (by kernel_rfl) c10 ?_
    refine RunF.go 5 [1, 14] (k' := (pin Go.Proofs.Tryd.f12 [1, 1, 0] 7)) (L' := [(1, .slice A6 t5.1.length c8), (14, .bool ((t5.1.length : Int) == 2))]) (w' := W4) (by kernel_rfl) ?_
    rcases two (((t5.1.length : Int) == 2)) with c11 | c11
    · replace h := of_true h c11
      refine RunF.know 14 (b := true) (by kernel_rfl) c11 ?_
      refine RunF.go 1 [1, 14, 15] (k' := (pin Go.Proofs.Tryd.f12 [1, 1, 0] 8)) (L' := [(1, .slice A6 t5.1.length c8), (14, .bool true), (15, .slice A6 t5.1.length c8)]) (w' := W4) (by kernel_rfl) ?_
      rcases two (decide (0 < (t5.1.length : Int))) with c13 | c13
      · replace h := of_true h c13
        obtain ⟨q12, hAq12, hcq12, hfq12, hlq12⟩ := hM.num_at 0 rfl (i := 0) (by omega) (by have h_ := of_decide_eq_true c13; omega)
        refine RunF.y (idx_own (d := some 16) (A := A6) (m := t5.1.length) (i := 0) (k2 := (pin Go.Proofs.Tryd.f12 [1, 1, 0] 9)) (by kernel_rfl) (by omega) (by have h_ := of_decide_eq_true c13; omega) hAq12) trivial ?_
        refine RunF.y (ld_y (d := some 17) (p := ⟨q12, (0 : Int).toNat, none⟩) (k2 := (pin Go.Proofs.Tryd.f12 [1, 1, 0] 10)) (.int .u8 (rd t5.1 0)) (by kernel_rfl)) hcq12 ?_
        refine RunF.go 3 [1, 20] (k' := (pin Go.Proofs.Tryd.f12 [1, 1, 0] 13)) (L' := [(1, .slice A6 t5.1.length c8), (20, .bool ((rd t5.1 0) == 1))]) (w' := W4) (by kernel_rfl) ?_
        rcases two (((rd t5.1 0) == 1)) with c14 | c14
        · replace h := of_true h c14
          refine RunF.know 20 (b := true) (by kernel_rfl) c14 ?_
          refine RunF.go 1 [1, 20, 21] (k' := (pin Go.Proofs.Tryd.f12 [1, 1, 0] 14)) (L' := [(1, .slice A6 t5.1.length c8), (20, .bool true), (21, .slice A6 t5.1.length c8)]) (w' := W4) (by kernel_rfl) ?_
          rcases two (decide (1 < (t5.1.length : Int))) with c16 | c16
          · replace h := of_true h c16
            obtain ⟨q15, hAq15, hcq15, hfq15, hlq15⟩ := hM.num_at 0 rfl (i := 1) (by omega) (by have h_ := of_decide_eq_true c16; omega)
            refine RunF.y (idx_own (d := some 22) (A := A6) (m := t5.1.length) (i := 1) (k2 := (pin Go.Proofs.Tryd.f12 [1, 1, 0] 15)) (by kernel_rfl) (by omega) (by have h_ := of_decide_eq_true c16; omega) hAq15) trivial ?_
            refine RunF.y (ld_y (d := some 23) (p := ⟨q15, (1 : Int).toNat, none⟩) (k2 := (pin Go.Proofs.Tryd.f12 [1, 1, 0] 16)) (.int .u8 (rd t5.1 1)) (by kernel_rfl)) hcq15 ?_
            refine RunF.go 3 [1, 26] (k' := (pin Go.Proofs.Tryd.f12 [1, 1, 0] 19)) (L' := [(1, .slice A6 t5.1.length c8), (26, .bool ((rd t5.1 1) == 0))]) (w' := W4) (by kernel_rfl) ?_
            rcases two (((rd t5.1 1) == 0)) with c17 | c17
            · replace h := of_true h c17
              refine RunF.know 26 (b := true) (by kernel_rfl) c17 ?_
              refine RunF.go 1 [26, 27] (k' := (pin Go.Proofs.Tryd.f12 [1, 1, 0] 20)) (L' := [(26, .bool true), (27, .slice A6 t5.1.length c8)]) (w' := W4) (by kernel_rfl) ?_
              obtain ⟨t19, ht19, h⟩ := Option.bind_eq_some_iff.mp h
              refine RunF.call (d := some 28) (g := 17) (args := #[.slice A6 t5.1.length c8]) (k2 := (pin Go.Proofs.Tryd.f12 [1, 1, 0] 21)) (by kernel_rfl) (box_Is.calls k A6 t5.1.length c8 t5.1 t19 _ (hM.rd 0 rfl) ht19) ?_
              rintro _ W18 ⟨rfl, hM_⟩
              replace hM := hM.call hM_
              clear hM_ ht19
              refine RunF.go 2 [30] (k' := (pin Go.Proofs.Tryd.f12 [1, 1, 0] 23)) (L' := [(30, .bool t19)]) (w' := W18) (by kernel_rfl) ?_
              rcases two (t19) with c20 | c20
              · replace h := of_true h c20
                refine RunF.know 30 (b := true) (by kernel_rfl) c20 ?_
                refine RunF.go 1 [30, 31] (k' := (pin Go.Proofs.Tryd.f12 [1, 1, 0] 24)) (L' := [(30, .bool true), (31, .agg (nums .u8 ([0, 0, 0, 0, 0, 0, 0, 0] : List Int)).toArray)]) (w' := W18) (by kernel_rfl) ?_
                obtain ⟨t22, ht22, h⟩ := Option.bind_eq_some_iff.mp h
                refine RunF.call (d := some 32) (g := 20) (args := #[.int .u8 0, .agg (nums .u8 ([0, 0, 0, 0, 0, 0, 0, 0] : List Int)).toArray, .int .u8 7]) (k2 := (pin Go.Proofs.Tryd.f12 [1, 1, 0] 25)) (by kernel_rfl) (box_Affine.calls k 0 ([0, 0, 0, 0, 0, 0, 0, 0] : List Int) 7 t22 _ rfl (hG0.mono hM.below) ht22) ?_
                rintro _ W21 ⟨rfl, hM_⟩
                replace hM := hM.call hM_
                clear hM_ ht22
                refine RunF.go 4 [0] (k' := (pl Go.Proofs.Tryd.f12 [1, 1, 1])) (L' := [(0, .bool (t22 == 7))]) (w' := W21) (by kernel_rfl) ?_
                obtain rfl := Option.some.inj h
                exact RunF.ret1 0 (.bool (t22 == 7)) (fn := Go.Proofs.Tryd.f12) Go.Proofs.Tryd.func12 (by kernel_rfl) (by kernel_rfl) (by kernel_rfl) ⟨_, rfl, rfl, (hM.pick [] rfl rfl)⟩
              · replace h := of_false h c20
                refine RunF.know 30 (b := false) (by kernel_rfl) c20 ?_
                refine RunF.go 6 [0] (k' := (pl Go.Proofs.Tryd.f12 [1, 1, 1])) (L' := [(0, .bool false)]) (w' := W18) (by kernel_rfl) ?_
                obtain rfl := Option.some.inj h
                exact RunF.ret1 0 (.bool false) (fn := Go.Proofs.Tryd.f12) Go.Proofs.Tryd.func12 (by kernel_rfl) (by kernel_rfl) (by kernel_rfl) ⟨_, rfl, rfl, (hM.pick [] rfl rfl)⟩
            · replace h := of_false h c17
              refine RunF.know 26 (b := false) (by kernel_rfl) c17 ?_
              refine RunF.go 10 [0] (k' := (pl Go.Proofs.Tryd.f12 [1, 1, 1])) (L' := [(0, .bool false)]) (w' := W4) (by kernel_rfl) ?_
              obtain rfl := Option.some.inj h
              exact RunF.ret1 0 (.bool false) (fn := Go.Proofs.Tryd.f12) Go.Proofs.Tryd.func12 (by kernel_rfl) (by kernel_rfl) (by kernel_rfl) ⟨_, rfl, rfl, (hM.pick [] rfl rfl)⟩
          · replace h := of_false h c16
            cases h
        · replace h := of_false h c14
          refine RunF.know 20 (b := false) (by kernel_rfl) c14 ?_
          refine RunF.go 16 [0] (k' := (pl Go.Proofs.Tryd.f12 [1, 1, 1])) (L' := [(0, .bool false)]) (w' := W4) (by kernel_rfl) ?_
          obtain rfl := Option.some.inj h
          exact RunF.ret1 0 (.bool false) (fn := Go.Proofs.Tryd.f12) Go.Proofs.Tryd.func12 (by kernel_rfl) (by kernel_rfl) (by kernel_rfl) ⟨_, rfl, rfl, (hM.pick [] rfl rfl)⟩
      · replace h := of_false h c13
        cases h
    · replace h := of_false h c11
      refine RunF.know 14 (b := false) (by kernel_rfl) c11 ?_
      refine RunF.go 22 [0] (k' := (pl Go.Proofs.Tryd.f12 [1, 1, 1])) (L' := [(0, .bool false)]) (w' := W4) (by kernel_rfl) ?_
      obtain rfl := Option.some.inj h
      exact RunF.ret1 0 (.bool false) (fn := Go.Proofs.Tryd.f12) Go.Proofs.Tryd.func12 (by kernel_rfl) (by kernel_rfl) (by kernel_rfl) ⟨_, rfl, rfl, (hM.pick [] rfl rfl)⟩
  · replace h := of_false h c10
    refine RunF.know 9 (b := false) (by kernel_rfl) c10 ?_
    refine RunF.go 27 [0] (k' := (pl Go.Proofs.Tryd.f12 [1, 1, 1])) (L' := [(0, .bool false)]) (w' := W4) (by kernel_rfl) ?_
    obtain rfl := Option.some.inj h
    exact RunF.ret1 0 (.bool false) (fn := Go.Proofs.Tryd.f12) Go.Proofs.Tryd.func12 (by kernel_rfl) (by kernel_rfl) (by kernel_rfl) ⟨_, rfl, rfl, (hM.pick [] rfl rfl)⟩

/-! ### scrim/scrimlaw4.within: function 14 -/
def scrimlaw4_within.f (k : Nat) (a0 : Int) (a1 : Int) : Option (Int) := if (decide (a1 = 0)) = true then (none) else (if (decide ((Int.tmod a0 a1) < 0)) = true then (some (I64 ((Int.tmod a0 a1) + a1))) else (some (Int.tmod a0 a1)))
set_option maxRecDepth 100000 in
theorem scrimlaw4_within.calls (k : Nat) (a0 : Int) (a1 : Int) (r : Int) (w : World) (h : scrimlaw4_within.f k a0 a1 = some r) :
    Calls Go.Proofs.Tryd.prog 14 #[.int .i64 a0, .int .i64 a1] w (Ret fun v w' => v = .int .i64 r ∧ Mem w w' []) := by
  unfold scrimlaw4_within.f at h
  refine calls_of [.int .i64 a0, .int .i64 a1] (fn := Go.Proofs.Tryd.f14) Go.Proofs.Tryd.func14 (by kernel_rfl) (by kernel_rfl) ?_
  have hM := Mem.refl w
  refine RunF.go 8 [1, 6, 7] (k' := (pin Go.Proofs.Tryd.f14 [1, 0] 2)) (L' := [(1, .int .i64 a1), (6, .int .i64 a0), (7, .int .i64 a1)]) (w' := w) (by kernel_rfl) ?_
  rcases two (decide (a1 = 0)) with c1 | c1
  · replace h := of_true h c1
    cases h
  · replace h := of_false h c1
    refine RunF.y (div_y (d := some 8) (b := false) (kd := .i64) (x := a0) (y := a1) (k2 := (pin Go.Proofs.Tryd.f14 [1, 0] 3)) (by kernel_rfl) c1) trivial ?_
    refine RunF.go 8 [1, 5, 10] (k' := (pl Go.Proofs.Tryd.f14 [1, 1, 0, 1])) (L' := [(1, .int .i64 a1), (5, .int .i64 (Int.tmod a0 a1)), (10, .bool (decide ((Int.tmod a0 a1) < 0)))]) (w' := w) (by kernel_rfl) ?_
    rcases two (decide ((Int.tmod a0 a1) < 0)) with c2 | c2
    · replace h := of_true h c2
      refine RunF.know 10 (b := true) (by kernel_rfl) c2 ?_
      refine RunF.go 12 [4] (k' := (pl Go.Proofs.Tryd.f14 [1, 1, 1, 1])) (L' := [(4, .int .i64 (I64 ((Int.tmod a0 a1) + a1)))]) (w' := w) (by kernel_rfl) ?_
      obtain rfl := Option.some.inj h
      exact RunF.ret1 4 (.int .i64 (I64 ((Int.tmod a0 a1) + a1))) (fn := Go.Proofs.Tryd.f14) Go.Proofs.Tryd.func14 (by kernel_rfl) (by kernel_rfl) (by kernel_rfl) ⟨_, rfl, rfl, (hM.pick [] rfl rfl)⟩
    · replace h := of_false h c2
      refine RunF.know 10 (b := false) (by kernel_rfl) c2 ?_
      refine RunF.go 7 [4] (k' := (pl Go.Proofs.Tryd.f14 [1, 1, 1, 1])) (L' := [(4, .int .i64 (Int.tmod a0 a1))]) (w' := w) (by kernel_rfl) ?_
      obtain rfl := Option.some.inj h
      exact RunF.ret1 4 (.int .i64 (Int.tmod a0 a1)) (fn := Go.Proofs.Tryd.f14) Go.Proofs.Tryd.func14 (by kernel_rfl) (by kernel_rfl) (by kernel_rfl) ⟨_, rfl, rfl, (hM.pick [] rfl rfl)⟩

/-! ### scrim/scrimlaw3.within: function 27 -/
def scrimlaw3_within.f (k : Nat) (a0 : Int) (a1 : Int) : Option (Int) := if (decide (a1 = 0)) = true then (none) else (if (decide ((Int.tmod a0 a1) < 0)) = true then (some (I64 ((Int.tmod a0 a1) + a1))) else (some (Int.tmod a0 a1)))
set_option maxRecDepth 100000 in
theorem scrimlaw3_within.calls (k : Nat) (a0 : Int) (a1 : Int) (r : Int) (w : World) (h : scrimlaw3_within.f k a0 a1 = some r) :
    Calls Go.Proofs.Tryd.prog 27 #[.int .i64 a0, .int .i64 a1] w (Ret fun v w' => v = .int .i64 r ∧ Mem w w' []) := by
  unfold scrimlaw3_within.f at h
  refine calls_of [.int .i64 a0, .int .i64 a1] (fn := Go.Proofs.Tryd.f27) Go.Proofs.Tryd.func27 (by kernel_rfl) (by kernel_rfl) ?_
  have hM := Mem.refl w
  refine RunF.go 8 [1, 6, 7] (k' := (pin Go.Proofs.Tryd.f27 [1, 0] 2)) (L' := [(1, .int .i64 a1), (6, .int .i64 a0), (7, .int .i64 a1)]) (w' := w) (by kernel_rfl) ?_
  rcases two (decide (a1 = 0)) with c1 | c1
  · replace h := of_true h c1
    cases h
  · replace h := of_false h c1
    refine RunF.y (div_y (d := some 8) (b := false) (kd := .i64) (x := a0) (y := a1) (k2 := (pin Go.Proofs.Tryd.f27 [1, 0] 3)) (by kernel_rfl) c1) trivial ?_
    refine RunF.go 8 [1, 5, 10] (k' := (pl Go.Proofs.Tryd.f27 [1, 1, 0, 1])) (L' := [(1, .int .i64 a1), (5, .int .i64 (Int.tmod a0 a1)), (10, .bool (decide ((Int.tmod a0 a1) < 0)))]) (w' := w) (by kernel_rfl) ?_
    rcases two (decide ((Int.tmod a0 a1) < 0)) with c2 | c2
    · replace h := of_true h c2
      refine RunF.know 10 (b := true) (by kernel_rfl) c2 ?_
      refine RunF.go 12 [4] (k' := (pl Go.Proofs.Tryd.f27 [1, 1, 1, 1])) (L' := [(4, .int .i64 (I64 ((Int.tmod a0 a1) + a1)))]) (w' := w) (by kernel_rfl) ?_
      obtain rfl := Option.some.inj h
      exact RunF.ret1 4 (.int .i64 (I64 ((Int.tmod a0 a1) + a1))) (fn := Go.Proofs.Tryd.f27) Go.Proofs.Tryd.func27 (by kernel_rfl) (by kernel_rfl) (by kernel_rfl) ⟨_, rfl, rfl, (hM.pick [] rfl rfl)⟩
    · replace h := of_false h c2
      refine RunF.know 10 (b := false) (by kernel_rfl) c2 ?_
      refine RunF.go 7 [4] (k' := (pl Go.Proofs.Tryd.f27 [1, 1, 1, 1])) (L' := [(4, .int .i64 (Int.tmod a0 a1))]) (w' := w) (by kernel_rfl) ?_
      obtain rfl := Option.some.inj h
      exact RunF.ret1 4 (.int .i64 (Int.tmod a0 a1)) (fn := Go.Proofs.Tryd.f27) Go.Proofs.Tryd.func27 (by kernel_rfl) (by kernel_rfl) (by kernel_rfl) ⟨_, rfl, rfl, (hM.pick [] rfl rfl)⟩

/-! ### scrim/scrimlaw3.Mod: function 22 -/
def scrimlaw3_Mod.f (k : Nat) (a0 : Int) : Option (Int) := (scrimlaw3_within.f k a0 5).bind fun t5 => (if (decide (0 ≤ t5)) = true then (if (decide (t5 < (5 : Int))) = true then (some (rd ([283, 361, 333, 285, 299] : List Int) t5)) else (none)) else (none))
set_option maxRecDepth 100000 in
theorem scrimlaw3_Mod.calls (k : Nat) (a0 : Int) (r : Int) (w : World) (h : scrimlaw3_Mod.f k a0 = some r) :
    Calls Go.Proofs.Tryd.prog 22 #[.int .i64 a0] w (Ret fun v w' => v = .int .i64 r ∧ Mem w w' []) := by
  unfold scrimlaw3_Mod.f at h
  refine calls_of [.int .i64 a0] (fn := Go.Proofs.Tryd.f22) Go.Proofs.Tryd.func22 (by kernel_rfl) (by kernel_rfl) ?_
  have hM := Mem.refl w
  refine RunF.go 6 [0] (k' := (pin Go.Proofs.Tryd.f22 [1, 0] 0)) (L' := [(0, .int .i64 a0)]) (w' := w) (by kernel_rfl) ?_
  refine RunF.new 3 1 5 (nums .i64 [283, 361, 333, 285, 299]) (d := some 3) (k2 := (pin Go.Proofs.Tryd.f22 [1, 0] 1)) hM (by simp [nums, bools]) (by kernel_rfl) (by kernel_rfl) ?_
  replace hM := hM
  intro g1 W2 hM
  refine RunF.go 1 [3, 4] (k' := (pin Go.Proofs.Tryd.f22 [1, 0] 2)) (L' := [(3, .slice (some ⟨g1, 0, none⟩) 5 5), (4, .int .i64 a0)]) (w' := W2) (by kernel_rfl) ?_
  obtain ⟨t5, ht5, h⟩ := Option.bind_eq_some_iff.mp h
  refine RunF.call (d := some 5) (g := 27) (args := #[.int .i64 a0, .int .i64 5]) (k2 := (pin Go.Proofs.Tryd.f22 [1, 0] 3)) (by kernel_rfl) (scrimlaw3_within.calls k a0 5 t5 _ ht5) ?_
  rintro _ W4 ⟨rfl, hM_⟩
  replace hM := hM.call hM_
  clear hM_ ht5
  rcases two (decide (0 ≤ t5)) with c7 | c7
  · replace h := of_true h c7
    rcases two (decide (t5 < (5 : Int))) with c8 | c8
    · replace h := of_true h c8
      obtain ⟨q6, hAq6, hcq6, hfq6, hlq6⟩ := hM.num_at 0 rfl (i := t5) (of_decide_eq_true c7) (by have h_ := of_decide_eq_true c8; omega)
      refine RunF.y (idx_own (d := some 6) (A := (some ⟨g1, 0, none⟩)) (m := 5) (i := t5) (k2 := (pin Go.Proofs.Tryd.f22 [1, 0] 4)) (by kernel_rfl) (of_decide_eq_true c7) (by have h_ := of_decide_eq_true c8; omega) hAq6) trivial ?_
      refine RunF.y (ld_y (d := some 7) (p := ⟨q6, (t5 : Int).toNat, none⟩) (k2 := (pin Go.Proofs.Tryd.f22 [1, 0] 5)) (.int .i64 (rd ([283, 361, 333, 285, 299] : List Int) t5)) (by kernel_rfl)) hcq6 ?_
      refine RunF.go 2 [2] (k' := (pl Go.Proofs.Tryd.f22 [1, 1])) (L' := [(2, .int .i64 (rd ([283, 361, 333, 285, 299] : List Int) t5))]) (w' := W4) (by kernel_rfl) ?_
      obtain rfl := Option.some.inj h
      exact RunF.ret1 2 (.int .i64 (rd ([283, 361, 333, 285, 299] : List Int) t5)) (fn := Go.Proofs.Tryd.f22) Go.Proofs.Tryd.func22 (by kernel_rfl) (by kernel_rfl) (by kernel_rfl) ⟨_, rfl, rfl, (hM.pick [] rfl rfl)⟩
    · replace h := of_false h c8
      cases h
  · replace h := of_false h c7
    cases h

/-! ### scrim/field.Mul: function 30 -/
def field_Mul.l0 : Nat → Int → Int → Int → Int → Option (Int)
  | 0, _, _, _, _ => none
  | k + 1, a2, x7_0, x8_0, x9_0 => if (x9_0 == 0) = true then (some (U8 (x7_0))) else (if (decide ((band .i64 x9_0 1) > 0)) = true then (if (decide ((shl .i64 x8_0 1) ≥ 256)) = true then ((some (band .i64 (bxor .i64 (shl .i64 x8_0 1) a2) 255 : Int)).bind fun y4 => (field_Mul.l0 k a2 (bxor .i64 x7_0 x8_0) y4 (shr x9_0 1))) else (field_Mul.l0 k a2 (bxor .i64 x7_0 x8_0) (band .i64 (shl .i64 x8_0 1) 255) (shr x9_0 1))) else (if (decide ((shl .i64 x8_0 1) ≥ 256)) = true then ((some (band .i64 (bxor .i64 (shl .i64 x8_0 1) a2) 255 : Int)).bind fun y6 => (field_Mul.l0 k a2 x7_0 y6 (shr x9_0 1))) else (field_Mul.l0 k a2 x7_0 (band .i64 (shl .i64 x8_0 1) 255) (shr x9_0 1))))
def field_Mul.f (k : Nat) (a0 : Int) (a1 : Int) (a2 : Int) : Option (Int) := field_Mul.l0 k a2 0 (I64 (a0)) (I64 (a1))
set_option maxRecDepth 100000 in
theorem field_Mul.calls (k : Nat) (a0 : Int) (a1 : Int) (a2 : Int) (r : Int) (w : World) (h : field_Mul.f k a0 a1 a2 = some r) :
    Calls Go.Proofs.Tryd.prog 30 #[.int .u8 a0, .int .u8 a1, .int .i64 a2] w (Ret fun v w' => v = .int .u8 r ∧ Mem w w' []) := by
  unfold field_Mul.f at h
  refine calls_of [.int .u8 a0, .int .u8 a1, .int .i64 a2] (fn := Go.Proofs.Tryd.f30) Go.Proofs.Tryd.func30 (by kernel_rfl) (by kernel_rfl) ?_
  have hM := Mem.refl w
  refine RunF.go 17 [2, 7, 8, 9] (k' := (pl Go.Proofs.Tryd.f30 [1, 0, 1, 1])) (L' := [(2, .int .i64 a2), (7, .int .i64 0), (8, .int .i64 (I64 (a0))), (9, .int .i64 (I64 (a1)))]) (w' := w) (by kernel_rfl) ?_
  have l0 : ∀ (k_ : Nat), k_ ≤ k → ∀ (x7_0 : Int) (x8_0 : Int) (x9_0 : Int) (W : World) (hM : Mem w W []) (h : field_Mul.l0 k_ a2 x7_0 x8_0 x9_0 = some r), RunF Go.Proofs.Tryd.prog (Ret fun v w' => v = .int .u8 r ∧ Mem w w' []) 30 (pl Go.Proofs.Tryd.f30 [1, 0, 1, 1]) 35 [(2, .int .i64 a2), (7, .int .i64 x7_0), (8, .int .i64 x8_0), (9, .int .i64 x9_0)] W := by
    intro k_
    induction k_ using Nat.strongRecOn with
    | _ k_ ih0 =>
      intro hk x7_0 x8_0 x9_0 W hM h
      cases k_ with
      | zero => exact absurd h (by simp [field_Mul.l0])
      | succ k =>
        simp only [field_Mul.l0] at h
        replace ih0 : ∀ m, m ≤ k → _ := fun m hm => ih0 m (by omega) (by omega)
        refine RunF.go 6 [2, 7, 8, 9, 15] (k' := (pl Go.Proofs.Tryd.f30 [1, 0, 1, 1, 0, 1])) (L' := [(2, .int .i64 a2), (7, .int .i64 x7_0), (8, .int .i64 x8_0), (9, .int .i64 x9_0), (15, .bool (x9_0 == 0))]) (w' := W) (by kernel_rfl) ?_
        rcases two ((x9_0 == 0)) with c1 | c1
        · replace h := of_true h c1
          refine RunF.know 15 (b := true) (by kernel_rfl) c1 ?_
          refine RunF.go 7 [6] (k' := (pl Go.Proofs.Tryd.f30 [1, 0, 1, 1, 0, 1, 0, 1])) (L' := [(6, .int .u8 (U8 (x7_0)))]) (w' := W) (by kernel_rfl) ?_
          obtain rfl := Option.some.inj h
          exact RunF.ret1 6 (.int .u8 (U8 (x7_0))) (fn := Go.Proofs.Tryd.f30) Go.Proofs.Tryd.func30 (by kernel_rfl) (by kernel_rfl) (by kernel_rfl) ⟨_, rfl, rfl, (hM.pick [] rfl rfl)⟩
        · replace h := of_false h c1
          refine RunF.know 15 (b := false) (by kernel_rfl) c1 ?_
          refine RunF.go 9 [2, 7, 8, 9, 20] (k' := (pl Go.Proofs.Tryd.f30 [1, 0, 1, 1, 1, 0, 1])) (L' := [(2, .int .i64 a2), (7, .int .i64 x7_0), (8, .int .i64 x8_0), (9, .int .i64 x9_0), (20, .bool (decide ((band .i64 x9_0 1) > 0)))]) (w' := W) (by kernel_rfl) ?_
          rcases two (decide ((band .i64 x9_0 1) > 0)) with c2 | c2
          · replace h := of_true h c2
            refine RunF.know 20 (b := true) (by kernel_rfl) c2 ?_
            refine RunF.go 22 [2, 7, 8, 9, 29] (k' := (pl Go.Proofs.Tryd.f30 [1, 0, 1, 1, 1, 1, 0, 1, 1])) (L' := [(2, .int .i64 a2), (7, .int .i64 (bxor .i64 x7_0 x8_0)), (8, .int .i64 (shl .i64 x8_0 1)), (9, .int .i64 (shr x9_0 1)), (29, .bool (decide ((shl .i64 x8_0 1) ≥ 256)))]) (w' := W) (by kernel_rfl) ?_
            rcases two (decide ((shl .i64 x8_0 1) ≥ 256)) with c3 | c3
            · replace h := of_true h c3
              refine RunF.know 29 (b := true) (by kernel_rfl) c3 ?_
              refine RunF.go 16 [2, 7, 8, 9] (k' := (pl Go.Proofs.Tryd.f30 [1, 0, 1, 1])) (L' := [(2, .int .i64 a2), (7, .int .i64 (bxor .i64 x7_0 x8_0)), (8, .int .i64 (band .i64 (bxor .i64 (shl .i64 x8_0 1) a2) 255)), (9, .int .i64 (shr x9_0 1))]) (w' := W) (by kernel_rfl) ?_
              obtain ⟨y4, hy, h⟩ := Option.bind_eq_some_iff.mp h
              rw [show (band .i64 (bxor .i64 (shl .i64 x8_0 1) a2) 255) = y4 from Option.some.inj hy]
              clear hy
              exact ih0 k (by omega) (bxor .i64 x7_0 x8_0) y4 (shr x9_0 1) _ (hM.pick [] rfl rfl) h
            · replace h := of_false h c3
              refine RunF.know 29 (b := false) (by kernel_rfl) c3 ?_
              refine RunF.go 11 [2, 7, 8, 9] (k' := (pl Go.Proofs.Tryd.f30 [1, 0, 1, 1])) (L' := [(2, .int .i64 a2), (7, .int .i64 (bxor .i64 x7_0 x8_0)), (8, .int .i64 (band .i64 (shl .i64 x8_0 1) 255)), (9, .int .i64 (shr x9_0 1))]) (w' := W) (by kernel_rfl) ?_
              exact ih0 k (by omega) (bxor .i64 x7_0 x8_0) (band .i64 (shl .i64 x8_0 1) 255) (shr x9_0 1) _ (hM.pick [] rfl rfl) h
          · replace h := of_false h c2
            refine RunF.know 20 (b := false) (by kernel_rfl) c2 ?_
            refine RunF.go 17 [2, 7, 8, 9, 29] (k' := (pl Go.Proofs.Tryd.f30 [1, 0, 1, 1, 1, 1, 0, 1, 1])) (L' := [(2, .int .i64 a2), (7, .int .i64 x7_0), (8, .int .i64 (shl .i64 x8_0 1)), (9, .int .i64 (shr x9_0 1)), (29, .bool (decide ((shl .i64 x8_0 1) ≥ 256)))]) (w' := W) (by kernel_rfl) ?_
            rcases two (decide ((shl .i64 x8_0 1) ≥ 256)) with c5 | c5
            · replace h := of_true h c5
              refine RunF.know 29 (b := true) (by kernel_rfl) c5 ?_
              refine RunF.go 16 [2, 7, 8, 9] (k' := (pl Go.Proofs.Tryd.f30 [1, 0, 1, 1])) (L' := [(2, .int .i64 a2), (7, .int .i64 x7_0), (8, .int .i64 (band .i64 (bxor .i64 (shl .i64 x8_0 1) a2) 255)), (9, .int .i64 (shr x9_0 1))]) (w' := W) (by kernel_rfl) ?_
              obtain ⟨y6, hy, h⟩ := Option.bind_eq_some_iff.mp h
              rw [show (band .i64 (bxor .i64 (shl .i64 x8_0 1) a2) 255) = y6 from Option.some.inj hy]
              clear hy
              exact ih0 k (by omega) x7_0 y6 (shr x9_0 1) _ (hM.pick [] rfl rfl) h
            · replace h := of_false h c5
              refine RunF.know 29 (b := false) (by kernel_rfl) c5 ?_
              refine RunF.go 11 [2, 7, 8, 9] (k' := (pl Go.Proofs.Tryd.f30 [1, 0, 1, 1])) (L' := [(2, .int .i64 a2), (7, .int .i64 x7_0), (8, .int .i64 (band .i64 (shl .i64 x8_0 1) 255)), (9, .int .i64 (shr x9_0 1))]) (w' := W) (by kernel_rfl) ?_
              exact ih0 k (by omega) x7_0 (band .i64 (shl .i64 x8_0 1) 255) (shr x9_0 1) _ (hM.pick [] rfl rfl) h
  exact l0 k (Nat.le_refl _) 0 (I64 (a0)) (I64 (a1)) _ (hM.pick [] rfl rfl) h

/-! ### scrim/field.Pow: function 28 -/
def field_Pow.l0 : Nat → Int → Int → Int → Int → Option (Int)
  | 0, _, _, _, _ => none
  | k + 1, a2, x0_0, x1_0, x7_0 => if (decide (x1_0 ≤ 0)) = true then (some x7_0) else (if (decide ((band .i64 x1_0 1) > 0)) = true then ((field_Mul.f k x7_0 x0_0 a2).bind fun t4 => ((field_Mul.f k x0_0 x0_0 a2).bind fun t6 => (field_Pow.l0 k a2 t6 (shr x1_0 1) t4))) else ((field_Mul.f k x0_0 x0_0 a2).bind fun t8 => (field_Pow.l0 k a2 t8 (shr x1_0 1) x7_0)))
def field_Pow.f (k : Nat) (a0 : Int) (a1 : Int) (a2 : Int) : Option (Int) := field_Pow.l0 k a2 a0 a1 1
set_option maxRecDepth 100000 in
theorem field_Pow.calls (k : Nat) (a0 : Int) (a1 : Int) (a2 : Int) (r : Int) (w : World) (h : field_Pow.f k a0 a1 a2 = some r) :
    Calls Go.Proofs.Tryd.prog 28 #[.int .u8 a0, .int .i64 a1, .int .i64 a2] w (Ret fun v w' => v = .int .u8 r ∧ Mem w w' []) := by
  unfold field_Pow.f at h
  refine calls_of [.int .u8 a0, .int .i64 a1, .int .i64 a2] (fn := Go.Proofs.Tryd.f28) Go.Proofs.Tryd.func28 (by kernel_rfl) (by kernel_rfl) ?_
  have hM := Mem.refl w
  refine RunF.go 11 [0, 1, 2, 7] (k' := (pl Go.Proofs.Tryd.f28 [1, 0, 1, 1])) (L' := [(0, .int .u8 a0), (1, .int .i64 a1), (2, .int .i64 a2), (7, .int .u8 1)]) (w' := w) (by kernel_rfl) ?_
  have l0 : ∀ (k_ : Nat), k_ ≤ k → ∀ (x0_0 : Int) (x1_0 : Int) (x7_0 : Int) (W : World) (hM : Mem w W []) (h : field_Pow.l0 k_ a2 x0_0 x1_0 x7_0 = some r), RunF Go.Proofs.Tryd.prog (Ret fun v w' => v = .int .u8 r ∧ Mem w w' []) 28 (pl Go.Proofs.Tryd.f28 [1, 0, 1, 1]) 24 [(0, .int .u8 x0_0), (1, .int .i64 x1_0), (2, .int .i64 a2), (7, .int .u8 x7_0)] W := by
    intro k_
    induction k_ using Nat.strongRecOn with
    | _ k_ ih0 =>
      intro hk x0_0 x1_0 x7_0 W hM h
      cases k_ with
      | zero => exact absurd h (by simp [field_Pow.l0])
      | succ k =>
        simp only [field_Pow.l0] at h
        replace ih0 : ∀ m, m ≤ k → _ := fun m hm => ih0 m (by omega) (by omega)
        refine RunF.go 6 [0, 1, 2, 7, 9] (k' := (pl Go.Proofs.Tryd.f28 [1, 0, 1, 1, 0, 1])) (L' := [(0, .int .u8 x0_0), (1, .int .i64 x1_0), (2, .int .i64 a2), (7, .int .u8 x7_0), (9, .bool (decide (x1_0 ≤ 0)))]) (w' := W) (by kernel_rfl) ?_
        rcases two (decide (x1_0 ≤ 0)) with c1 | c1
        · replace h := of_true h c1
          refine RunF.know 9 (b := true) (by kernel_rfl) c1 ?_
          refine RunF.go 6 [6] (k' := (pl Go.Proofs.Tryd.f28 [1, 0, 1, 1, 0, 1, 0, 1])) (L' := [(6, .int .u8 x7_0)]) (w' := W) (by kernel_rfl) ?_
          obtain rfl := Option.some.inj h
          exact RunF.ret1 6 (.int .u8 x7_0) (fn := Go.Proofs.Tryd.f28) Go.Proofs.Tryd.func28 (by kernel_rfl) (by kernel_rfl) (by kernel_rfl) ⟨_, rfl, rfl, (hM.pick [] rfl rfl)⟩
        · replace h := of_false h c1
          refine RunF.know 9 (b := false) (by kernel_rfl) c1 ?_
          refine RunF.go 9 [0, 1, 2, 7, 13] (k' := (pl Go.Proofs.Tryd.f28 [1, 0, 1, 1, 1, 0, 1])) (L' := [(0, .int .u8 x0_0), (1, .int .i64 x1_0), (2, .int .i64 a2), (7, .int .u8 x7_0), (13, .bool (decide ((band .i64 x1_0 1) > 0)))]) (w' := W) (by kernel_rfl) ?_
          rcases two (decide ((band .i64 x1_0 1) > 0)) with c2 | c2
          · replace h := of_true h c2
            refine RunF.know 13 (b := true) (by kernel_rfl) c2 ?_
            refine RunF.go 5 [0, 1, 2, 14, 15, 16] (k' := (pin Go.Proofs.Tryd.f28 [1, 0, 1, 1, 1, 0, 1, 0] 3)) (L' := [(0, .int .u8 x0_0), (1, .int .i64 x1_0), (2, .int .i64 a2), (14, .int .u8 x7_0), (15, .int .u8 x0_0), (16, .int .i64 a2)]) (w' := W) (by kernel_rfl) ?_
            obtain ⟨t4, ht4, h⟩ := Option.bind_eq_some_iff.mp h
            refine RunF.call (d := some 17) (g := 30) (args := #[.int .u8 x7_0, .int .u8 x0_0, .int .i64 a2]) (k2 := (pin Go.Proofs.Tryd.f28 [1, 0, 1, 1, 1, 0, 1, 0] 4)) (by kernel_rfl) (field_Mul.calls k x7_0 x0_0 a2 t4 _ ht4) ?_
            rintro _ W3 ⟨rfl, hM_⟩
            replace hM := hM.call hM_
            clear hM_ ht4
            refine RunF.go 7 [1, 2, 7, 18, 19, 20] (k' := (pin Go.Proofs.Tryd.f28 [1, 0, 1, 1, 1, 1, 0] 3)) (L' := [(1, .int .i64 x1_0), (2, .int .i64 a2), (7, .int .u8 t4), (18, .int .u8 x0_0), (19, .int .u8 x0_0), (20, .int .i64 a2)]) (w' := W3) (by kernel_rfl) ?_
            obtain ⟨t6, ht6, h⟩ := Option.bind_eq_some_iff.mp h
            refine RunF.call (d := some 21) (g := 30) (args := #[.int .u8 x0_0, .int .u8 x0_0, .int .i64 a2]) (k2 := (pin Go.Proofs.Tryd.f28 [1, 0, 1, 1, 1, 1, 0] 4)) (by kernel_rfl) (field_Mul.calls k x0_0 x0_0 a2 t6 _ ht6) ?_
            rintro _ W5 ⟨rfl, hM_⟩
            replace hM := hM.call hM_
            clear hM_ ht6
            refine RunF.go 8 [0, 1, 2, 7] (k' := (pl Go.Proofs.Tryd.f28 [1, 0, 1, 1])) (L' := [(0, .int .u8 t6), (1, .int .i64 (shr x1_0 1)), (2, .int .i64 a2), (7, .int .u8 t4)]) (w' := W5) (by kernel_rfl) ?_
            exact ih0 k (by omega) t6 (shr x1_0 1) t4 _ (hM.pick [] rfl rfl) h
          · replace h := of_false h c2
            refine RunF.know 13 (b := false) (by kernel_rfl) c2 ?_
            refine RunF.go 7 [1, 2, 7, 18, 19, 20] (k' := (pin Go.Proofs.Tryd.f28 [1, 0, 1, 1, 1, 1, 0] 3)) (L' := [(1, .int .i64 x1_0), (2, .int .i64 a2), (7, .int .u8 x7_0), (18, .int .u8 x0_0), (19, .int .u8 x0_0), (20, .int .i64 a2)]) (w' := W) (by kernel_rfl) ?_
            obtain ⟨t8, ht8, h⟩ := Option.bind_eq_some_iff.mp h
            refine RunF.call (d := some 21) (g := 30) (args := #[.int .u8 x0_0, .int .u8 x0_0, .int .i64 a2]) (k2 := (pin Go.Proofs.Tryd.f28 [1, 0, 1, 1, 1, 1, 0] 4)) (by kernel_rfl) (field_Mul.calls k x0_0 x0_0 a2 t8 _ ht8) ?_
            rintro _ W7 ⟨rfl, hM_⟩
            replace hM := hM.call hM_
            clear hM_ ht8
            refine RunF.go 8 [0, 1, 2, 7] (k' := (pl Go.Proofs.Tryd.f28 [1, 0, 1, 1])) (L' := [(0, .int .u8 t8), (1, .int .i64 (shr x1_0 1)), (2, .int .i64 a2), (7, .int .u8 x7_0)]) (w' := W7) (by kernel_rfl) ?_
            exact ih0 k (by omega) t8 (shr x1_0 1) x7_0 _ (hM.pick [] rfl rfl) h
  exact l0 k (Nat.le_refl _) a0 a1 1 _ (hM.pick [] rfl rfl) h

/-! ### scrim/box.Make: function 23 -/
def box_Make.l0 : Nat → Int → Int → (List Int) → Int → (List Int) → Int → Option (List Int)
  | 0, _, _, _, _, _, _ => none
  | k + 1, a0, a1, a2, a3, x9_0, x14_0 => if (decide (x14_0 < 256)) = true then ((field_Pow.f k (U8 (x14_0)) a0 a1).bind fun t11 => ((box_Affine.f k t11 a2 a3).bind fun t13 => (if (decide (0 ≤ x14_0)) = true then (if (decide (x14_0 < (256 : Int))) = true then (box_Make.l0 k a0 a1 a2 a3 (x9_0.set (x14_0 : Int).toNat t13) (I64 (x14_0 + 1))) else (none)) else (none)))) else (some x9_0)
def box_Make.f (k : Nat) (a0 : Int) (a1 : Int) (a2 : List Int) (a3 : Int) : Option (List Int) := box_Make.l0 k a0 a1 a2 a3 (List.replicate 256 0) 0
set_option maxRecDepth 100000 in
theorem box_Make.calls (k : Nat) (a0 : Int) (a1 : Int) (a2 : List Int) (a3 : Int) (r : List Int) (w : World) (hl2 : a2.length = 8) (hG0 : Rg w 0 (nums .u8 [1, 2, 4, 8, 16, 32, 64, 128])) (h : box_Make.f k a0 a1 a2 a3 = some r) :
    Calls Go.Proofs.Tryd.prog 23 #[.int .i64 a0, .int .i64 a1, .agg (nums .u8 a2).toArray, .int .u8 a3] w (Ret fun v w' => ∃ A0' n0' c0', v = .slice A0' n0' c0' ∧ Mem w w' [⟨.slice A0' n0' c0', 5, 1, nums .u8 r⟩]) := by
  unfold box_Make.f at h
  refine calls_of [.int .i64 a0, .int .i64 a1, .agg (nums .u8 a2).toArray, .int .u8 a3] (fn := Go.Proofs.Tryd.f23) Go.Proofs.Tryd.func23 (by kernel_rfl) (by kernel_rfl) ?_
  have hM := Mem.refl w
  refine RunF.go 2 [0, 1, 2, 3] (k' := (pin Go.Proofs.Tryd.f23 [0] 0)) (L' := [(0, .int .i64 a0), (1, .int .i64 a1), (2, .agg (nums .u8 a2).toArray), (3, .int .u8 a3)]) (w' := w) (by kernel_rfl) ?_
  refine RunF.newVar 33 (nums .u8 a2) (d := some 6) (k2 := (pin Go.Proofs.Tryd.f23 [0] 1)) hM (by kernel_rfl) ?_
  intro g1 W2 hM
  refine RunF.go 4 [0, 1, 3, 6] (k' := (pin Go.Proofs.Tryd.f23 [1, 0] 0)) (L' := [(0, .int .i64 a0), (1, .int .i64 a1), (3, .int .u8 a3), (6, .pointer (some ⟨g1, 0, none⟩))]) (w' := W2) (by kernel_rfl) ?_
  obtain ⟨W4, hD, hM', hB_⟩ := mk_does (P := Go.Proofs.Tryd.prog) (n := 30) (k := (pin Go.Proofs.Tryd.f23 [1, 0] 0)) (L := [(0, .int .i64 a0), (1, .int .i64 a1), (3, .int .u8 a3), (6, .pointer (some ⟨g1, 0, none⟩))]) (d := some 11) (e := 5) (z := .int .u8 0) (l := 256) (c := 256) (k2 := (pin Go.Proofs.Tryd.f23 [1, 0] 1)) (by kernel_rfl) (by omega) (by omega) (by omega) hM
  rw [rep_nums] at hM'
  refine RunF.does hD ?_
  replace hM := hM'; clear hD hM'
  generalize W2.heap.size = g5 at hM ⊢
  refine RunF.go 11 [0, 1, 3, 6, 9, 13, 14] (k' := (pl Go.Proofs.Tryd.f23 [1, 1, 0, 1, 0, 0])) (L' := [(0, .int .i64 a0), (1, .int .i64 a1), (3, .int .u8 a3), (6, .pointer (some ⟨g1, 0, none⟩)), (9, .slice (some ⟨g5, 0, none⟩) 256 256), (13, .int .i64 256), (14, .int .i64 0)]) (w' := W4) (by kernel_rfl) ?_
  have l0 : ∀ (k_ : Nat), k_ ≤ k → ∀ (x9_0 : List Int) (x14_0 : Int) (W : World) (hM : Mem w W [⟨.pointer (some ⟨g1, 0, none⟩), 33, 0, nums .u8 a2⟩, ⟨.slice (some ⟨g5, 0, none⟩) 256 256, 5, 1, nums .u8 x9_0⟩]) (h : box_Make.l0 k_ a0 a1 a2 a3 x9_0 x14_0 = some r), RunF Go.Proofs.Tryd.prog (Ret fun v w' => ∃ A0' n0' c0', v = .slice A0' n0' c0' ∧ Mem w w' [⟨.slice A0' n0' c0', 5, 1, nums .u8 r⟩]) 23 (pl Go.Proofs.Tryd.f23 [1, 1, 0, 1, 0, 0]) 30 [(0, .int .i64 a0), (1, .int .i64 a1), (3, .int .u8 a3), (6, .pointer (some ⟨g1, 0, none⟩)), (9, .slice (some ⟨g5, 0, none⟩) 256 256), (13, .int .i64 256), (14, .int .i64 x14_0)] W := by
    intro k_
    induction k_ using Nat.strongRecOn with
    | _ k_ ih0 =>
      intro hk x9_0 x14_0 W hM h
      cases k_ with
      | zero => exact absurd h (by simp [box_Make.l0])
      | succ k =>
        simp only [box_Make.l0] at h
        replace ih0 : ∀ m, m ≤ k → _ := fun m hm => ih0 m (by omega) (by omega)
        refine RunF.go 5 [0, 1, 3, 6, 9, 13, 14, 15] (k' := (pl Go.Proofs.Tryd.f23 [1, 1, 0, 1, 0, 0, 1, 0])) (L' := [(0, .int .i64 a0), (1, .int .i64 a1), (3, .int .u8 a3), (6, .pointer (some ⟨g1, 0, none⟩)), (9, .slice (some ⟨g5, 0, none⟩) 256 256), (13, .int .i64 256), (14, .int .i64 x14_0), (15, .bool (decide (x14_0 < 256)))]) (w' := W) (by kernel_rfl) ?_
        rcases two (decide (x14_0 < 256)) with c7 | c7
        · replace h := of_true h c7
          refine RunF.know 15 (b := true) (by kernel_rfl) c7 ?_
          refine RunF.go 9 [0, 1, 3, 6, 9, 10, 13, 14] (k' := (pl Go.Proofs.Tryd.f23 [1, 1, 0, 1, 0, 0, 1, 1, 0, 0, 1])) (L' := [(0, .int .i64 a0), (1, .int .i64 a1), (3, .int .u8 a3), (6, .pointer (some ⟨g1, 0, none⟩)), (9, .slice (some ⟨g5, 0, none⟩) 256 256), (10, .int .i64 x14_0), (13, .int .i64 256), (14, .int .i64 x14_0)]) (w' := W) (by kernel_rfl) ?_
          refine RunF.draw (Still ({ W with drawn := W.drawn + 1 } : World) [.slice (some ⟨g5, 0, none⟩) 256 256]) (by kernel_rfl) (by kernel_rfl) ?_
          have hMd9 := hM.drew
          have hS := Still.refl ({ W with drawn := W.drawn + 1 } : World) [.slice (some ⟨g5, 0, none⟩) 256 256]
          generalize ({ W with drawn := W.drawn + 1 } : World) = W8 at hMd9 hS ⊢
          replace hM := hMd9
          refine RunAny.y 0 (by kernel_rfl) (yl_pure (d := some 17) (v := .slice (some ⟨g5, 0, none⟩) 256 256) (k2 := [.inRegion (opsOf (pl Go.Proofs.Tryd.f23 [1, 1, 0, 1, 0, 0, 1, 1, 0, 0, 1])) []]) fun w => by kernel_rfl) (fun _ _ => trivial) hS ?_
          refine RunAny.y 1 (by kernel_rfl) (yl_pure (d := some 18) (v := .int .i64 x14_0) (k2 := [.inRegion (opsOf (pl Go.Proofs.Tryd.f23 [1, 1, 0, 1, 0, 0, 1, 1, 0, 0, 1])) []]) fun w => by kernel_rfl) (fun _ _ => trivial) hS ?_
          refine RunAny.y 2 (by kernel_rfl) (yl_pure (d := some 19) (v := .int .i64 x14_0) (k2 := [.inRegion (opsOf (pl Go.Proofs.Tryd.f23 [1, 1, 0, 1, 0, 0, 1, 1, 0, 0, 1])) []]) fun w => by kernel_rfl) (fun _ _ => trivial) hS ?_
          refine RunAny.y 3 (by kernel_rfl) (yl_pure (d := some 20) (v := .int .u8 (U8 (x14_0))) (k2 := [.inRegion (opsOf (pl Go.Proofs.Tryd.f23 [1, 1, 0, 1, 0, 0, 1, 1, 0, 0, 1])) []]) fun w => by kernel_rfl) (fun _ _ => trivial) hS ?_
          refine RunAny.y 4 (by kernel_rfl) (yl_pure (d := some 21) (v := .int .i64 a0) (k2 := [.inRegion (opsOf (pl Go.Proofs.Tryd.f23 [1, 1, 0, 1, 0, 0, 1, 1, 0, 0, 1])) []]) fun w => by kernel_rfl) (fun _ _ => trivial) hS ?_
          refine RunAny.y 5 (by kernel_rfl) (yl_pure (d := some 22) (v := .int .i64 a1) (k2 := [.inRegion (opsOf (pl Go.Proofs.Tryd.f23 [1, 1, 0, 1, 0, 0, 1, 1, 0, 0, 1])) []]) fun w => by kernel_rfl) (fun _ _ => trivial) hS ?_
          refine RunAny.y 7 (by kernel_rfl) (ldv_y (d := some 24) (g := g1) (N := 8) (ty := 33) (k2 := [.inRegion (opsOf (pl Go.Proofs.Tryd.f23 [1, 1, 0, 1, 0, 0, 1, 1, 0, 0, 1])) []]) (nums .u8 a2) (by kernel_rfl) (by simp only [nums_length, bools_length]; exact hl2)) (fun _ hs => hs.block (hM.block 0 rfl) (by intro v hv; simp only [List.mem_cons, List.not_mem_nil, or_false] at hv; rcases hv with rfl; exact (hM.ne 0 1 rfl rfl rfl rfl))) hS ?_
          refine RunAny.y 8 (by kernel_rfl) (yl_pure (d := some 25) (v := .int .u8 a3) (k2 := [.inRegion (opsOf (pl Go.Proofs.Tryd.f23 [1, 1, 0, 1, 0, 0, 1, 1, 0, 0, 1])) []]) fun w => by kernel_rfl) (fun _ _ => trivial) hS ?_
          obtain ⟨t11, ht11, h⟩ := Option.bind_eq_some_iff.mp h
          refine RunAny.call 6 (d := some 23) (g := 28) (args := #[.int .u8 (U8 (x14_0)), .int .i64 a0, .int .i64 a1]) (by kernel_rfl) (by kernel_rfl) (field_Pow.calls k (U8 (x14_0)) a0 a1 t11 _ ht11) (by rintro _ _ ⟨rfl, hM_⟩; exact hS.below hM_.below) ?_
          rintro _ W10 ⟨rfl, hM_⟩
          replace hS := hS.below hM_.below
          replace hM := hM.call hM_
          clear hM_ ht11
          refine RunAny.rebase hS ?_
          replace hS := Still.refl W10 [.slice (some ⟨g5, 0, none⟩) 256 256]
          obtain ⟨t13, ht13, h⟩ := Option.bind_eq_some_iff.mp h
          refine RunAny.call 9 (d := some 26) (g := 20) (args := #[.int .u8 t11, .agg (nums .u8 a2).toArray, .int .u8 a3]) (by kernel_rfl) (by kernel_rfl) (box_Affine.calls k t11 a2 a3 t13 _ hl2 (hG0.mono hM.below) ht13) (by rintro _ _ ⟨rfl, hM_⟩; exact hS.below hM_.below) ?_
          rintro _ W12 ⟨rfl, hM_⟩
          replace hS := hS.below hM_.below
          replace hM := hM.call hM_
          clear hM_ ht13
          refine RunAny.rebase hS ?_
          replace hS := Still.refl W12 [.slice (some ⟨g5, 0, none⟩) 256 256]
          rcases two (decide (0 ≤ x14_0)) with c15 | c15
          · replace h := of_true h c15
            rcases two (decide (x14_0 < (256 : Int))) with c16 | c16
            · replace h := of_true h c16
              obtain ⟨q14, hAq14, hcq14, hfq14, hlq14⟩ := hM.num_at 1 rfl (i := x14_0) (of_decide_eq_true c15) (by have h_ := of_decide_eq_true c16; omega)
              refine RunAny.y 10 (by kernel_rfl) (idx_own (d := some 27) (A := (some ⟨g5, 0, none⟩)) (m := 256) (i := x14_0) (k2 := [.inRegion (opsOf (pl Go.Proofs.Tryd.f23 [1, 1, 0, 1, 0, 0, 1, 1, 0, 0, 1])) []]) (by kernel_rfl) (of_decide_eq_true c15) (by have h_ := of_decide_eq_true c16; omega) hAq14) (fun _ _ => trivial) hS ?_
              obtain ⟨g_, hA_, hc_, hf_, hl_⟩ := hM.num_at 1 rfl (i := x14_0) (of_decide_eq_true c15) (by have h_ := of_decide_eq_true c16; omega)
              obtain rfl : q14 = g_ := by rw [hAq14] at hA_; injection hA_ with hA_; injection hA_
              have hS' := hS.set (v := .slice (some ⟨g5, 0, none⟩) 256 256) (g := q14) (i := (x14_0 : Int).toNat) (by simp) (by rw [hAq14]; rfl) (.int .u8 t13)
              refine RunAny.doesU 11 (by kernel_rfl) (st_u (p := (⟨q14, (x14_0 : Int).toNat, none⟩ : Addr)) (v := .int .u8 t13) (k2 := [.inRegion (opsOf (pl Go.Proofs.Tryd.f23 [1, 1, 0, 1, 0, 0, 1, 1, 0, 0, 1])) []]) (by kernel_rfl) hc_ hf_) hS' ?_
              replace hM : Mem w (W12.setCell (⟨q14, (x14_0 : Int).toNat, none⟩ : Addr) (.int .u8 t13)) [⟨.pointer (some ⟨g1, 0, none⟩), 33, 0, nums .u8 a2⟩, ⟨.slice (some ⟨g5, 0, none⟩) 256 256, 5, 1, nums .u8 (x9_0.set (x14_0 : Int).toNat t13)⟩] := Mem.put_num [⟨.pointer (some ⟨g1, 0, none⟩), 33, 0, nums .u8 a2⟩] [] (hM.pick [0, 1] rfl rfl) hAq14 _ hl_ _
              generalize W12.setCell (⟨q14, (x14_0 : Int).toNat, none⟩ : Addr) (.int .u8 t13) = W17 at hM hS' ⊢
              clear hc_ hf_ hl_ hA_ hcq14
              replace hS := hS'
              refine RunAny.rebase hS ?_
              replace hS := Still.refl W17 [.slice (some ⟨g5, 0, none⟩) 256 256]
              refine RunAny.done (by kernel_rfl) ?_
              clear hS
              refine RunF.go 6 [0, 1, 3, 6, 9, 13, 14] (k' := (pl Go.Proofs.Tryd.f23 [1, 1, 0, 1, 0, 0])) (L' := [(0, .int .i64 a0), (1, .int .i64 a1), (3, .int .u8 a3), (6, .pointer (some ⟨g1, 0, none⟩)), (9, .slice (some ⟨g5, 0, none⟩) 256 256), (13, .int .i64 256), (14, .int .i64 (I64 (x14_0 + 1)))]) (w' := W17) (by kernel_rfl) ?_
              exact ih0 k (by omega) (x9_0.set (x14_0 : Int).toNat t13) (I64 (x14_0 + 1)) _ (hM.pick [0, 1] rfl rfl) h
            · replace h := of_false h c16
              cases h
          · replace h := of_false h c15
            cases h
        · replace h := of_false h c7
          refine RunF.know 15 (b := false) (by kernel_rfl) c7 ?_
          refine RunF.go 7 [8] (k' := (pl Go.Proofs.Tryd.f23 [1, 1, 1, 1])) (L' := [(8, .slice (some ⟨g5, 0, none⟩) 256 256)]) (w' := W) (by kernel_rfl) ?_
          obtain rfl := Option.some.inj h
          exact RunF.ret1 8 (.slice (some ⟨g5, 0, none⟩) 256 256) (fn := Go.Proofs.Tryd.f23) Go.Proofs.Tryd.func23 (by kernel_rfl) (by kernel_rfl) (by kernel_rfl) ⟨_, rfl, (some ⟨g5, 0, none⟩), 256, 256, rfl, (hM.pick [1] rfl rfl)⟩
  exact l0 k (Nat.le_refl _) (List.replicate 256 0) 0 _ (hM.pick [1, 0] rfl rfl) h

/-! ### scrim/scrimlaw4.BoxPowers: function 10 -/
def scrimlaw4_BoxPowers.f (k : Nat) (a0 : Int) (a1 : Int) (a2 : Int) : Option (Bool) := (scrimlaw4_known.f k).bind fun t2 => (if (!t2) = true then (some false) else ((scrimlaw4_within.f k a0 254).bind fun t5 => ((scrimlaw3_Mod.f k a1).bind fun t13 => ((box_Make.f k (I64 (1 + t5)) t13 ([1, 2, 4, 8, 16, 32, 64, 128] : List Int) a2).bind fun t15 => ((box_Is.f k t15).bind fun t21 => (if ((Int.tmod (I64 (1 + t5)) 3) != 0) = true then (if ((Int.tmod (I64 (1 + t5)) 5) != 0) = true then (some (t21 == ((Int.tmod (I64 (1 + t5)) 17) != 0))) else (some (t21 == false))) else (some (t21 == false))))))))
set_option maxRecDepth 100000 in
theorem scrimlaw4_BoxPowers.calls (k : Nat) (a0 : Int) (a1 : Int) (a2 : Int) (r : Bool) (w : World) (hG0 : Rg w 0 (nums .u8 [1, 2, 4, 8, 16, 32, 64, 128])) (h : scrimlaw4_BoxPowers.f k a0 a1 a2 = some r) :
    Calls Go.Proofs.Tryd.prog 10 #[.int .i64 a0, .int .i64 a1, .int .u8 a2] w (Ret fun v w' => v = .bool r ∧ Mem w w' []) := by
  unfold scrimlaw4_BoxPowers.f at h
  refine calls_of [.int .i64 a0, .int .i64 a1, .int .u8 a2] (fn := Go.Proofs.Tryd.f10) Go.Proofs.Tryd.func10 (by kernel_rfl) (by kernel_rfl) ?_
  have hM := Mem.refl w
  refine RunF.go 7 [0, 1, 2] (k' := (pin Go.Proofs.Tryd.f10 [1, 0, 0] 0)) (L' := [(0, .int .i64 a0), (1, .int .i64 a1), (2, .int .u8 a2)]) (w' := w) (by kernel_rfl) ?_
  obtain ⟨t2, ht2, h⟩ := Option.bind_eq_some_iff.mp h
  refine RunF.call (d := some 9) (g := 12) (args := #[]) (k2 := (pin Go.Proofs.Tryd.f10 [1, 0, 0] 1)) (by kernel_rfl) (scrimlaw4_known.calls k t2 _ (hG0.mono hM.below) ht2) ?_
  rintro _ W1 ⟨rfl, hM_⟩
  replace hM := hM.call hM_
  clear hM_ ht2
  refine RunF.go 2 [0, 1, 2, 10] (k' := (pl Go.Proofs.Tryd.f10 [1, 0, 1])) (L' := [(0, .int .i64 a0), (1, .int .i64 a1), (2, .int .u8 a2), (10, .bool (!t2))]) (w' := W1) (by kernel_rfl) ?_
  rcases two (!t2) with c3 | c3
  · replace h := of_true h c3
    refine RunF.know 10 (b := true) (by kernel_rfl) c3 ?_
    refine RunF.go 5 [6] (k' := (pl Go.Proofs.Tryd.f10 [1, 0, 1, 0, 1])) (L' := [(6, .bool false)]) (w' := W1) (by kernel_rfl) ?_
    obtain rfl := Option.some.inj h
    exact RunF.ret1 6 (.bool false) (fn := Go.Proofs.Tryd.f10) Go.Proofs.Tryd.func10 (by kernel_rfl) (by kernel_rfl) (by kernel_rfl) ⟨_, rfl, rfl, (hM.pick [] rfl rfl)⟩
  · replace h := of_false h c3
    refine RunF.know 10 (b := false) (by kernel_rfl) c3 ?_
    refine RunF.go 5 [1, 2, 11] (k' := (pin Go.Proofs.Tryd.f10 [1, 1, 0] 1)) (L' := [(1, .int .i64 a1), (2, .int .u8 a2), (11, .int .i64 a0)]) (w' := W1) (by kernel_rfl) ?_
    obtain ⟨t5, ht5, h⟩ := Option.bind_eq_some_iff.mp h
    refine RunF.call (d := some 12) (g := 14) (args := #[.int .i64 a0, .int .i64 254]) (k2 := (pin Go.Proofs.Tryd.f10 [1, 1, 0] 2)) (by kernel_rfl) (scrimlaw4_within.calls k a0 254 t5 _ ht5) ?_
    rintro _ W4 ⟨rfl, hM_⟩
    replace hM := hM.call hM_
    clear hM_ ht5
    refine RunF.go 6 [1, 2, 7, 14] (k' := (pin Go.Proofs.Tryd.f10 [1, 1, 1, 0] 1)) (L' := [(1, .int .i64 a1), (2, .int .u8 a2), (7, .int .i64 (I64 (1 + t5))), (14, .agg (nums .u8 ([1, 2, 4, 8, 16, 32, 64, 128] : List Int)).toArray)]) (w' := W4) (by kernel_rfl) ?_
    refine RunF.newVar 33 (nums .u8 (List.replicate 8 0)) (d := some 8) (k2 := (pin Go.Proofs.Tryd.f10 [1, 1, 1, 0] 2)) hM (by kernel_rfl) ?_
    intro g6 W7 hM
    refine RunF.doesU (stv_u (N := 8) (cells := (nums .u8 ([1, 2, 4, 8, 16, 32, 64, 128] : List Int)).toArray) (old := (nums .u8 (List.replicate 8 0)).toArray) (ty := 33) (k2 := (pin Go.Proofs.Tryd.f10 [1, 1, 1, 0] 3)) (by kernel_rfl) (by rw [List.size_toArray]; simp only [nums_length, bools_length]; exact rfl) (hM.block 0 rfl) (by rw [List.size_toArray]; simp only [nums_length, bools_length]; exact List.length_replicate) (all_nums _ _)) ?_
    replace hM : Mem w (W7.setRow g6 (nums .u8 ([1, 2, 4, 8, 16, 32, 64, 128] : List Int)).toArray) [⟨.pointer (some ⟨g6, 0, none⟩), 33, 0, nums .u8 ([1, 2, 4, 8, 16, 32, 64, 128] : List Int)⟩] := Mem.setAll [] [] (hM.pick [0] rfl rfl)
    generalize W7.setRow g6 (nums .u8 ([1, 2, 4, 8, 16, 32, 64, 128] : List Int)).toArray = W9 at hM ⊢
    refine RunF.go 2 [1, 2, 7, 8] (k' := (pl Go.Proofs.Tryd.f10 [1, 1, 1, 1, 0])) (L' := [(1, .int .i64 a1), (2, .int .u8 a2), (7, .int .i64 (I64 (1 + t5))), (8, .pointer (some ⟨g6, 0, none⟩))]) (w' := W9) (by kernel_rfl) ?_
    refine RunF.draw (Still ({ W9 with drawn := W9.drawn + 1 } : World) []) (by kernel_rfl) (by kernel_rfl) ?_
    have hMd11 := hM.drew
    have hS := Still.refl ({ W9 with drawn := W9.drawn + 1 } : World) []
    generalize ({ W9 with drawn := W9.drawn + 1 } : World) = W10 at hMd11 hS ⊢
    replace hM := hMd11
    refine RunAny.y 0 (by kernel_rfl) (yl_pure (d := some 15) (v := .int .i64 (I64 (1 + t5))) (k2 := [.inRegion (opsOf (pl Go.Proofs.Tryd.f10 [1, 1, 1, 1, 0])) []]) fun w => by kernel_rfl) (fun _ _ => trivial) hS ?_
    refine RunAny.y 1 (by kernel_rfl) (yl_pure (d := some 16) (v := .int .i64 a1) (k2 := [.inRegion (opsOf (pl Go.Proofs.Tryd.f10 [1, 1, 1, 1, 0])) []]) fun w => by kernel_rfl) (fun _ _ => trivial) hS ?_
    refine RunAny.y 3 (by kernel_rfl) (ldv_y (d := some 18) (g := g6) (N := 8) (ty := 33) (k2 := [.inRegion (opsOf (pl Go.Proofs.Tryd.f10 [1, 1, 1, 1, 0])) []]) (nums .u8 ([1, 2, 4, 8, 16, 32, 64, 128] : List Int)) (by kernel_rfl) (by simp only [nums_length, bools_length]; exact rfl)) (fun _ hs => hs.block (hM.block 0 rfl) (by simp)) hS ?_
    refine RunAny.y 4 (by kernel_rfl) (yl_pure (d := some 19) (v := .int .u8 a2) (k2 := [.inRegion (opsOf (pl Go.Proofs.Tryd.f10 [1, 1, 1, 1, 0])) []]) fun w => by kernel_rfl) (fun _ _ => trivial) hS ?_
    refine RunAny.y 7 (by kernel_rfl) (yl_pure (d := some 22) (v := .int .i64 (I64 (1 + t5))) (k2 := [.inRegion (opsOf (pl Go.Proofs.Tryd.f10 [1, 1, 1, 1, 0])) []]) fun w => by kernel_rfl) (fun _ _ => trivial) hS ?_
    refine RunAny.y 8 (by kernel_rfl) (yl_pure (d := some 23) (v := .int .i64 (Int.tmod (I64 (1 + t5)) 3)) (k2 := [.inRegion (opsOf (pl Go.Proofs.Tryd.f10 [1, 1, 1, 1, 0])) []]) fun w => by kernel_rfl) (fun _ _ => trivial) hS ?_
    refine RunAny.y 9 (by kernel_rfl) (yl_pure (d := some 24) (v := .bool ((Int.tmod (I64 (1 + t5)) 3) != 0)) (k2 := [.inRegion (opsOf (pl Go.Proofs.Tryd.f10 [1, 1, 1, 1, 0])) []]) fun w => by kernel_rfl) (fun _ _ => trivial) hS ?_
    obtain ⟨t13, ht13, h⟩ := Option.bind_eq_some_iff.mp h
    refine RunAny.call 2 (d := some 17) (g := 22) (args := #[.int .i64 a1]) (by kernel_rfl) (by kernel_rfl) (scrimlaw3_Mod.calls k a1 t13 _ ht13) (by rintro _ _ ⟨rfl, hM_⟩; exact hS.below hM_.below) ?_
    rintro _ W12 ⟨rfl, hM_⟩
    replace hS := hS.below hM_.below
    replace hM := hM.call hM_
    clear hM_ ht13
    refine RunAny.rebase hS ?_
    replace hS := Still.refl W12 []
    obtain ⟨t15, ht15, h⟩ := Option.bind_eq_some_iff.mp h
    refine RunAny.call 5 (d := some 20) (g := 23) (args := #[.int .i64 (I64 (1 + t5)), .int .i64 t13, .agg (nums .u8 ([1, 2, 4, 8, 16, 32, 64, 128] : List Int)).toArray, .int .u8 a2]) (by kernel_rfl) (by kernel_rfl) (box_Make.calls k (I64 (1 + t5)) t13 ([1, 2, 4, 8, 16, 32, 64, 128] : List Int) a2 t15 _ rfl (hG0.mono hM.below) ht15) (by rintro _ _ ⟨_, _, _, rfl, hM_⟩; exact hS.below hM_.below) ?_
    rintro _ W14 ⟨A16, n17, c18, rfl, hM_⟩
    obtain rfl : t15.length = n17 := by have h_ := (hM_.rd 0 rfl).1; simpa [nums_length, bools_length] using h_
    replace hS := hS.below hM_.below
    replace hM := hM.call hM_
    clear hM_ ht15
    refine RunAny.rebase hS ?_
    replace hS := Still.refl W14 []
    obtain ⟨t21, ht21, h⟩ := Option.bind_eq_some_iff.mp h
    refine RunAny.call 6 (d := some 21) (g := 17) (args := #[.slice A16 t15.length c18]) (by kernel_rfl) (by kernel_rfl) (box_Is.calls k A16 t15.length c18 t15 t21 _ (hM.rd 0 rfl) ht21) (by rintro _ _ ⟨rfl, hM_⟩; exact hS.below hM_.below) ?_
    rintro _ W20 ⟨rfl, hM_⟩
    replace hS := hS.below hM_.below
    replace hM := hM.call hM_
    clear hM_ ht21
    refine RunAny.rebase hS ?_
    replace hS := Still.refl W20 []
    refine RunAny.y 10 (by kernel_rfl) (yl_pure (d := some 25) (v := .bool ((Int.tmod (I64 (1 + t5)) 3) != 0)) (k2 := [.inRegion (opsOf (pl Go.Proofs.Tryd.f10 [1, 1, 1, 1, 0])) []]) fun w => by kernel_rfl) (fun _ _ => trivial) hS ?_
    rcases two (((Int.tmod (I64 (1 + t5)) 3) != 0)) with c22 | c22
    · replace h := of_true h c22
      refine RunAny.know 25 (b := true) (by kernel_rfl) c22 ?_
      refine RunAny.y 11 (by kernel_rfl) (yl_pure (d := some 26) (v := .int .i64 (I64 (1 + t5))) (k2 := [.inRegion (opsOf (pl Go.Proofs.Tryd.f10 [1, 1, 1, 1, 0])) []]) fun w => by kernel_rfl) (fun _ _ => trivial) hS ?_
      refine RunAny.y 12 (by kernel_rfl) (yl_pure (d := some 27) (v := .int .i64 (Int.tmod (I64 (1 + t5)) 5)) (k2 := [.inRegion (opsOf (pl Go.Proofs.Tryd.f10 [1, 1, 1, 1, 0])) []]) fun w => by kernel_rfl) (fun _ _ => trivial) hS ?_
      refine RunAny.y 13 (by kernel_rfl) (yl_pure (d := some 28) (v := .bool ((Int.tmod (I64 (1 + t5)) 5) != 0)) (k2 := [.inRegion (opsOf (pl Go.Proofs.Tryd.f10 [1, 1, 1, 1, 0])) []]) fun w => by kernel_rfl) (fun _ _ => trivial) hS ?_
      refine RunAny.y 14 (by kernel_rfl) (yl_pure (d := some 29) (v := .bool ((Int.tmod (I64 (1 + t5)) 5) != 0)) (k2 := [.inRegion (opsOf (pl Go.Proofs.Tryd.f10 [1, 1, 1, 1, 0])) []]) fun w => by kernel_rfl) (fun _ _ => trivial) hS ?_
      refine RunAny.y 15 (by kernel_rfl) (yl_pure (d := some 30) (v := .bool ((Int.tmod (I64 (1 + t5)) 5) != 0)) (k2 := [.inRegion (opsOf (pl Go.Proofs.Tryd.f10 [1, 1, 1, 1, 0])) []]) fun w => by kernel_rfl) (fun _ _ => trivial) hS ?_
      rcases two (((Int.tmod (I64 (1 + t5)) 5) != 0)) with c23 | c23
      · replace h := of_true h c23
        refine RunAny.know 30 (b := true) (by kernel_rfl) c23 ?_
        refine RunAny.y 16 (by kernel_rfl) (yl_pure (d := some 31) (v := .int .i64 (I64 (1 + t5))) (k2 := [.inRegion (opsOf (pl Go.Proofs.Tryd.f10 [1, 1, 1, 1, 0])) []]) fun w => by kernel_rfl) (fun _ _ => trivial) hS ?_
        refine RunAny.y 17 (by kernel_rfl) (yl_pure (d := some 32) (v := .int .i64 (Int.tmod (I64 (1 + t5)) 17)) (k2 := [.inRegion (opsOf (pl Go.Proofs.Tryd.f10 [1, 1, 1, 1, 0])) []]) fun w => by kernel_rfl) (fun _ _ => trivial) hS ?_
        refine RunAny.y 18 (by kernel_rfl) (yl_pure (d := some 33) (v := .bool ((Int.tmod (I64 (1 + t5)) 17) != 0)) (k2 := [.inRegion (opsOf (pl Go.Proofs.Tryd.f10 [1, 1, 1, 1, 0])) []]) fun w => by kernel_rfl) (fun _ _ => trivial) hS ?_
        refine RunAny.y 19 (by kernel_rfl) (yl_pure (d := some 34) (v := .bool ((Int.tmod (I64 (1 + t5)) 17) != 0)) (k2 := [.inRegion (opsOf (pl Go.Proofs.Tryd.f10 [1, 1, 1, 1, 0])) []]) fun w => by kernel_rfl) (fun _ _ => trivial) hS ?_
        refine RunAny.y 20 (by kernel_rfl) (yl_pure (d := some 35) (v := .bool (t21 == ((Int.tmod (I64 (1 + t5)) 17) != 0))) (k2 := [.inRegion (opsOf (pl Go.Proofs.Tryd.f10 [1, 1, 1, 1, 0])) []]) fun w => by kernel_rfl) (fun _ _ => trivial) hS ?_
        refine RunAny.y 21 (by kernel_rfl) (yl_pure (d := some 6) (v := .bool (t21 == ((Int.tmod (I64 (1 + t5)) 17) != 0))) (k2 := [.inRegion (opsOf (pl Go.Proofs.Tryd.f10 [1, 1, 1, 1, 0])) []]) fun w => by kernel_rfl) (fun _ _ => trivial) hS ?_
        refine RunAny.done (by kernel_rfl) ?_
        clear hS
        obtain rfl := Option.some.inj h
        exact RunF.ret1 6 (.bool (t21 == ((Int.tmod (I64 (1 + t5)) 17) != 0))) (fn := Go.Proofs.Tryd.f10) Go.Proofs.Tryd.func10 (by kernel_rfl) (by kernel_rfl) (by kernel_rfl) ⟨_, rfl, rfl, (hM.pick [] rfl rfl)⟩
      · replace h := of_false h c23
        refine RunAny.know 30 (b := false) (by kernel_rfl) c23 ?_
        refine RunAny.off 16 (d := some 31) (by kernel_rfl) (by kernel_rfl) hS ?_
        refine RunAny.off 17 (d := some 32) (by kernel_rfl) (by kernel_rfl) hS ?_
        refine RunAny.off 18 (d := some 33) (by kernel_rfl) (by kernel_rfl) hS ?_
        refine RunAny.y 19 (by kernel_rfl) (yl_pure (d := some 34) (v := .bool false) (k2 := [.inRegion (opsOf (pl Go.Proofs.Tryd.f10 [1, 1, 1, 1, 0])) []]) fun w => by kernel_rfl) (fun _ _ => trivial) hS ?_
        refine RunAny.y 20 (by kernel_rfl) (yl_pure (d := some 35) (v := .bool (t21 == false)) (k2 := [.inRegion (opsOf (pl Go.Proofs.Tryd.f10 [1, 1, 1, 1, 0])) []]) fun w => by kernel_rfl) (fun _ _ => trivial) hS ?_
        refine RunAny.y 21 (by kernel_rfl) (yl_pure (d := some 6) (v := .bool (t21 == false)) (k2 := [.inRegion (opsOf (pl Go.Proofs.Tryd.f10 [1, 1, 1, 1, 0])) []]) fun w => by kernel_rfl) (fun _ _ => trivial) hS ?_
        refine RunAny.done (by kernel_rfl) ?_
        clear hS
        obtain rfl := Option.some.inj h
        exact RunF.ret1 6 (.bool (t21 == false)) (fn := Go.Proofs.Tryd.f10) Go.Proofs.Tryd.func10 (by kernel_rfl) (by kernel_rfl) (by kernel_rfl) ⟨_, rfl, rfl, (hM.pick [] rfl rfl)⟩
    · replace h := of_false h c22
      refine RunAny.know 25 (b := false) (by kernel_rfl) c22 ?_
      refine RunAny.off 11 (d := some 26) (by kernel_rfl) (by kernel_rfl) hS ?_
      refine RunAny.off 12 (d := some 27) (by kernel_rfl) (by kernel_rfl) hS ?_
      refine RunAny.off 13 (d := some 28) (by kernel_rfl) (by kernel_rfl) hS ?_
      refine RunAny.y 14 (by kernel_rfl) (yl_pure (d := some 29) (v := .bool false) (k2 := [.inRegion (opsOf (pl Go.Proofs.Tryd.f10 [1, 1, 1, 1, 0])) []]) fun w => by kernel_rfl) (fun _ _ => trivial) hS ?_
      refine RunAny.y 15 (by kernel_rfl) (yl_pure (d := some 30) (v := .bool false) (k2 := [.inRegion (opsOf (pl Go.Proofs.Tryd.f10 [1, 1, 1, 1, 0])) []]) fun w => by kernel_rfl) (fun _ _ => trivial) hS ?_
      refine RunAny.off 16 (d := some 31) (by kernel_rfl) (by kernel_rfl) hS ?_
      refine RunAny.off 17 (d := some 32) (by kernel_rfl) (by kernel_rfl) hS ?_
      refine RunAny.off 18 (d := some 33) (by kernel_rfl) (by kernel_rfl) hS ?_
      refine RunAny.y 19 (by kernel_rfl) (yl_pure (d := some 34) (v := .bool false) (k2 := [.inRegion (opsOf (pl Go.Proofs.Tryd.f10 [1, 1, 1, 1, 0])) []]) fun w => by kernel_rfl) (fun _ _ => trivial) hS ?_
      refine RunAny.y 20 (by kernel_rfl) (yl_pure (d := some 35) (v := .bool (t21 == false)) (k2 := [.inRegion (opsOf (pl Go.Proofs.Tryd.f10 [1, 1, 1, 1, 0])) []]) fun w => by kernel_rfl) (fun _ _ => trivial) hS ?_
      refine RunAny.y 21 (by kernel_rfl) (yl_pure (d := some 6) (v := .bool (t21 == false)) (k2 := [.inRegion (opsOf (pl Go.Proofs.Tryd.f10 [1, 1, 1, 1, 0])) []]) fun w => by kernel_rfl) (fun _ _ => trivial) hS ?_
      refine RunAny.done (by kernel_rfl) ?_
      clear hS
      obtain rfl := Option.some.inj h
      exact RunF.ret1 6 (.bool (t21 == false)) (fn := Go.Proofs.Tryd.f10) Go.Proofs.Tryd.func10 (by kernel_rfl) (by kernel_rfl) (by kernel_rfl) ⟨_, rfl, rfl, (hM.pick [] rfl rfl)⟩


end Go.Scr.S
