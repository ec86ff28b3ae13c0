/- The functions that the law IdeaMul reaches, as plain functions, and that each call answers so. -/
import Derived.Test.YtdagooiakgnecaaProg
import Derived.Test.YtdagooiakgnecaaFnIdeaMul0
set_option linter.unusedVariables false
set_option linter.unusedSimpArgs false
set_option linter.unnecessarySimpa false
namespace Go.Scr.S
open Go.RowKit (Below)
/-! ### scrim/scrimref7.Keys: function 12 -/
mutual
def scrimref7_Keys.l0 : Nat → (List Int) → (List Int) → Option (List Int × Int)
  | 0, _, _ => none
  | k + 1, x0_0, x4_0 => if (decide ((x4_0.length : Int) < 52)) = true then (scrimref7_Keys.l1 k x0_0 x4_0 0) else (some (x4_0, 0))
def scrimref7_Keys.l1 : Nat → (List Int) → (List Int) → Int → Option (List Int × Int)
  | 0, _, _, _ => none
  | k + 1, x0_0, x4_1, x5_1 => if (decide (x5_1 < 16)) = true then (if (decide ((x4_1.length : Int) < 52)) = true then (if (decide (0 ≤ x5_1)) = true then (if (decide (x5_1 < (x0_0.length : Int))) = true then (if (decide (0 ≤ (I64 (x5_1 + 1)))) = true then (if (decide ((I64 (x5_1 + 1)) < (x0_0.length : Int))) = true then (if (decide (x4_1.length + ([bor .i64 (shl .i64 (I64 (rd x0_0 x5_1)) 8) (I64 (rd x0_0 (I64 (x5_1 + 1))))] : List Int).length ≤ 1000000000)) = true then (scrimref7_Keys.l1 k x0_0 (x4_1 ++ ([bor .i64 (shl .i64 (I64 (rd x0_0 x5_1)) 8) (I64 (rd x0_0 (I64 (x5_1 + 1))))] : List Int)) (I64 (x5_1 + 2))) else (none)) else (none)) else (none)) else (none)) else (none)) else ((scrimref1_Turn.f k x0_0 25).bind fun t27 => (scrimref7_Keys.l2 k t27 x4_1))) else ((scrimref1_Turn.f k x0_0 25).bind fun t68 => (scrimref7_Keys.l4 k t68 x4_1))
def scrimref7_Keys.l2 : Nat → (List Int) → (List Int) → Option (List Int × Int)
  | 0, _, _ => none
  | k + 1, x0_2, x4_2 => if (decide ((x4_2.length : Int) < 52)) = true then (scrimref7_Keys.l3 k x0_2 x4_2 0) else (some (x4_2, 0))
def scrimref7_Keys.l3 : Nat → (List Int) → (List Int) → Int → Option (List Int × Int)
  | 0, _, _, _ => none
  | k + 1, x0_2, x4_3, x5_3 => if (decide (x5_3 < 16)) = true then (if (decide ((x4_3.length : Int) < 52)) = true then (if (decide (0 ≤ x5_3)) = true then (if (decide (x5_3 < (x0_2.length : Int))) = true then (if (decide (0 ≤ (I64 (x5_3 + 1)))) = true then (if (decide ((I64 (x5_3 + 1)) < (x0_2.length : Int))) = true then (if (decide (x4_3.length + ([bor .i64 (shl .i64 (I64 (rd x0_2 x5_3)) 8) (I64 (rd x0_2 (I64 (x5_3 + 1))))] : List Int).length ≤ 1000000000)) = true then (scrimref7_Keys.l3 k x0_2 (x4_3 ++ ([bor .i64 (shl .i64 (I64 (rd x0_2 x5_3)) 8) (I64 (rd x0_2 (I64 (x5_3 + 1))))] : List Int)) (I64 (x5_3 + 2))) else (none)) else (none)) else (none)) else (none)) else (none)) else ((scrimref1_Turn.f k x0_2 25).bind fun t56 => (scrimref7_Keys.l2 k t56 x4_3))) else ((scrimref1_Turn.f k x0_2 25).bind fun t62 => (scrimref7_Keys.l2 k t62 x4_3))
def scrimref7_Keys.l4 : Nat → (List Int) → (List Int) → Option (List Int × Int)
  | 0, _, _ => none
  | k + 1, x0_4, x4_4 => if (decide ((x4_4.length : Int) < 52)) = true then (scrimref7_Keys.l5 k x0_4 x4_4 0) else (some (x4_4, 0))
def scrimref7_Keys.l5 : Nat → (List Int) → (List Int) → Int → Option (List Int × Int)
  | 0, _, _, _ => none
  | k + 1, x0_4, x4_5, x5_5 => if (decide (x5_5 < 16)) = true then (if (decide ((x4_5.length : Int) < 52)) = true then (if (decide (0 ≤ x5_5)) = true then (if (decide (x5_5 < (x0_4.length : Int))) = true then (if (decide (0 ≤ (I64 (x5_5 + 1)))) = true then (if (decide ((I64 (x5_5 + 1)) < (x0_4.length : Int))) = true then (if (decide (x4_5.length + ([bor .i64 (shl .i64 (I64 (rd x0_4 x5_5)) 8) (I64 (rd x0_4 (I64 (x5_5 + 1))))] : List Int).length ≤ 1000000000)) = true then (scrimref7_Keys.l5 k x0_4 (x4_5 ++ ([bor .i64 (shl .i64 (I64 (rd x0_4 x5_5)) 8) (I64 (rd x0_4 (I64 (x5_5 + 1))))] : List Int)) (I64 (x5_5 + 2))) else (none)) else (none)) else (none)) else (none)) else (none)) else ((scrimref1_Turn.f k x0_4 25).bind fun t97 => (scrimref7_Keys.l4 k t97 x4_5))) else ((scrimref1_Turn.f k x0_4 25).bind fun t103 => (scrimref7_Keys.l4 k t103 x4_5))
end
def scrimref7_Keys.f (k : Nat) (a0 : List Int) : Option (List Int × Int) := if ((a0.length : Int) != 16) = true then (some (([] : List Int), 4)) else (scrimref7_Keys.l0 k a0 ([] : List Int))
set_option maxRecDepth 100000 in
set_option maxHeartbeats 8000000 in
theorem scrimref7_Keys.calls (k : Nat) (Ap0 : Option Addr) (np0 cp0 : Nat) (a0 : List Int) (r : List Int × Int) (w : World) (hr0 : Rd w (.slice Ap0 np0 cp0) (nums .u8 a0)) (h : scrimref7_Keys.f k a0 = some r) :
    Calls Go.Proofs.Try.prog 12 #[(.slice Ap0 np0 cp0)] w (Ret fun v w' => ∃ A0' n0' c0', v = .tuple #[.slice A0' n0' c0', .int .i64 r.2] ∧ Mem w w' [⟨.slice A0' n0' c0', 3, 1, nums .i64 r.1⟩]) := by
  obtain rfl : a0.length = np0 := by have h_ := hr0.1; simpa [nums_length, bools_length, strs_length] using h_
  unfold scrimref7_Keys.f at h
  refine calls_of [.slice Ap0 a0.length cp0] (fn := Go.Proofs.Try.f12) Go.Proofs.Try.func12 (by kernel_rfl) (by kernel_rfl) ?_
  have hM := Mem.refl w
  refine RunF.go 12 [0, 8] (k' := (pl Go.Proofs.Try.f12 [1, 0, 1])) (L' := [(0, .slice Ap0 a0.length cp0), (8, .bool ((a0.length : Int) != 16))]) (w' := w) (by kernel_rfl) ?_
  rcases two (((a0.length : Int) != 16)) with c1 | c1
  · replace h := of_true h c1
    refine RunF.know 8 (b := true) (by kernel_rfl) c1 ?_
    refine RunF.go 6 [2, 3] (k' := (pl Go.Proofs.Try.f12 [1, 0, 1, 0, 1])) (L' := [(2, .slice none 0 0), (3, .int .i64 4)]) (w' := w) (by kernel_rfl) ?_
    replace hM := hM.nil 3
    obtain rfl := Option.some.inj h
    exact RunF.ret2 2 3 (.slice none 0 0) (.int .i64 4) (fn := Go.Proofs.Try.f12) Go.Proofs.Try.func12 (by kernel_rfl) (by kernel_rfl) (by kernel_rfl) (by kernel_rfl) ⟨_, rfl, none, 0, 0, rfl, (hM.pick [0] rfl rfl)⟩
  · replace h := of_false h c1
    refine RunF.know 8 (b := false) (by kernel_rfl) c1 ?_
    refine RunF.go 9 [0, 4] (k' := (pl Go.Proofs.Try.f12 [1, 1, 1, 0, 0, 0])) (L' := [(0, .slice Ap0 a0.length cp0), (4, .slice none 0 0)]) (w' := w) (by kernel_rfl) ?_
    replace hM := hM.nil 3
    have l0 : ∀ (k_ : Nat), k_ ≤ k → ∀ (A0_0 : Option Addr) (c0_0 : Nat) (x0_0 : List Int) (A4_0 : Option Addr) (c4_0 : Nat) (x4_0 : List Int) (W : World) (hM : Mem w W [⟨.slice A4_0 x4_0.length c4_0, 3, 1, nums .i64 x4_0⟩]) (hrx0_0 : Rd w (.slice A0_0 x0_0.length c0_0) (nums .u8 x0_0)) (h : scrimref7_Keys.l0 k_  x0_0 x4_0 = some r), RunF Go.Proofs.Try.prog (Ret fun v w' => ∃ A0' n0' c0', v = .tuple #[.slice A0' n0' c0', .int .i64 r.2] ∧ Mem w w' [⟨.slice A0' n0' c0', 3, 1, nums .i64 r.1⟩]) 12 (pl Go.Proofs.Try.f12 [1, 1, 1, 0, 0, 0]) 40 [(0, .slice A0_0 x0_0.length c0_0), (4, .slice A4_0 x4_0.length c4_0)] W := by
      intro k_
      induction k_ using Nat.strongRecOn with
      | _ k_ ih0 =>
        intro hk A0_0 c0_0 x0_0 A4_0 c4_0 x4_0 W hM hrx0_0 h
        cases k_ with
        | zero => exact absurd h (by simp [scrimref7_Keys.l0])
        | succ k =>
          simp only [scrimref7_Keys.l0] at h
          replace ih0 : ∀ m, m ≤ k → _ := fun m hm => ih0 m (by omega) (by omega)
          refine RunF.go 7 [0, 4, 11] (k' := (pl Go.Proofs.Try.f12 [1, 1, 1, 0, 0, 0, 0, 1])) (L' := [(0, .slice A0_0 x0_0.length c0_0), (4, .slice A4_0 x4_0.length c4_0), (11, .bool (decide ((x4_0.length : Int) < 52)))]) (w' := W) (by kernel_rfl) ?_
          rcases two (decide ((x4_0.length : Int) < 52)) with c5 | c5
          · replace h := of_true h c5
            refine RunF.know 11 (b := true) (by kernel_rfl) c5 ?_
            refine RunF.go 10 [0, 4, 5] (k' := (pl Go.Proofs.Try.f12 [1, 1, 1, 0, 0, 0, 1, 0, 0, 1, 0, 0])) (L' := [(0, .slice A0_0 x0_0.length c0_0), (4, .slice A4_0 x4_0.length c4_0), (5, .int .i64 0)]) (w' := W) (by kernel_rfl) ?_
            have l1 : ∀ (k_ : Nat), k_ ≤ k → ∀ (A4_1 : Option Addr) (c4_1 : Nat) (x4_1 : List Int) (x5_1 : Int) (W : World) (hM : Mem w W [⟨.slice A4_1 x4_1.length c4_1, 3, 1, nums .i64 x4_1⟩]) (h : scrimref7_Keys.l1 k_ x0_0 x4_1 x5_1 = some r), RunF Go.Proofs.Try.prog (Ret fun v w' => ∃ A0' n0' c0', v = .tuple #[.slice A0' n0' c0', .int .i64 r.2] ∧ Mem w w' [⟨.slice A0' n0' c0', 3, 1, nums .i64 r.1⟩]) 12 (pl Go.Proofs.Try.f12 [1, 1, 1, 0, 0, 0, 1, 0, 0, 1, 0, 0]) 40 [(0, .slice A0_0 x0_0.length c0_0), (4, .slice A4_1 x4_1.length c4_1), (5, .int .i64 x5_1)] W := by
              intro k_
              induction k_ using Nat.strongRecOn with
              | _ k_ ih1 =>
                intro hk A4_1 c4_1 x4_1 x5_1 W hM h
                cases k_ with
                | zero => exact absurd h (by simp [scrimref7_Keys.l1])
                | succ k =>
                  simp only [scrimref7_Keys.l1] at h
                  replace ih1 : ∀ m, m ≤ k → _ := fun m hm => ih1 m (by omega) (by omega)
                  replace ih0 : ∀ m, m ≤ k → _ := fun m hm => ih0 m (by omega)
                  refine RunF.go 6 [0, 4, 5, 14] (k' := (pin Go.Proofs.Try.f12 [1, 1, 1, 0, 0, 0, 1, 0, 0, 1, 0, 0, 0, 0] 3)) (L' := [(0, .slice A0_0 x0_0.length c0_0), (4, .slice A4_1 x4_1.length c4_1), (5, .int .i64 x5_1), (14, .bool (decide (x5_1 < 16)))]) (w' := W) (by kernel_rfl) ?_
                  rcases two (decide (x5_1 < 16)) with c7 | c7
                  · replace h := of_true h c7
                    refine RunF.know 14 (b := true) (by kernel_rfl) c7 ?_
                    refine RunF.go 5 [0, 4, 5, 18] (k' := (pl Go.Proofs.Try.f12 [1, 1, 1, 0, 0, 0, 1, 0, 0, 1, 0, 0, 0, 1])) (L' := [(0, .slice A0_0 x0_0.length c0_0), (4, .slice A4_1 x4_1.length c4_1), (5, .int .i64 x5_1), (18, .bool (decide ((x4_1.length : Int) < 52)))]) (w' := W) (by kernel_rfl) ?_
                    rcases two (decide ((x4_1.length : Int) < 52)) with c8 | c8
                    · replace h := of_true h c8
                      refine RunF.know 18 (b := true) (by kernel_rfl) c8 ?_
                      refine RunF.go 4 [0, 4, 5] (k' := (pl Go.Proofs.Try.f12 [1, 1, 1, 0, 0, 0, 1, 0, 0, 1, 0, 0, 1, 0, 0])) (L' := [(0, .slice A0_0 x0_0.length c0_0), (4, .slice A4_1 x4_1.length c4_1), (5, .int .i64 x5_1)]) (w' := W) (by kernel_rfl) ?_
                      refine RunF.draw (Still ({ W with drawn := W.drawn + 1 } : World) [.slice A4_1 x4_1.length c4_1]) (by kernel_rfl) (by kernel_rfl) ?_
                      have hMd10 := hM.drew
                      have hS := Still.refl ({ W with drawn := W.drawn + 1 } : World) [.slice A4_1 x4_1.length c4_1]
                      generalize ({ W with drawn := W.drawn + 1 } : World) = W9 at hMd10 hS ⊢
                      replace hM := hMd10
                      refine RunAny.y 0 (by kernel_rfl) (yl_pure (d := some 21) (v := .slice A4_1 x4_1.length c4_1) (k2 := [.inRegion (opsOf (pl Go.Proofs.Try.f12 [1, 1, 1, 0, 0, 0, 1, 0, 0, 1, 0, 0, 1, 0, 0])) []]) fun w => by kernel_rfl) (fun _ _ => trivial) hS ?_
                      refine RunAny.y 1 (by kernel_rfl) (yl_pure (d := some 22) (v := .slice A0_0 x0_0.length c0_0) (k2 := [.inRegion (opsOf (pl Go.Proofs.Try.f12 [1, 1, 1, 0, 0, 0, 1, 0, 0, 1, 0, 0, 1, 0, 0])) []]) fun w => by kernel_rfl) (fun _ _ => trivial) hS ?_
                      refine RunAny.y 2 (by kernel_rfl) (yl_pure (d := some 23) (v := .int .i64 x5_1) (k2 := [.inRegion (opsOf (pl Go.Proofs.Try.f12 [1, 1, 1, 0, 0, 0, 1, 0, 0, 1, 0, 0, 1, 0, 0])) []]) fun w => by kernel_rfl) (fun _ _ => trivial) hS ?_
                      rcases two (decide (0 ≤ x5_1)) with c12 | c12
                      · replace h := of_true h c12
                        rcases two (decide (x5_1 < (x0_0.length : Int))) with c13 | c13
                        · replace h := of_true h c13
                          obtain ⟨q11, hAq11, hiq11⟩ := Rd.num hrx0_0 (i := x5_1) (of_decide_eq_true c12) (by have h_ := of_decide_eq_true c13; omega)
                          have hcq11 := (hM.below.cell (World.block_lt_of_cell? _ _ hiq11)).trans hiq11
                          refine RunAny.y 3 (by kernel_rfl) (idx_y (d := some 24) (A := A0_0) (m := x0_0.length) (i := x5_1) (k2 := [.inRegion (opsOf (pl Go.Proofs.Try.f12 [1, 1, 1, 0, 0, 0, 1, 0, 0, 1, 0, 0, 1, 0, 0])) []]) (by kernel_rfl) (of_decide_eq_true c12) (by have h_ := of_decide_eq_true c13; omega) hAq11) (fun _ _ => trivial) hS ?_
                          refine RunAny.y 4 (by kernel_rfl) (ld_y (d := some 25) (p := (q11.add (x5_1 : Int).toNat)) (k2 := [.inRegion (opsOf (pl Go.Proofs.Try.f12 [1, 1, 1, 0, 0, 0, 1, 0, 0, 1, 0, 0, 1, 0, 0])) []]) (.int .u8 (rd x0_0 x5_1)) (by kernel_rfl)) (fun _ hs => hs.cell hcq11 (by intro v hv; simp only [List.mem_cons, List.not_mem_nil, or_false] at hv; rcases hv with rfl; exact (hM.far hiq11 0 rfl))) hS ?_
                          refine RunAny.y 5 (by kernel_rfl) (yl_pure (d := some 26) (v := .int .i64 (I64 (rd x0_0 x5_1))) (k2 := [.inRegion (opsOf (pl Go.Proofs.Try.f12 [1, 1, 1, 0, 0, 0, 1, 0, 0, 1, 0, 0, 1, 0, 0])) []]) fun w => by kernel_rfl) (fun _ _ => trivial) hS ?_
                          refine RunAny.y 6 (by kernel_rfl) (yl_pure (d := some 27) (v := .int .i64 (shl .i64 (I64 (rd x0_0 x5_1)) 8)) (k2 := [.inRegion (opsOf (pl Go.Proofs.Try.f12 [1, 1, 1, 0, 0, 0, 1, 0, 0, 1, 0, 0, 1, 0, 0])) []]) fun w => by kernel_rfl) (fun _ _ => trivial) hS ?_
                          refine RunAny.y 7 (by kernel_rfl) (yl_pure (d := some 28) (v := .slice A0_0 x0_0.length c0_0) (k2 := [.inRegion (opsOf (pl Go.Proofs.Try.f12 [1, 1, 1, 0, 0, 0, 1, 0, 0, 1, 0, 0, 1, 0, 0])) []]) fun w => by kernel_rfl) (fun _ _ => trivial) hS ?_
                          refine RunAny.y 8 (by kernel_rfl) (yl_pure (d := some 29) (v := .int .i64 x5_1) (k2 := [.inRegion (opsOf (pl Go.Proofs.Try.f12 [1, 1, 1, 0, 0, 0, 1, 0, 0, 1, 0, 0, 1, 0, 0])) []]) fun w => by kernel_rfl) (fun _ _ => trivial) hS ?_
                          refine RunAny.y 9 (by kernel_rfl) (yl_pure (d := some 30) (v := .int .i64 (I64 (x5_1 + 1))) (k2 := [.inRegion (opsOf (pl Go.Proofs.Try.f12 [1, 1, 1, 0, 0, 0, 1, 0, 0, 1, 0, 0, 1, 0, 0])) []]) fun w => by kernel_rfl) (fun _ _ => trivial) hS ?_
                          rcases two (decide (0 ≤ (I64 (x5_1 + 1)))) with c15 | c15
                          · replace h := of_true h c15
                            rcases two (decide ((I64 (x5_1 + 1)) < (x0_0.length : Int))) with c16 | c16
                            · replace h := of_true h c16
                              obtain ⟨q14, hAq14, hiq14⟩ := Rd.num hrx0_0 (i := I64 (x5_1 + 1)) (of_decide_eq_true c15) (by have h_ := of_decide_eq_true c16; omega)
                              have hcq14 := (hM.below.cell (World.block_lt_of_cell? _ _ hiq14)).trans hiq14
                              refine RunAny.y 10 (by kernel_rfl) (idx_y (d := some 31) (A := A0_0) (m := x0_0.length) (i := I64 (x5_1 + 1)) (k2 := [.inRegion (opsOf (pl Go.Proofs.Try.f12 [1, 1, 1, 0, 0, 0, 1, 0, 0, 1, 0, 0, 1, 0, 0])) []]) (by kernel_rfl) (of_decide_eq_true c15) (by have h_ := of_decide_eq_true c16; omega) hAq14) (fun _ _ => trivial) hS ?_
                              refine RunAny.y 11 (by kernel_rfl) (ld_y (d := some 32) (p := (q14.add (I64 (x5_1 + 1) : Int).toNat)) (k2 := [.inRegion (opsOf (pl Go.Proofs.Try.f12 [1, 1, 1, 0, 0, 0, 1, 0, 0, 1, 0, 0, 1, 0, 0])) []]) (.int .u8 (rd x0_0 (I64 (x5_1 + 1)))) (by kernel_rfl)) (fun _ hs => hs.cell hcq14 (by intro v hv; simp only [List.mem_cons, List.not_mem_nil, or_false] at hv; rcases hv with rfl; exact (hM.far hiq14 0 rfl))) hS ?_
                              refine RunAny.y 12 (by kernel_rfl) (yl_pure (d := some 33) (v := .int .i64 (I64 (rd x0_0 (I64 (x5_1 + 1))))) (k2 := [.inRegion (opsOf (pl Go.Proofs.Try.f12 [1, 1, 1, 0, 0, 0, 1, 0, 0, 1, 0, 0, 1, 0, 0])) []]) fun w => by kernel_rfl) (fun _ _ => trivial) hS ?_
                              refine RunAny.y 13 (by kernel_rfl) (yl_pure (d := some 34) (v := .int .i64 (bor .i64 (shl .i64 (I64 (rd x0_0 x5_1)) 8) (I64 (rd x0_0 (I64 (x5_1 + 1)))))) (k2 := [.inRegion (opsOf (pl Go.Proofs.Try.f12 [1, 1, 1, 0, 0, 0, 1, 0, 0, 1, 0, 0, 1, 0, 0])) []]) fun w => by kernel_rfl) (fun _ _ => trivial) hS ?_
                              refine RunAny.new 14 3 1 1 (nums .i64 [bor .i64 (shl .i64 (I64 (rd x0_0 x5_1)) 8) (I64 (rd x0_0 (I64 (x5_1 + 1))))]) (d := some 35) (k2 := [.inRegion (opsOf (pl Go.Proofs.Try.f12 [1, 1, 1, 0, 0, 0, 1, 0, 0, 1, 0, 0, 1, 0, 0])) []]) (by kernel_rfl) hM (by simp [nums, bools, strs]) (by kernel_rfl) (by kernel_rfl) hS ?_
                              intro g17 W18 hS hM
                              refine RunAny.rebase hS ?_
                              replace hS := Still.refl W18 [.slice A4_1 x4_1.length c4_1]
                              rcases two (decide (x4_1.length + ([bor .i64 (shl .i64 (I64 (rd x0_0 x5_1)) 8) (I64 (rd x0_0 (I64 (x5_1 + 1))))] : List Int).length ≤ 1000000000)) with c24 | c24
                              · replace h := of_true h c24
                                have h_ := of_decide_eq_true c24
                                obtain ⟨A20, n21, c22, W23, hD, hM', hS_⟩ := app_does (P := Go.Proofs.Try.prog) (n := 40) (k := (one (opsOf (pl Go.Proofs.Try.f12 [1, 1, 1, 0, 0, 0, 1, 0, 0, 1, 0, 0, 1, 0, 0])) 15)) (L := (upd (upd (upd (upd (upd (upd (upd (upd (upd (upd (upd (upd (upd (upd (upd [(0, .slice A0_0 x0_0.length c0_0), (4, .slice A4_1 x4_1.length c4_1), (5, .int .i64 x5_1)] (some 21) (.slice A4_1 x4_1.length c4_1)) (some 22) (.slice A0_0 x0_0.length c0_0)) (some 23) (.int .i64 x5_1)) (some 24) (.pointer (some (q11.add (x5_1 : Int).toNat)))) (some 25) (.int .u8 (rd x0_0 x5_1))) (some 26) (.int .i64 (I64 (rd x0_0 x5_1)))) (some 27) (.int .i64 (shl .i64 (I64 (rd x0_0 x5_1)) 8))) (some 28) (.slice A0_0 x0_0.length c0_0)) (some 29) (.int .i64 x5_1)) (some 30) (.int .i64 (I64 (x5_1 + 1)))) (some 31) (.pointer (some (q14.add (I64 (x5_1 + 1) : Int).toNat)))) (some 32) (.int .u8 (rd x0_0 (I64 (x5_1 + 1))))) (some 33) (.int .i64 (I64 (rd x0_0 (I64 (x5_1 + 1)))))) (some 34) (.int .i64 (bor .i64 (shl .i64 (I64 (rd x0_0 x5_1)) 8) (I64 (rd x0_0 (I64 (x5_1 + 1))))))) (some 35) (.slice (some ⟨g17, 0, none⟩) 1 1))) (d := some 36) (e := 3) (A := A4_1) (m := x4_1.length) (c := c4_1) (A2 := (some ⟨g17, 0, none⟩)) (m2 := 1) (c2 := 1) (cs := nums .i64 x4_1) (ys := nums .i64 ([bor .i64 (shl .i64 (I64 (rd x0_0 x5_1)) 8) (I64 (rd x0_0 (I64 (x5_1 + 1))))] : List Int)) (k2 := [.inRegion (opsOf (pl Go.Proofs.Try.f12 [1, 1, 1, 0, 0, 0, 1, 0, 0, 1, 0, 0, 1, 0, 0])) []]) [⟨.slice (some ⟨g17, 0, none⟩) 1 1, 3, 1, nums .i64 [bor .i64 (shl .i64 (I64 (rd x0_0 x5_1)) 8) (I64 (rd x0_0 (I64 (x5_1 + 1))))]⟩] [] (by kernel_rfl) (hM.pick [0, 1] rfl rfl) (hM.rd 0 rfl) (one_nums _ _) (by omega)
                                rw [nums_append] at hM'
                                replace hM := hM'; clear h_ hM'
                                obtain rfl : (x4_1 ++ ([bor .i64 (shl .i64 (I64 (rd x0_0 x5_1)) 8) (I64 (rd x0_0 (I64 (x5_1 + 1))))] : List Int)).length = n21 := by have h_ := (hM.rd 1 rfl).1; simpa only [nums_length, bools_length, strs_length] using h_
                                refine RunAny.does 15 (by kernel_rfl) hD (hS.app hS_ (by simp)) ?_
                                clear hD
                                replace hS := (hS.app hS_ (by simp)); clear hS_
                                refine RunAny.rebase hS ?_
                                replace hS := Still.refl W23 [.slice A4_1 x4_1.length c4_1]
                                refine RunAny.y 16 (by kernel_rfl) (yl_pure (d := some 4) (v := .slice A20 ((x4_1 ++ ([bor .i64 (shl .i64 (I64 (rd x0_0 x5_1)) 8) (I64 (rd x0_0 (I64 (x5_1 + 1))))] : List Int)).length) c22) (k2 := [.inRegion (opsOf (pl Go.Proofs.Try.f12 [1, 1, 1, 0, 0, 0, 1, 0, 0, 1, 0, 0, 1, 0, 0])) []]) fun w => by kernel_rfl) (fun _ _ => trivial) hS ?_
                                refine RunAny.done (by kernel_rfl) ?_
                                clear hS
                                refine RunF.go 7 [0, 4, 5] (k' := (pl Go.Proofs.Try.f12 [1, 1, 1, 0, 0, 0, 1, 0, 0, 1, 0, 0])) (L' := [(0, .slice A0_0 x0_0.length c0_0), (4, .slice A20 ((x4_1 ++ ([bor .i64 (shl .i64 (I64 (rd x0_0 x5_1)) 8) (I64 (rd x0_0 (I64 (x5_1 + 1))))] : List Int)).length) c22), (5, .int .i64 (I64 (x5_1 + 2)))]) (w' := W23) (by kernel_rfl) ?_
                                exact ih1 k (by omega) A20 c22 (x4_1 ++ ([bor .i64 (shl .i64 (I64 (rd x0_0 x5_1)) 8) (I64 (rd x0_0 (I64 (x5_1 + 1))))] : List Int)) (I64 (x5_1 + 2)) _ (hM.pick [1] rfl rfl) h
                              · replace h := of_false h c24
                                cases h
                            · replace h := of_false h c16
                              cases h
                          · replace h := of_false h c15
                            cases h
                        · replace h := of_false h c13
                          cases h
                      · replace h := of_false h c12
                        cases h
                    · replace h := of_false h c8
                      refine RunF.know 18 (b := false) (by kernel_rfl) c8 ?_
                      refine RunF.go 4 [4, 37] (k' := (pin Go.Proofs.Try.f12 [1, 1, 1, 0, 0, 0, 1, 0, 1] 1)) (L' := [(4, .slice A4_1 x4_1.length c4_1), (37, .slice A0_0 x0_0.length c0_0)]) (w' := W) (by kernel_rfl) ?_
                      obtain ⟨t27, ht27, h⟩ := Option.bind_eq_some_iff.mp h
                      refine RunF.call (d := some 38) (g := 22) (args := #[.slice A0_0 x0_0.length c0_0, .int .i64 25]) (k2 := (pin Go.Proofs.Try.f12 [1, 1, 1, 0, 0, 0, 1, 0, 1] 2)) (by kernel_rfl) (scrimref1_Turn.calls k A0_0 x0_0.length c0_0 x0_0 25 t27 _ (hrx0_0.mono hM.below) ht27) ?_
                      rintro _ W26 ⟨A28, n29, c30, rfl, hM_⟩
                      obtain rfl : t27.length = n29 := by have h_ := (hM_.rd 0 rfl).1; simpa [nums_length, bools_length, strs_length] using h_
                      replace hM := hM.call hM_
                      clear hM_ ht27
                      refine RunF.go 4 [0, 4] (k' := (pl Go.Proofs.Try.f12 [1, 1, 1, 0, 0, 0])) (L' := [(0, .slice A28 t27.length c30), (4, .slice A4_1 x4_1.length c4_1)]) (w' := W26) (by kernel_rfl) ?_
                      have l2 : ∀ (k_ : Nat), k_ ≤ k → ∀ (A0_2 : Option Addr) (c0_2 : Nat) (x0_2 : List Int) (A4_2 : Option Addr) (c4_2 : Nat) (x4_2 : List Int) (W : World) (hM : Mem w W [⟨.slice A0_2 x0_2.length c0_2, 5, 1, nums .u8 x0_2⟩, ⟨.slice A4_2 x4_2.length c4_2, 3, 1, nums .i64 x4_2⟩]) (h : scrimref7_Keys.l2 k_  x0_2 x4_2 = some r), RunF Go.Proofs.Try.prog (Ret fun v w' => ∃ A0' n0' c0', v = .tuple #[.slice A0' n0' c0', .int .i64 r.2] ∧ Mem w w' [⟨.slice A0' n0' c0', 3, 1, nums .i64 r.1⟩]) 12 (pl Go.Proofs.Try.f12 [1, 1, 1, 0, 0, 0]) 40 [(0, .slice A0_2 x0_2.length c0_2), (4, .slice A4_2 x4_2.length c4_2)] W := by
                        intro k_
                        induction k_ using Nat.strongRecOn with
                        | _ k_ ih2 =>
                          intro hk A0_2 c0_2 x0_2 A4_2 c4_2 x4_2 W hM h
                          cases k_ with
                          | zero => exact absurd h (by simp [scrimref7_Keys.l2])
                          | succ k =>
                            simp only [scrimref7_Keys.l2] at h
                            replace ih2 : ∀ m, m ≤ k → _ := fun m hm => ih2 m (by omega) (by omega)
                            replace ih0 : ∀ m, m ≤ k → _ := fun m hm => ih0 m (by omega)
                            replace ih1 : ∀ m, m ≤ k → _ := fun m hm => ih1 m (by omega)
                            refine RunF.go 7 [0, 4, 11] (k' := (pl Go.Proofs.Try.f12 [1, 1, 1, 0, 0, 0, 0, 1])) (L' := [(0, .slice A0_2 x0_2.length c0_2), (4, .slice A4_2 x4_2.length c4_2), (11, .bool (decide ((x4_2.length : Int) < 52)))]) (w' := W) (by kernel_rfl) ?_
                            rcases two (decide ((x4_2.length : Int) < 52)) with c34 | c34
                            · replace h := of_true h c34
                              refine RunF.know 11 (b := true) (by kernel_rfl) c34 ?_
                              refine RunF.go 10 [0, 4, 5] (k' := (pl Go.Proofs.Try.f12 [1, 1, 1, 0, 0, 0, 1, 0, 0, 1, 0, 0])) (L' := [(0, .slice A0_2 x0_2.length c0_2), (4, .slice A4_2 x4_2.length c4_2), (5, .int .i64 0)]) (w' := W) (by kernel_rfl) ?_
                              have l3 : ∀ (k_ : Nat), k_ ≤ k → ∀ (A4_3 : Option Addr) (c4_3 : Nat) (x4_3 : List Int) (x5_3 : Int) (W : World) (hM : Mem w W [⟨.slice A0_2 x0_2.length c0_2, 5, 1, nums .u8 x0_2⟩, ⟨.slice A4_3 x4_3.length c4_3, 3, 1, nums .i64 x4_3⟩]) (h : scrimref7_Keys.l3 k_ x0_2 x4_3 x5_3 = some r), RunF Go.Proofs.Try.prog (Ret fun v w' => ∃ A0' n0' c0', v = .tuple #[.slice A0' n0' c0', .int .i64 r.2] ∧ Mem w w' [⟨.slice A0' n0' c0', 3, 1, nums .i64 r.1⟩]) 12 (pl Go.Proofs.Try.f12 [1, 1, 1, 0, 0, 0, 1, 0, 0, 1, 0, 0]) 40 [(0, .slice A0_2 x0_2.length c0_2), (4, .slice A4_3 x4_3.length c4_3), (5, .int .i64 x5_3)] W := by
                                intro k_
                                induction k_ using Nat.strongRecOn with
                                | _ k_ ih3 =>
                                  intro hk A4_3 c4_3 x4_3 x5_3 W hM h
                                  cases k_ with
                                  | zero => exact absurd h (by simp [scrimref7_Keys.l3])
                                  | succ k =>
                                    simp only [scrimref7_Keys.l3] at h
                                    replace ih3 : ∀ m, m ≤ k → _ := fun m hm => ih3 m (by omega) (by omega)
                                    replace ih0 : ∀ m, m ≤ k → _ := fun m hm => ih0 m (by omega)
                                    replace ih1 : ∀ m, m ≤ k → _ := fun m hm => ih1 m (by omega)
                                    replace ih2 : ∀ m, m ≤ k → _ := fun m hm => ih2 m (by omega)
                                    refine RunF.go 6 [0, 4, 5, 14] (k' := (pin Go.Proofs.Try.f12 [1, 1, 1, 0, 0, 0, 1, 0, 0, 1, 0, 0, 0, 0] 3)) (L' := [(0, .slice A0_2 x0_2.length c0_2), (4, .slice A4_3 x4_3.length c4_3), (5, .int .i64 x5_3), (14, .bool (decide (x5_3 < 16)))]) (w' := W) (by kernel_rfl) ?_
                                    rcases two (decide (x5_3 < 16)) with c36 | c36
                                    · replace h := of_true h c36
                                      refine RunF.know 14 (b := true) (by kernel_rfl) c36 ?_
                                      refine RunF.go 5 [0, 4, 5, 18] (k' := (pl Go.Proofs.Try.f12 [1, 1, 1, 0, 0, 0, 1, 0, 0, 1, 0, 0, 0, 1])) (L' := [(0, .slice A0_2 x0_2.length c0_2), (4, .slice A4_3 x4_3.length c4_3), (5, .int .i64 x5_3), (18, .bool (decide ((x4_3.length : Int) < 52)))]) (w' := W) (by kernel_rfl) ?_
                                      rcases two (decide ((x4_3.length : Int) < 52)) with c37 | c37
                                      · replace h := of_true h c37
                                        refine RunF.know 18 (b := true) (by kernel_rfl) c37 ?_
                                        refine RunF.go 4 [0, 4, 5] (k' := (pl Go.Proofs.Try.f12 [1, 1, 1, 0, 0, 0, 1, 0, 0, 1, 0, 0, 1, 0, 0])) (L' := [(0, .slice A0_2 x0_2.length c0_2), (4, .slice A4_3 x4_3.length c4_3), (5, .int .i64 x5_3)]) (w' := W) (by kernel_rfl) ?_
                                        refine RunF.draw (Still ({ W with drawn := W.drawn + 1 } : World) [.slice A4_3 x4_3.length c4_3]) (by kernel_rfl) (by kernel_rfl) ?_
                                        have hMd39 := hM.drew
                                        have hS := Still.refl ({ W with drawn := W.drawn + 1 } : World) [.slice A4_3 x4_3.length c4_3]
                                        generalize ({ W with drawn := W.drawn + 1 } : World) = W38 at hMd39 hS ⊢
                                        replace hM := hMd39
                                        refine RunAny.y 0 (by kernel_rfl) (yl_pure (d := some 21) (v := .slice A4_3 x4_3.length c4_3) (k2 := [.inRegion (opsOf (pl Go.Proofs.Try.f12 [1, 1, 1, 0, 0, 0, 1, 0, 0, 1, 0, 0, 1, 0, 0])) []]) fun w => by kernel_rfl) (fun _ _ => trivial) hS ?_
                                        refine RunAny.y 1 (by kernel_rfl) (yl_pure (d := some 22) (v := .slice A0_2 x0_2.length c0_2) (k2 := [.inRegion (opsOf (pl Go.Proofs.Try.f12 [1, 1, 1, 0, 0, 0, 1, 0, 0, 1, 0, 0, 1, 0, 0])) []]) fun w => by kernel_rfl) (fun _ _ => trivial) hS ?_
                                        refine RunAny.y 2 (by kernel_rfl) (yl_pure (d := some 23) (v := .int .i64 x5_3) (k2 := [.inRegion (opsOf (pl Go.Proofs.Try.f12 [1, 1, 1, 0, 0, 0, 1, 0, 0, 1, 0, 0, 1, 0, 0])) []]) fun w => by kernel_rfl) (fun _ _ => trivial) hS ?_
                                        rcases two (decide (0 ≤ x5_3)) with c41 | c41
                                        · replace h := of_true h c41
                                          rcases two (decide (x5_3 < (x0_2.length : Int))) with c42 | c42
                                          · replace h := of_true h c42
                                            obtain ⟨q40, hAq40, hcq40, hfq40, hlq40⟩ := hM.num_at 0 rfl (i := x5_3) (of_decide_eq_true c41) (by have h_ := of_decide_eq_true c42; omega)
                                            refine RunAny.y 3 (by kernel_rfl) (idx_own (d := some 24) (A := A0_2) (m := x0_2.length) (i := x5_3) (k2 := [.inRegion (opsOf (pl Go.Proofs.Try.f12 [1, 1, 1, 0, 0, 0, 1, 0, 0, 1, 0, 0, 1, 0, 0])) []]) (by kernel_rfl) (of_decide_eq_true c41) (by have h_ := of_decide_eq_true c42; omega) hAq40) (fun _ _ => trivial) hS ?_
                                            refine RunAny.y 4 (by kernel_rfl) (ld_y (d := some 25) (p := ⟨q40, (x5_3 : Int).toNat, none⟩) (k2 := [.inRegion (opsOf (pl Go.Proofs.Try.f12 [1, 1, 1, 0, 0, 0, 1, 0, 0, 1, 0, 0, 1, 0, 0])) []]) (.int .u8 (rd x0_2 x5_3)) (by kernel_rfl)) (fun _ hs => hs.cell hcq40 (by intro v hv; simp only [List.mem_cons, List.not_mem_nil, or_false] at hv; rcases hv with rfl; exact (hM.ne 0 1 rfl rfl rfl (by rw [hAq40]; rfl)))) hS ?_
                                            refine RunAny.y 5 (by kernel_rfl) (yl_pure (d := some 26) (v := .int .i64 (I64 (rd x0_2 x5_3))) (k2 := [.inRegion (opsOf (pl Go.Proofs.Try.f12 [1, 1, 1, 0, 0, 0, 1, 0, 0, 1, 0, 0, 1, 0, 0])) []]) fun w => by kernel_rfl) (fun _ _ => trivial) hS ?_
                                            refine RunAny.y 6 (by kernel_rfl) (yl_pure (d := some 27) (v := .int .i64 (shl .i64 (I64 (rd x0_2 x5_3)) 8)) (k2 := [.inRegion (opsOf (pl Go.Proofs.Try.f12 [1, 1, 1, 0, 0, 0, 1, 0, 0, 1, 0, 0, 1, 0, 0])) []]) fun w => by kernel_rfl) (fun _ _ => trivial) hS ?_
                                            refine RunAny.y 7 (by kernel_rfl) (yl_pure (d := some 28) (v := .slice A0_2 x0_2.length c0_2) (k2 := [.inRegion (opsOf (pl Go.Proofs.Try.f12 [1, 1, 1, 0, 0, 0, 1, 0, 0, 1, 0, 0, 1, 0, 0])) []]) fun w => by kernel_rfl) (fun _ _ => trivial) hS ?_
                                            refine RunAny.y 8 (by kernel_rfl) (yl_pure (d := some 29) (v := .int .i64 x5_3) (k2 := [.inRegion (opsOf (pl Go.Proofs.Try.f12 [1, 1, 1, 0, 0, 0, 1, 0, 0, 1, 0, 0, 1, 0, 0])) []]) fun w => by kernel_rfl) (fun _ _ => trivial) hS ?_
                                            refine RunAny.y 9 (by kernel_rfl) (yl_pure (d := some 30) (v := .int .i64 (I64 (x5_3 + 1))) (k2 := [.inRegion (opsOf (pl Go.Proofs.Try.f12 [1, 1, 1, 0, 0, 0, 1, 0, 0, 1, 0, 0, 1, 0, 0])) []]) fun w => by kernel_rfl) (fun _ _ => trivial) hS ?_
                                            rcases two (decide (0 ≤ (I64 (x5_3 + 1)))) with c44 | c44
                                            · replace h := of_true h c44
                                              rcases two (decide ((I64 (x5_3 + 1)) < (x0_2.length : Int))) with c45 | c45
                                              · replace h := of_true h c45
                                                obtain ⟨q43, hAq43, hcq43, hfq43, hlq43⟩ := hM.num_at 0 rfl (i := I64 (x5_3 + 1)) (of_decide_eq_true c44) (by have h_ := of_decide_eq_true c45; omega)
                                                refine RunAny.y 10 (by kernel_rfl) (idx_own (d := some 31) (A := A0_2) (m := x0_2.length) (i := I64 (x5_3 + 1)) (k2 := [.inRegion (opsOf (pl Go.Proofs.Try.f12 [1, 1, 1, 0, 0, 0, 1, 0, 0, 1, 0, 0, 1, 0, 0])) []]) (by kernel_rfl) (of_decide_eq_true c44) (by have h_ := of_decide_eq_true c45; omega) hAq43) (fun _ _ => trivial) hS ?_
                                                refine RunAny.y 11 (by kernel_rfl) (ld_y (d := some 32) (p := ⟨q43, (I64 (x5_3 + 1) : Int).toNat, none⟩) (k2 := [.inRegion (opsOf (pl Go.Proofs.Try.f12 [1, 1, 1, 0, 0, 0, 1, 0, 0, 1, 0, 0, 1, 0, 0])) []]) (.int .u8 (rd x0_2 (I64 (x5_3 + 1)))) (by kernel_rfl)) (fun _ hs => hs.cell hcq43 (by intro v hv; simp only [List.mem_cons, List.not_mem_nil, or_false] at hv; rcases hv with rfl; exact (hM.ne 0 1 rfl rfl rfl (by rw [hAq43]; rfl)))) hS ?_
                                                refine RunAny.y 12 (by kernel_rfl) (yl_pure (d := some 33) (v := .int .i64 (I64 (rd x0_2 (I64 (x5_3 + 1))))) (k2 := [.inRegion (opsOf (pl Go.Proofs.Try.f12 [1, 1, 1, 0, 0, 0, 1, 0, 0, 1, 0, 0, 1, 0, 0])) []]) fun w => by kernel_rfl) (fun _ _ => trivial) hS ?_
                                                refine RunAny.y 13 (by kernel_rfl) (yl_pure (d := some 34) (v := .int .i64 (bor .i64 (shl .i64 (I64 (rd x0_2 x5_3)) 8) (I64 (rd x0_2 (I64 (x5_3 + 1)))))) (k2 := [.inRegion (opsOf (pl Go.Proofs.Try.f12 [1, 1, 1, 0, 0, 0, 1, 0, 0, 1, 0, 0, 1, 0, 0])) []]) fun w => by kernel_rfl) (fun _ _ => trivial) hS ?_
                                                refine RunAny.new 14 3 1 1 (nums .i64 [bor .i64 (shl .i64 (I64 (rd x0_2 x5_3)) 8) (I64 (rd x0_2 (I64 (x5_3 + 1))))]) (d := some 35) (k2 := [.inRegion (opsOf (pl Go.Proofs.Try.f12 [1, 1, 1, 0, 0, 0, 1, 0, 0, 1, 0, 0, 1, 0, 0])) []]) (by kernel_rfl) hM (by simp [nums, bools, strs]) (by kernel_rfl) (by kernel_rfl) hS ?_
                                                intro g46 W47 hS hM
                                                refine RunAny.rebase hS ?_
                                                replace hS := Still.refl W47 [.slice A4_3 x4_3.length c4_3]
                                                rcases two (decide (x4_3.length + ([bor .i64 (shl .i64 (I64 (rd x0_2 x5_3)) 8) (I64 (rd x0_2 (I64 (x5_3 + 1))))] : List Int).length ≤ 1000000000)) with c53 | c53
                                                · replace h := of_true h c53
                                                  have h_ := of_decide_eq_true c53
                                                  obtain ⟨A49, n50, c51, W52, hD, hM', hS_⟩ := app_does (P := Go.Proofs.Try.prog) (n := 40) (k := (one (opsOf (pl Go.Proofs.Try.f12 [1, 1, 1, 0, 0, 0, 1, 0, 0, 1, 0, 0, 1, 0, 0])) 15)) (L := (upd (upd (upd (upd (upd (upd (upd (upd (upd (upd (upd (upd (upd (upd (upd [(0, .slice A0_2 x0_2.length c0_2), (4, .slice A4_3 x4_3.length c4_3), (5, .int .i64 x5_3)] (some 21) (.slice A4_3 x4_3.length c4_3)) (some 22) (.slice A0_2 x0_2.length c0_2)) (some 23) (.int .i64 x5_3)) (some 24) (.pointer (some ⟨q40, (x5_3 : Int).toNat, none⟩))) (some 25) (.int .u8 (rd x0_2 x5_3))) (some 26) (.int .i64 (I64 (rd x0_2 x5_3)))) (some 27) (.int .i64 (shl .i64 (I64 (rd x0_2 x5_3)) 8))) (some 28) (.slice A0_2 x0_2.length c0_2)) (some 29) (.int .i64 x5_3)) (some 30) (.int .i64 (I64 (x5_3 + 1)))) (some 31) (.pointer (some ⟨q43, (I64 (x5_3 + 1) : Int).toNat, none⟩))) (some 32) (.int .u8 (rd x0_2 (I64 (x5_3 + 1))))) (some 33) (.int .i64 (I64 (rd x0_2 (I64 (x5_3 + 1)))))) (some 34) (.int .i64 (bor .i64 (shl .i64 (I64 (rd x0_2 x5_3)) 8) (I64 (rd x0_2 (I64 (x5_3 + 1))))))) (some 35) (.slice (some ⟨g46, 0, none⟩) 1 1))) (d := some 36) (e := 3) (A := A4_3) (m := x4_3.length) (c := c4_3) (A2 := (some ⟨g46, 0, none⟩)) (m2 := 1) (c2 := 1) (cs := nums .i64 x4_3) (ys := nums .i64 ([bor .i64 (shl .i64 (I64 (rd x0_2 x5_3)) 8) (I64 (rd x0_2 (I64 (x5_3 + 1))))] : List Int)) (k2 := [.inRegion (opsOf (pl Go.Proofs.Try.f12 [1, 1, 1, 0, 0, 0, 1, 0, 0, 1, 0, 0, 1, 0, 0])) []]) [⟨.slice (some ⟨g46, 0, none⟩) 1 1, 3, 1, nums .i64 [bor .i64 (shl .i64 (I64 (rd x0_2 x5_3)) 8) (I64 (rd x0_2 (I64 (x5_3 + 1))))]⟩, ⟨.slice A0_2 x0_2.length c0_2, 5, 1, nums .u8 x0_2⟩] [] (by kernel_rfl) (hM.pick [0, 1, 2] rfl rfl) (hM.rd 0 rfl) (one_nums _ _) (by omega)
                                                  rw [nums_append] at hM'
                                                  replace hM := hM'; clear h_ hM'
                                                  obtain rfl : (x4_3 ++ ([bor .i64 (shl .i64 (I64 (rd x0_2 x5_3)) 8) (I64 (rd x0_2 (I64 (x5_3 + 1))))] : List Int)).length = n50 := by have h_ := (hM.rd 2 rfl).1; simpa only [nums_length, bools_length, strs_length] using h_
                                                  refine RunAny.does 15 (by kernel_rfl) hD (hS.app hS_ (by simp)) ?_
                                                  clear hD
                                                  replace hS := (hS.app hS_ (by simp)); clear hS_
                                                  refine RunAny.rebase hS ?_
                                                  replace hS := Still.refl W52 [.slice A4_3 x4_3.length c4_3]
                                                  refine RunAny.y 16 (by kernel_rfl) (yl_pure (d := some 4) (v := .slice A49 ((x4_3 ++ ([bor .i64 (shl .i64 (I64 (rd x0_2 x5_3)) 8) (I64 (rd x0_2 (I64 (x5_3 + 1))))] : List Int)).length) c51) (k2 := [.inRegion (opsOf (pl Go.Proofs.Try.f12 [1, 1, 1, 0, 0, 0, 1, 0, 0, 1, 0, 0, 1, 0, 0])) []]) fun w => by kernel_rfl) (fun _ _ => trivial) hS ?_
                                                  refine RunAny.done (by kernel_rfl) ?_
                                                  clear hS
                                                  refine RunF.go 7 [0, 4, 5] (k' := (pl Go.Proofs.Try.f12 [1, 1, 1, 0, 0, 0, 1, 0, 0, 1, 0, 0])) (L' := [(0, .slice A0_2 x0_2.length c0_2), (4, .slice A49 ((x4_3 ++ ([bor .i64 (shl .i64 (I64 (rd x0_2 x5_3)) 8) (I64 (rd x0_2 (I64 (x5_3 + 1))))] : List Int)).length) c51), (5, .int .i64 (I64 (x5_3 + 2)))]) (w' := W52) (by kernel_rfl) ?_
                                                  exact ih3 k (by omega) A49 c51 (x4_3 ++ ([bor .i64 (shl .i64 (I64 (rd x0_2 x5_3)) 8) (I64 (rd x0_2 (I64 (x5_3 + 1))))] : List Int)) (I64 (x5_3 + 2)) _ (hM.pick [1, 2] rfl rfl) h
                                                · replace h := of_false h c53
                                                  cases h
                                              · replace h := of_false h c45
                                                cases h
                                            · replace h := of_false h c44
                                              cases h
                                          · replace h := of_false h c42
                                            cases h
                                        · replace h := of_false h c41
                                          cases h
                                      · replace h := of_false h c37
                                        refine RunF.know 18 (b := false) (by kernel_rfl) c37 ?_
                                        refine RunF.go 4 [4, 37] (k' := (pin Go.Proofs.Try.f12 [1, 1, 1, 0, 0, 0, 1, 0, 1] 1)) (L' := [(4, .slice A4_3 x4_3.length c4_3), (37, .slice A0_2 x0_2.length c0_2)]) (w' := W) (by kernel_rfl) ?_
                                        obtain ⟨t56, ht56, h⟩ := Option.bind_eq_some_iff.mp h
                                        refine RunF.call (d := some 38) (g := 22) (args := #[.slice A0_2 x0_2.length c0_2, .int .i64 25]) (k2 := (pin Go.Proofs.Try.f12 [1, 1, 1, 0, 0, 0, 1, 0, 1] 2)) (by kernel_rfl) (scrimref1_Turn.calls k A0_2 x0_2.length c0_2 x0_2 25 t56 _ (hM.rd 0 rfl) ht56) ?_
                                        rintro _ W55 ⟨A57, n58, c59, rfl, hM_⟩
                                        obtain rfl : t56.length = n58 := by have h_ := (hM_.rd 0 rfl).1; simpa [nums_length, bools_length, strs_length] using h_
                                        replace hM := hM.call hM_
                                        clear hM_ ht56
                                        refine RunF.go 4 [0, 4] (k' := (pl Go.Proofs.Try.f12 [1, 1, 1, 0, 0, 0])) (L' := [(0, .slice A57 t56.length c59), (4, .slice A4_3 x4_3.length c4_3)]) (w' := W55) (by kernel_rfl) ?_
                                        exact ih2 k (by omega) A57 c59 t56 A4_3 c4_3 x4_3 _ (hM.pick [0, 2] rfl rfl) h
                                    · replace h := of_false h c36
                                      refine RunF.know 14 (b := false) (by kernel_rfl) c36 ?_
                                      refine RunF.go 9 [4, 37] (k' := (pin Go.Proofs.Try.f12 [1, 1, 1, 0, 0, 0, 1, 0, 1] 1)) (L' := [(4, .slice A4_3 x4_3.length c4_3), (37, .slice A0_2 x0_2.length c0_2)]) (w' := W) (by kernel_rfl) ?_
                                      obtain ⟨t62, ht62, h⟩ := Option.bind_eq_some_iff.mp h
                                      refine RunF.call (d := some 38) (g := 22) (args := #[.slice A0_2 x0_2.length c0_2, .int .i64 25]) (k2 := (pin Go.Proofs.Try.f12 [1, 1, 1, 0, 0, 0, 1, 0, 1] 2)) (by kernel_rfl) (scrimref1_Turn.calls k A0_2 x0_2.length c0_2 x0_2 25 t62 _ (hM.rd 0 rfl) ht62) ?_
                                      rintro _ W61 ⟨A63, n64, c65, rfl, hM_⟩
                                      obtain rfl : t62.length = n64 := by have h_ := (hM_.rd 0 rfl).1; simpa [nums_length, bools_length, strs_length] using h_
                                      replace hM := hM.call hM_
                                      clear hM_ ht62
                                      refine RunF.go 4 [0, 4] (k' := (pl Go.Proofs.Try.f12 [1, 1, 1, 0, 0, 0])) (L' := [(0, .slice A63 t62.length c65), (4, .slice A4_3 x4_3.length c4_3)]) (w' := W61) (by kernel_rfl) ?_
                                      exact ih2 k (by omega) A63 c65 t62 A4_3 c4_3 x4_3 _ (hM.pick [0, 2] rfl rfl) h
                              exact l3 k (Nat.le_refl _) A4_2 c4_2 x4_2 0 _ (hM.pick [0, 1] rfl rfl) h
                            · replace h := of_false h c34
                              refine RunF.know 11 (b := false) (by kernel_rfl) c34 ?_
                              refine RunF.go 8 [2, 3] (k' := (pl Go.Proofs.Try.f12 [1, 1, 1, 1, 1])) (L' := [(2, .slice A4_2 x4_2.length c4_2), (3, .int .i64 0)]) (w' := W) (by kernel_rfl) ?_
                              obtain rfl := Option.some.inj h
                              exact RunF.ret2 2 3 (.slice A4_2 x4_2.length c4_2) (.int .i64 0) (fn := Go.Proofs.Try.f12) Go.Proofs.Try.func12 (by kernel_rfl) (by kernel_rfl) (by kernel_rfl) (by kernel_rfl) ⟨_, rfl, A4_2, x4_2.length, c4_2, rfl, (hM.pick [1] rfl rfl)⟩
                      exact l2 k (Nat.le_refl _) A28 c30 t27 A4_1 c4_1 x4_1 _ (hM.pick [0, 1] rfl rfl) h
                  · replace h := of_false h c7
                    refine RunF.know 14 (b := false) (by kernel_rfl) c7 ?_
                    refine RunF.go 9 [4, 37] (k' := (pin Go.Proofs.Try.f12 [1, 1, 1, 0, 0, 0, 1, 0, 1] 1)) (L' := [(4, .slice A4_1 x4_1.length c4_1), (37, .slice A0_0 x0_0.length c0_0)]) (w' := W) (by kernel_rfl) ?_
                    obtain ⟨t68, ht68, h⟩ := Option.bind_eq_some_iff.mp h
                    refine RunF.call (d := some 38) (g := 22) (args := #[.slice A0_0 x0_0.length c0_0, .int .i64 25]) (k2 := (pin Go.Proofs.Try.f12 [1, 1, 1, 0, 0, 0, 1, 0, 1] 2)) (by kernel_rfl) (scrimref1_Turn.calls k A0_0 x0_0.length c0_0 x0_0 25 t68 _ (hrx0_0.mono hM.below) ht68) ?_
                    rintro _ W67 ⟨A69, n70, c71, rfl, hM_⟩
                    obtain rfl : t68.length = n70 := by have h_ := (hM_.rd 0 rfl).1; simpa [nums_length, bools_length, strs_length] using h_
                    replace hM := hM.call hM_
                    clear hM_ ht68
                    refine RunF.go 4 [0, 4] (k' := (pl Go.Proofs.Try.f12 [1, 1, 1, 0, 0, 0])) (L' := [(0, .slice A69 t68.length c71), (4, .slice A4_1 x4_1.length c4_1)]) (w' := W67) (by kernel_rfl) ?_
                    have l4 : ∀ (k_ : Nat), k_ ≤ k → ∀ (A0_4 : Option Addr) (c0_4 : Nat) (x0_4 : List Int) (A4_4 : Option Addr) (c4_4 : Nat) (x4_4 : List Int) (W : World) (hM : Mem w W [⟨.slice A0_4 x0_4.length c0_4, 5, 1, nums .u8 x0_4⟩, ⟨.slice A4_4 x4_4.length c4_4, 3, 1, nums .i64 x4_4⟩]) (h : scrimref7_Keys.l4 k_  x0_4 x4_4 = some r), RunF Go.Proofs.Try.prog (Ret fun v w' => ∃ A0' n0' c0', v = .tuple #[.slice A0' n0' c0', .int .i64 r.2] ∧ Mem w w' [⟨.slice A0' n0' c0', 3, 1, nums .i64 r.1⟩]) 12 (pl Go.Proofs.Try.f12 [1, 1, 1, 0, 0, 0]) 40 [(0, .slice A0_4 x0_4.length c0_4), (4, .slice A4_4 x4_4.length c4_4)] W := by
                      intro k_
                      induction k_ using Nat.strongRecOn with
                      | _ k_ ih4 =>
                        intro hk A0_4 c0_4 x0_4 A4_4 c4_4 x4_4 W hM h
                        cases k_ with
                        | zero => exact absurd h (by simp [scrimref7_Keys.l4])
                        | succ k =>
                          simp only [scrimref7_Keys.l4] at h
                          replace ih4 : ∀ m, m ≤ k → _ := fun m hm => ih4 m (by omega) (by omega)
                          replace ih0 : ∀ m, m ≤ k → _ := fun m hm => ih0 m (by omega)
                          replace ih1 : ∀ m, m ≤ k → _ := fun m hm => ih1 m (by omega)
                          refine RunF.go 7 [0, 4, 11] (k' := (pl Go.Proofs.Try.f12 [1, 1, 1, 0, 0, 0, 0, 1])) (L' := [(0, .slice A0_4 x0_4.length c0_4), (4, .slice A4_4 x4_4.length c4_4), (11, .bool (decide ((x4_4.length : Int) < 52)))]) (w' := W) (by kernel_rfl) ?_
                          rcases two (decide ((x4_4.length : Int) < 52)) with c75 | c75
                          · replace h := of_true h c75
                            refine RunF.know 11 (b := true) (by kernel_rfl) c75 ?_
                            refine RunF.go 10 [0, 4, 5] (k' := (pl Go.Proofs.Try.f12 [1, 1, 1, 0, 0, 0, 1, 0, 0, 1, 0, 0])) (L' := [(0, .slice A0_4 x0_4.length c0_4), (4, .slice A4_4 x4_4.length c4_4), (5, .int .i64 0)]) (w' := W) (by kernel_rfl) ?_
                            have l5 : ∀ (k_ : Nat), k_ ≤ k → ∀ (A4_5 : Option Addr) (c4_5 : Nat) (x4_5 : List Int) (x5_5 : Int) (W : World) (hM : Mem w W [⟨.slice A0_4 x0_4.length c0_4, 5, 1, nums .u8 x0_4⟩, ⟨.slice A4_5 x4_5.length c4_5, 3, 1, nums .i64 x4_5⟩]) (h : scrimref7_Keys.l5 k_ x0_4 x4_5 x5_5 = some r), RunF Go.Proofs.Try.prog (Ret fun v w' => ∃ A0' n0' c0', v = .tuple #[.slice A0' n0' c0', .int .i64 r.2] ∧ Mem w w' [⟨.slice A0' n0' c0', 3, 1, nums .i64 r.1⟩]) 12 (pl Go.Proofs.Try.f12 [1, 1, 1, 0, 0, 0, 1, 0, 0, 1, 0, 0]) 40 [(0, .slice A0_4 x0_4.length c0_4), (4, .slice A4_5 x4_5.length c4_5), (5, .int .i64 x5_5)] W := by
                              intro k_
                              induction k_ using Nat.strongRecOn with
                              | _ k_ ih5 =>
                                intro hk A4_5 c4_5 x4_5 x5_5 W hM h
                                cases k_ with
                                | zero => exact absurd h (by simp [scrimref7_Keys.l5])
                                | succ k =>
                                  simp only [scrimref7_Keys.l5] at h
                                  replace ih5 : ∀ m, m ≤ k → _ := fun m hm => ih5 m (by omega) (by omega)
                                  replace ih0 : ∀ m, m ≤ k → _ := fun m hm => ih0 m (by omega)
                                  replace ih1 : ∀ m, m ≤ k → _ := fun m hm => ih1 m (by omega)
                                  replace ih4 : ∀ m, m ≤ k → _ := fun m hm => ih4 m (by omega)
                                  refine RunF.go 6 [0, 4, 5, 14] (k' := (pin Go.Proofs.Try.f12 [1, 1, 1, 0, 0, 0, 1, 0, 0, 1, 0, 0, 0, 0] 3)) (L' := [(0, .slice A0_4 x0_4.length c0_4), (4, .slice A4_5 x4_5.length c4_5), (5, .int .i64 x5_5), (14, .bool (decide (x5_5 < 16)))]) (w' := W) (by kernel_rfl) ?_
                                  rcases two (decide (x5_5 < 16)) with c77 | c77
                                  · replace h := of_true h c77
                                    refine RunF.know 14 (b := true) (by kernel_rfl) c77 ?_
                                    refine RunF.go 5 [0, 4, 5, 18] (k' := (pl Go.Proofs.Try.f12 [1, 1, 1, 0, 0, 0, 1, 0, 0, 1, 0, 0, 0, 1])) (L' := [(0, .slice A0_4 x0_4.length c0_4), (4, .slice A4_5 x4_5.length c4_5), (5, .int .i64 x5_5), (18, .bool (decide ((x4_5.length : Int) < 52)))]) (w' := W) (by kernel_rfl) ?_
                                    rcases two (decide ((x4_5.length : Int) < 52)) with c78 | c78
                                    · replace h := of_true h c78
                                      refine RunF.know 18 (b := true) (by kernel_rfl) c78 ?_
                                      refine RunF.go 4 [0, 4, 5] (k' := (pl Go.Proofs.Try.f12 [1, 1, 1, 0, 0, 0, 1, 0, 0, 1, 0, 0, 1, 0, 0])) (L' := [(0, .slice A0_4 x0_4.length c0_4), (4, .slice A4_5 x4_5.length c4_5), (5, .int .i64 x5_5)]) (w' := W) (by kernel_rfl) ?_
                                      refine RunF.draw (Still ({ W with drawn := W.drawn + 1 } : World) [.slice A4_5 x4_5.length c4_5]) (by kernel_rfl) (by kernel_rfl) ?_
                                      have hMd80 := hM.drew
                                      have hS := Still.refl ({ W with drawn := W.drawn + 1 } : World) [.slice A4_5 x4_5.length c4_5]
                                      generalize ({ W with drawn := W.drawn + 1 } : World) = W79 at hMd80 hS ⊢
                                      replace hM := hMd80
                                      refine RunAny.y 0 (by kernel_rfl) (yl_pure (d := some 21) (v := .slice A4_5 x4_5.length c4_5) (k2 := [.inRegion (opsOf (pl Go.Proofs.Try.f12 [1, 1, 1, 0, 0, 0, 1, 0, 0, 1, 0, 0, 1, 0, 0])) []]) fun w => by kernel_rfl) (fun _ _ => trivial) hS ?_
                                      refine RunAny.y 1 (by kernel_rfl) (yl_pure (d := some 22) (v := .slice A0_4 x0_4.length c0_4) (k2 := [.inRegion (opsOf (pl Go.Proofs.Try.f12 [1, 1, 1, 0, 0, 0, 1, 0, 0, 1, 0, 0, 1, 0, 0])) []]) fun w => by kernel_rfl) (fun _ _ => trivial) hS ?_
                                      refine RunAny.y 2 (by kernel_rfl) (yl_pure (d := some 23) (v := .int .i64 x5_5) (k2 := [.inRegion (opsOf (pl Go.Proofs.Try.f12 [1, 1, 1, 0, 0, 0, 1, 0, 0, 1, 0, 0, 1, 0, 0])) []]) fun w => by kernel_rfl) (fun _ _ => trivial) hS ?_
                                      rcases two (decide (0 ≤ x5_5)) with c82 | c82
                                      · replace h := of_true h c82
                                        rcases two (decide (x5_5 < (x0_4.length : Int))) with c83 | c83
                                        · replace h := of_true h c83
                                          obtain ⟨q81, hAq81, hcq81, hfq81, hlq81⟩ := hM.num_at 0 rfl (i := x5_5) (of_decide_eq_true c82) (by have h_ := of_decide_eq_true c83; omega)
                                          refine RunAny.y 3 (by kernel_rfl) (idx_own (d := some 24) (A := A0_4) (m := x0_4.length) (i := x5_5) (k2 := [.inRegion (opsOf (pl Go.Proofs.Try.f12 [1, 1, 1, 0, 0, 0, 1, 0, 0, 1, 0, 0, 1, 0, 0])) []]) (by kernel_rfl) (of_decide_eq_true c82) (by have h_ := of_decide_eq_true c83; omega) hAq81) (fun _ _ => trivial) hS ?_
                                          refine RunAny.y 4 (by kernel_rfl) (ld_y (d := some 25) (p := ⟨q81, (x5_5 : Int).toNat, none⟩) (k2 := [.inRegion (opsOf (pl Go.Proofs.Try.f12 [1, 1, 1, 0, 0, 0, 1, 0, 0, 1, 0, 0, 1, 0, 0])) []]) (.int .u8 (rd x0_4 x5_5)) (by kernel_rfl)) (fun _ hs => hs.cell hcq81 (by intro v hv; simp only [List.mem_cons, List.not_mem_nil, or_false] at hv; rcases hv with rfl; exact (hM.ne 0 1 rfl rfl rfl (by rw [hAq81]; rfl)))) hS ?_
                                          refine RunAny.y 5 (by kernel_rfl) (yl_pure (d := some 26) (v := .int .i64 (I64 (rd x0_4 x5_5))) (k2 := [.inRegion (opsOf (pl Go.Proofs.Try.f12 [1, 1, 1, 0, 0, 0, 1, 0, 0, 1, 0, 0, 1, 0, 0])) []]) fun w => by kernel_rfl) (fun _ _ => trivial) hS ?_
                                          refine RunAny.y 6 (by kernel_rfl) (yl_pure (d := some 27) (v := .int .i64 (shl .i64 (I64 (rd x0_4 x5_5)) 8)) (k2 := [.inRegion (opsOf (pl Go.Proofs.Try.f12 [1, 1, 1, 0, 0, 0, 1, 0, 0, 1, 0, 0, 1, 0, 0])) []]) fun w => by kernel_rfl) (fun _ _ => trivial) hS ?_
                                          refine RunAny.y 7 (by kernel_rfl) (yl_pure (d := some 28) (v := .slice A0_4 x0_4.length c0_4) (k2 := [.inRegion (opsOf (pl Go.Proofs.Try.f12 [1, 1, 1, 0, 0, 0, 1, 0, 0, 1, 0, 0, 1, 0, 0])) []]) fun w => by kernel_rfl) (fun _ _ => trivial) hS ?_
                                          refine RunAny.y 8 (by kernel_rfl) (yl_pure (d := some 29) (v := .int .i64 x5_5) (k2 := [.inRegion (opsOf (pl Go.Proofs.Try.f12 [1, 1, 1, 0, 0, 0, 1, 0, 0, 1, 0, 0, 1, 0, 0])) []]) fun w => by kernel_rfl) (fun _ _ => trivial) hS ?_
                                          refine RunAny.y 9 (by kernel_rfl) (yl_pure (d := some 30) (v := .int .i64 (I64 (x5_5 + 1))) (k2 := [.inRegion (opsOf (pl Go.Proofs.Try.f12 [1, 1, 1, 0, 0, 0, 1, 0, 0, 1, 0, 0, 1, 0, 0])) []]) fun w => by kernel_rfl) (fun _ _ => trivial) hS ?_
                                          rcases two (decide (0 ≤ (I64 (x5_5 + 1)))) with c85 | c85
                                          · replace h := of_true h c85
                                            rcases two (decide ((I64 (x5_5 + 1)) < (x0_4.length : Int))) with c86 | c86
                                            · replace h := of_true h c86
                                              obtain ⟨q84, hAq84, hcq84, hfq84, hlq84⟩ := hM.num_at 0 rfl (i := I64 (x5_5 + 1)) (of_decide_eq_true c85) (by have h_ := of_decide_eq_true c86; omega)
                                              refine RunAny.y 10 (by kernel_rfl) (idx_own (d := some 31) (A := A0_4) (m := x0_4.length) (i := I64 (x5_5 + 1)) (k2 := [.inRegion (opsOf (pl Go.Proofs.Try.f12 [1, 1, 1, 0, 0, 0, 1, 0, 0, 1, 0, 0, 1, 0, 0])) []]) (by kernel_rfl) (of_decide_eq_true c85) (by have h_ := of_decide_eq_true c86; omega) hAq84) (fun _ _ => trivial) hS ?_
                                              refine RunAny.y 11 (by kernel_rfl) (ld_y (d := some 32) (p := ⟨q84, (I64 (x5_5 + 1) : Int).toNat, none⟩) (k2 := [.inRegion (opsOf (pl Go.Proofs.Try.f12 [1, 1, 1, 0, 0, 0, 1, 0, 0, 1, 0, 0, 1, 0, 0])) []]) (.int .u8 (rd x0_4 (I64 (x5_5 + 1)))) (by kernel_rfl)) (fun _ hs => hs.cell hcq84 (by intro v hv; simp only [List.mem_cons, List.not_mem_nil, or_false] at hv; rcases hv with rfl; exact (hM.ne 0 1 rfl rfl rfl (by rw [hAq84]; rfl)))) hS ?_
                                              refine RunAny.y 12 (by kernel_rfl) (yl_pure (d := some 33) (v := .int .i64 (I64 (rd x0_4 (I64 (x5_5 + 1))))) (k2 := [.inRegion (opsOf (pl Go.Proofs.Try.f12 [1, 1, 1, 0, 0, 0, 1, 0, 0, 1, 0, 0, 1, 0, 0])) []]) fun w => by kernel_rfl) (fun _ _ => trivial) hS ?_
                                              refine RunAny.y 13 (by kernel_rfl) (yl_pure (d := some 34) (v := .int .i64 (bor .i64 (shl .i64 (I64 (rd x0_4 x5_5)) 8) (I64 (rd x0_4 (I64 (x5_5 + 1)))))) (k2 := [.inRegion (opsOf (pl Go.Proofs.Try.f12 [1, 1, 1, 0, 0, 0, 1, 0, 0, 1, 0, 0, 1, 0, 0])) []]) fun w => by kernel_rfl) (fun _ _ => trivial) hS ?_
                                              refine RunAny.new 14 3 1 1 (nums .i64 [bor .i64 (shl .i64 (I64 (rd x0_4 x5_5)) 8) (I64 (rd x0_4 (I64 (x5_5 + 1))))]) (d := some 35) (k2 := [.inRegion (opsOf (pl Go.Proofs.Try.f12 [1, 1, 1, 0, 0, 0, 1, 0, 0, 1, 0, 0, 1, 0, 0])) []]) (by kernel_rfl) hM (by simp [nums, bools, strs]) (by kernel_rfl) (by kernel_rfl) hS ?_
                                              intro g87 W88 hS hM
                                              refine RunAny.rebase hS ?_
                                              replace hS := Still.refl W88 [.slice A4_5 x4_5.length c4_5]
                                              rcases two (decide (x4_5.length + ([bor .i64 (shl .i64 (I64 (rd x0_4 x5_5)) 8) (I64 (rd x0_4 (I64 (x5_5 + 1))))] : List Int).length ≤ 1000000000)) with c94 | c94
                                              · replace h := of_true h c94
                                                have h_ := of_decide_eq_true c94
                                                obtain ⟨A90, n91, c92, W93, hD, hM', hS_⟩ := app_does (P := Go.Proofs.Try.prog) (n := 40) (k := (one (opsOf (pl Go.Proofs.Try.f12 [1, 1, 1, 0, 0, 0, 1, 0, 0, 1, 0, 0, 1, 0, 0])) 15)) (L := (upd (upd (upd (upd (upd (upd (upd (upd (upd (upd (upd (upd (upd (upd (upd [(0, .slice A0_4 x0_4.length c0_4), (4, .slice A4_5 x4_5.length c4_5), (5, .int .i64 x5_5)] (some 21) (.slice A4_5 x4_5.length c4_5)) (some 22) (.slice A0_4 x0_4.length c0_4)) (some 23) (.int .i64 x5_5)) (some 24) (.pointer (some ⟨q81, (x5_5 : Int).toNat, none⟩))) (some 25) (.int .u8 (rd x0_4 x5_5))) (some 26) (.int .i64 (I64 (rd x0_4 x5_5)))) (some 27) (.int .i64 (shl .i64 (I64 (rd x0_4 x5_5)) 8))) (some 28) (.slice A0_4 x0_4.length c0_4)) (some 29) (.int .i64 x5_5)) (some 30) (.int .i64 (I64 (x5_5 + 1)))) (some 31) (.pointer (some ⟨q84, (I64 (x5_5 + 1) : Int).toNat, none⟩))) (some 32) (.int .u8 (rd x0_4 (I64 (x5_5 + 1))))) (some 33) (.int .i64 (I64 (rd x0_4 (I64 (x5_5 + 1)))))) (some 34) (.int .i64 (bor .i64 (shl .i64 (I64 (rd x0_4 x5_5)) 8) (I64 (rd x0_4 (I64 (x5_5 + 1))))))) (some 35) (.slice (some ⟨g87, 0, none⟩) 1 1))) (d := some 36) (e := 3) (A := A4_5) (m := x4_5.length) (c := c4_5) (A2 := (some ⟨g87, 0, none⟩)) (m2 := 1) (c2 := 1) (cs := nums .i64 x4_5) (ys := nums .i64 ([bor .i64 (shl .i64 (I64 (rd x0_4 x5_5)) 8) (I64 (rd x0_4 (I64 (x5_5 + 1))))] : List Int)) (k2 := [.inRegion (opsOf (pl Go.Proofs.Try.f12 [1, 1, 1, 0, 0, 0, 1, 0, 0, 1, 0, 0, 1, 0, 0])) []]) [⟨.slice (some ⟨g87, 0, none⟩) 1 1, 3, 1, nums .i64 [bor .i64 (shl .i64 (I64 (rd x0_4 x5_5)) 8) (I64 (rd x0_4 (I64 (x5_5 + 1))))]⟩, ⟨.slice A0_4 x0_4.length c0_4, 5, 1, nums .u8 x0_4⟩] [] (by kernel_rfl) (hM.pick [0, 1, 2] rfl rfl) (hM.rd 0 rfl) (one_nums _ _) (by omega)
                                                rw [nums_append] at hM'
                                                replace hM := hM'; clear h_ hM'
                                                obtain rfl : (x4_5 ++ ([bor .i64 (shl .i64 (I64 (rd x0_4 x5_5)) 8) (I64 (rd x0_4 (I64 (x5_5 + 1))))] : List Int)).length = n91 := by have h_ := (hM.rd 2 rfl).1; simpa only [nums_length, bools_length, strs_length] using h_
                                                refine RunAny.does 15 (by kernel_rfl) hD (hS.app hS_ (by simp)) ?_
                                                clear hD
                                                replace hS := (hS.app hS_ (by simp)); clear hS_
                                                refine RunAny.rebase hS ?_
                                                replace hS := Still.refl W93 [.slice A4_5 x4_5.length c4_5]
                                                refine RunAny.y 16 (by kernel_rfl) (yl_pure (d := some 4) (v := .slice A90 ((x4_5 ++ ([bor .i64 (shl .i64 (I64 (rd x0_4 x5_5)) 8) (I64 (rd x0_4 (I64 (x5_5 + 1))))] : List Int)).length) c92) (k2 := [.inRegion (opsOf (pl Go.Proofs.Try.f12 [1, 1, 1, 0, 0, 0, 1, 0, 0, 1, 0, 0, 1, 0, 0])) []]) fun w => by kernel_rfl) (fun _ _ => trivial) hS ?_
                                                refine RunAny.done (by kernel_rfl) ?_
                                                clear hS
                                                refine RunF.go 7 [0, 4, 5] (k' := (pl Go.Proofs.Try.f12 [1, 1, 1, 0, 0, 0, 1, 0, 0, 1, 0, 0])) (L' := [(0, .slice A0_4 x0_4.length c0_4), (4, .slice A90 ((x4_5 ++ ([bor .i64 (shl .i64 (I64 (rd x0_4 x5_5)) 8) (I64 (rd x0_4 (I64 (x5_5 + 1))))] : List Int)).length) c92), (5, .int .i64 (I64 (x5_5 + 2)))]) (w' := W93) (by kernel_rfl) ?_
                                                exact ih5 k (by omega) A90 c92 (x4_5 ++ ([bor .i64 (shl .i64 (I64 (rd x0_4 x5_5)) 8) (I64 (rd x0_4 (I64 (x5_5 + 1))))] : List Int)) (I64 (x5_5 + 2)) _ (hM.pick [1, 2] rfl rfl) h
                                              · replace h := of_false h c94
                                                cases h
                                            · replace h := of_false h c86
                                              cases h
                                          · replace h := of_false h c85
                                            cases h
                                        · replace h := of_false h c83
                                          cases h
                                      · replace h := of_false h c82
                                        cases h
                                    · replace h := of_false h c78
                                      refine RunF.know 18 (b := false) (by kernel_rfl) c78 ?_
                                      refine RunF.go 4 [4, 37] (k' := (pin Go.Proofs.Try.f12 [1, 1, 1, 0, 0, 0, 1, 0, 1] 1)) (L' := [(4, .slice A4_5 x4_5.length c4_5), (37, .slice A0_4 x0_4.length c0_4)]) (w' := W) (by kernel_rfl) ?_
                                      obtain ⟨t97, ht97, h⟩ := Option.bind_eq_some_iff.mp h
                                      refine RunF.call (d := some 38) (g := 22) (args := #[.slice A0_4 x0_4.length c0_4, .int .i64 25]) (k2 := (pin Go.Proofs.Try.f12 [1, 1, 1, 0, 0, 0, 1, 0, 1] 2)) (by kernel_rfl) (scrimref1_Turn.calls k A0_4 x0_4.length c0_4 x0_4 25 t97 _ (hM.rd 0 rfl) ht97) ?_
                                      rintro _ W96 ⟨A98, n99, c100, rfl, hM_⟩
                                      obtain rfl : t97.length = n99 := by have h_ := (hM_.rd 0 rfl).1; simpa [nums_length, bools_length, strs_length] using h_
                                      replace hM := hM.call hM_
                                      clear hM_ ht97
                                      refine RunF.go 4 [0, 4] (k' := (pl Go.Proofs.Try.f12 [1, 1, 1, 0, 0, 0])) (L' := [(0, .slice A98 t97.length c100), (4, .slice A4_5 x4_5.length c4_5)]) (w' := W96) (by kernel_rfl) ?_
                                      exact ih4 k (by omega) A98 c100 t97 A4_5 c4_5 x4_5 _ (hM.pick [0, 2] rfl rfl) h
                                  · replace h := of_false h c77
                                    refine RunF.know 14 (b := false) (by kernel_rfl) c77 ?_
                                    refine RunF.go 9 [4, 37] (k' := (pin Go.Proofs.Try.f12 [1, 1, 1, 0, 0, 0, 1, 0, 1] 1)) (L' := [(4, .slice A4_5 x4_5.length c4_5), (37, .slice A0_4 x0_4.length c0_4)]) (w' := W) (by kernel_rfl) ?_
                                    obtain ⟨t103, ht103, h⟩ := Option.bind_eq_some_iff.mp h
                                    refine RunF.call (d := some 38) (g := 22) (args := #[.slice A0_4 x0_4.length c0_4, .int .i64 25]) (k2 := (pin Go.Proofs.Try.f12 [1, 1, 1, 0, 0, 0, 1, 0, 1] 2)) (by kernel_rfl) (scrimref1_Turn.calls k A0_4 x0_4.length c0_4 x0_4 25 t103 _ (hM.rd 0 rfl) ht103) ?_
                                    rintro _ W102 ⟨A104, n105, c106, rfl, hM_⟩
                                    obtain rfl : t103.length = n105 := by have h_ := (hM_.rd 0 rfl).1; simpa [nums_length, bools_length, strs_length] using h_
                                    replace hM := hM.call hM_
                                    clear hM_ ht103
                                    refine RunF.go 4 [0, 4] (k' := (pl Go.Proofs.Try.f12 [1, 1, 1, 0, 0, 0])) (L' := [(0, .slice A104 t103.length c106), (4, .slice A4_5 x4_5.length c4_5)]) (w' := W102) (by kernel_rfl) ?_
                                    exact ih4 k (by omega) A104 c106 t103 A4_5 c4_5 x4_5 _ (hM.pick [0, 2] rfl rfl) h
                            exact l5 k (Nat.le_refl _) A4_4 c4_4 x4_4 0 _ (hM.pick [0, 1] rfl rfl) h
                          · replace h := of_false h c75
                            refine RunF.know 11 (b := false) (by kernel_rfl) c75 ?_
                            refine RunF.go 8 [2, 3] (k' := (pl Go.Proofs.Try.f12 [1, 1, 1, 1, 1])) (L' := [(2, .slice A4_4 x4_4.length c4_4), (3, .int .i64 0)]) (w' := W) (by kernel_rfl) ?_
                            obtain rfl := Option.some.inj h
                            exact RunF.ret2 2 3 (.slice A4_4 x4_4.length c4_4) (.int .i64 0) (fn := Go.Proofs.Try.f12) Go.Proofs.Try.func12 (by kernel_rfl) (by kernel_rfl) (by kernel_rfl) (by kernel_rfl) ⟨_, rfl, A4_4, x4_4.length, c4_4, rfl, (hM.pick [1] rfl rfl)⟩
                    exact l4 k (Nat.le_refl _) A69 c71 t68 A4_1 c4_1 x4_1 _ (hM.pick [0, 1] rfl rfl) h
            exact l1 k (Nat.le_refl _) A4_0 c4_0 x4_0 0 _ (hM.pick [0] rfl rfl) h
          · replace h := of_false h c5
            refine RunF.know 11 (b := false) (by kernel_rfl) c5 ?_
            refine RunF.go 8 [2, 3] (k' := (pl Go.Proofs.Try.f12 [1, 1, 1, 1, 1])) (L' := [(2, .slice A4_0 x4_0.length c4_0), (3, .int .i64 0)]) (w' := W) (by kernel_rfl) ?_
            obtain rfl := Option.some.inj h
            exact RunF.ret2 2 3 (.slice A4_0 x4_0.length c4_0) (.int .i64 0) (fn := Go.Proofs.Try.f12) Go.Proofs.Try.func12 (by kernel_rfl) (by kernel_rfl) (by kernel_rfl) (by kernel_rfl) ⟨_, rfl, A4_0, x4_0.length, c4_0, rfl, (hM.pick [0] rfl rfl)⟩
    exact l0 k (Nat.le_refl _) Ap0 cp0 a0 none 0 ([] : List Int) _ (hM.pick [0] rfl rfl) hr0 h

/-! ### scrim/scrimref7.stood: function 23 -/
def scrimref7_stood.f (k : Nat) (a0 : Int) : Option (Int) := if (a0 == 0) = true then (some 65536) else (some a0)
set_option maxRecDepth 100000 in
theorem scrimref7_stood.calls (k : Nat) (a0 : Int) (r : Int) (w : World) (h : scrimref7_stood.f k a0 = some r) :
    Calls Go.Proofs.Try.prog 23 #[.int .i64 a0] w (Ret fun v w' => v = .int .i64 r ∧ Mem w w' []) := by
  unfold scrimref7_stood.f at h
  refine calls_of [.int .i64 a0] (fn := Go.Proofs.Try.f23) Go.Proofs.Try.func23 (by kernel_rfl) (by kernel_rfl) ?_
  have hM := Mem.refl w
  refine RunF.go 10 [0, 4] (k' := (pl Go.Proofs.Try.f23 [1, 0, 1])) (L' := [(0, .int .i64 a0), (4, .bool (a0 == 0))]) (w' := w) (by kernel_rfl) ?_
  rcases two ((a0 == 0)) with c1 | c1
  · replace h := of_true h c1
    refine RunF.know 4 (b := true) (by kernel_rfl) c1 ?_
    refine RunF.go 5 [2] (k' := (pl Go.Proofs.Try.f23 [1, 0, 1, 0, 1])) (L' := [(2, .int .i64 65536)]) (w' := w) (by kernel_rfl) ?_
    obtain rfl := Option.some.inj h
    exact RunF.ret1 2 (.int .i64 65536) (fn := Go.Proofs.Try.f23) Go.Proofs.Try.func23 (by kernel_rfl) (by kernel_rfl) (by kernel_rfl) ⟨_, rfl, rfl, (hM.pick [] rfl rfl)⟩
  · replace h := of_false h c1
    refine RunF.know 4 (b := false) (by kernel_rfl) c1 ?_
    refine RunF.go 7 [2] (k' := (pl Go.Proofs.Try.f23 [1, 1, 1])) (L' := [(2, .int .i64 a0)]) (w' := w) (by kernel_rfl) ?_
    obtain rfl := Option.some.inj h
    exact RunF.ret1 2 (.int .i64 a0) (fn := Go.Proofs.Try.f23) Go.Proofs.Try.func23 (by kernel_rfl) (by kernel_rfl) (by kernel_rfl) ⟨_, rfl, rfl, (hM.pick [] rfl rfl)⟩

/-! ### scrim/scrimref7.Mul: function 14 -/
def scrimref7_Mul.f (k : Nat) (a0 : Int) (a1 : Int) : Option (Int) := (scrimref7_stood.f k a0).bind fun t2 => ((scrimref7_stood.f k a1).bind fun t4 => (some (Int.tmod (Int.tmod (I64 (t2 * t4)) 65537) 65536)))
set_option maxRecDepth 100000 in
theorem scrimref7_Mul.calls (k : Nat) (a0 : Int) (a1 : Int) (r : Int) (w : World) (h : scrimref7_Mul.f k a0 a1 = some r) :
    Calls Go.Proofs.Try.prog 14 #[.int .i64 a0, .int .i64 a1] w (Ret fun v w' => v = .int .i64 r ∧ Mem w w' []) := by
  unfold scrimref7_Mul.f at h
  refine calls_of [.int .i64 a0, .int .i64 a1] (fn := Go.Proofs.Try.f14) Go.Proofs.Try.func14 (by kernel_rfl) (by kernel_rfl) ?_
  have hM := Mem.refl w
  refine RunF.go 7 [1, 5] (k' := (pin Go.Proofs.Try.f14 [1, 0] 1)) (L' := [(1, .int .i64 a1), (5, .int .i64 a0)]) (w' := w) (by kernel_rfl) ?_
  obtain ⟨t2, ht2, h⟩ := Option.bind_eq_some_iff.mp h
  refine RunF.call (d := some 6) (g := 23) (args := #[.int .i64 a0]) (k2 := (pin Go.Proofs.Try.f14 [1, 0] 2)) (by kernel_rfl) (scrimref7_stood.calls k a0 t2 _ ht2) ?_
  rintro _ W1 ⟨rfl, hM_⟩
  replace hM := hM.call hM_
  clear hM_ ht2
  refine RunF.go 1 [6, 7] (k' := (pin Go.Proofs.Try.f14 [1, 0] 3)) (L' := [(6, .int .i64 t2), (7, .int .i64 a1)]) (w' := W1) (by kernel_rfl) ?_
  obtain ⟨t4, ht4, h⟩ := Option.bind_eq_some_iff.mp h
  refine RunF.call (d := some 8) (g := 23) (args := #[.int .i64 a1]) (k2 := (pin Go.Proofs.Try.f14 [1, 0] 4)) (by kernel_rfl) (scrimref7_stood.calls k a1 t4 _ ht4) ?_
  rintro _ W3 ⟨rfl, hM_⟩
  replace hM := hM.call hM_
  clear hM_ ht4
  refine RunF.go 5 [4] (k' := (pl Go.Proofs.Try.f14 [1, 1])) (L' := [(4, .int .i64 (Int.tmod (Int.tmod (I64 (t2 * t4)) 65537) 65536))]) (w' := W3) (by kernel_rfl) ?_
  obtain rfl := Option.some.inj h
  exact RunF.ret1 4 (.int .i64 (Int.tmod (Int.tmod (I64 (t2 * t4)) 65537) 65536)) (fn := Go.Proofs.Try.f14) Go.Proofs.Try.func14 (by kernel_rfl) (by kernel_rfl) (by kernel_rfl) ⟨_, rfl, rfl, (hM.pick [] rfl rfl)⟩

/-! ### scrim/scrimref7.Inv: function 16 -/
def scrimref7_Inv.l0 : Nat → Int → Int → Int → Option (Int)
  | 0, _, _, _ => none
  | k + 1, x0_0, x3_0, x4_0 => if (decide (x4_0 > 0)) = true then (if ((Int.tmod x4_0 2) == 1) = true then ((scrimref7_Mul.f k x3_0 x0_0).bind fun t4 => ((scrimref7_Mul.f k x0_0 x0_0).bind fun t6 => (scrimref7_Inv.l0 k t6 t4 (I64 (Int.tdiv x4_0 2))))) else ((scrimref7_Mul.f k x0_0 x0_0).bind fun t8 => (scrimref7_Inv.l0 k t8 x3_0 (I64 (Int.tdiv x4_0 2))))) else (some x3_0)
def scrimref7_Inv.f (k : Nat) (a0 : Int) : Option (Int) := scrimref7_Inv.l0 k a0 1 65535
set_option maxRecDepth 100000 in
theorem scrimref7_Inv.calls (k : Nat) (a0 : Int) (r : Int) (w : World) (h : scrimref7_Inv.f k a0 = some r) :
    Calls Go.Proofs.Try.prog 16 #[.int .i64 a0] w (Ret fun v w' => v = .int .i64 r ∧ Mem w w' []) := by
  unfold scrimref7_Inv.f at h
  refine calls_of [.int .i64 a0] (fn := Go.Proofs.Try.f16) Go.Proofs.Try.func16 (by kernel_rfl) (by kernel_rfl) ?_
  have hM := Mem.refl w
  refine RunF.go 15 [0, 3, 4] (k' := (pl Go.Proofs.Try.f16 [1, 1, 0, 1, 0, 0])) (L' := [(0, .int .i64 a0), (3, .int .i64 1), (4, .int .i64 65535)]) (w' := w) (by kernel_rfl) ?_
  have l0 : ∀ (k_ : Nat), k_ ≤ k → ∀ (x0_0 : Int) (x3_0 : Int) (x4_0 : Int) (W : World) (hM : Mem w W []) (h : scrimref7_Inv.l0 k_  x0_0 x3_0 x4_0 = some r), RunF Go.Proofs.Try.prog (Ret fun v w' => v = .int .i64 r ∧ Mem w w' []) 16 (pl Go.Proofs.Try.f16 [1, 1, 0, 1, 0, 0]) 19 [(0, .int .i64 x0_0), (3, .int .i64 x3_0), (4, .int .i64 x4_0)] W := by
    intro k_
    induction k_ using Nat.strongRecOn with
    | _ k_ ih0 =>
      intro hk x0_0 x3_0 x4_0 W hM h
      cases k_ with
      | zero => exact absurd h (by simp [scrimref7_Inv.l0])
      | succ k =>
        simp only [scrimref7_Inv.l0] at h
        replace ih0 : ∀ m, m ≤ k → _ := fun m hm => ih0 m (by omega) (by omega)
        refine RunF.go 6 [0, 3, 4, 6] (k' := (pl Go.Proofs.Try.f16 [1, 1, 0, 1, 0, 0, 0, 1])) (L' := [(0, .int .i64 x0_0), (3, .int .i64 x3_0), (4, .int .i64 x4_0), (6, .bool (decide (x4_0 > 0)))]) (w' := W) (by kernel_rfl) ?_
        rcases two (decide (x4_0 > 0)) with c1 | c1
        · replace h := of_true h c1
          refine RunF.know 6 (b := true) (by kernel_rfl) c1 ?_
          refine RunF.go 11 [0, 3, 4, 11] (k' := (pl Go.Proofs.Try.f16 [1, 1, 0, 1, 0, 0, 1, 0, 0, 0, 1])) (L' := [(0, .int .i64 x0_0), (3, .int .i64 x3_0), (4, .int .i64 x4_0), (11, .bool ((Int.tmod x4_0 2) == 1))]) (w' := W) (by kernel_rfl) ?_
          rcases two (((Int.tmod x4_0 2) == 1)) with c2 | c2
          · replace h := of_true h c2
            refine RunF.know 11 (b := true) (by kernel_rfl) c2 ?_
            refine RunF.go 4 [0, 4, 12, 13] (k' := (pin Go.Proofs.Try.f16 [1, 1, 0, 1, 0, 0, 1, 0, 0, 0, 1, 0] 2)) (L' := [(0, .int .i64 x0_0), (4, .int .i64 x4_0), (12, .int .i64 x3_0), (13, .int .i64 x0_0)]) (w' := W) (by kernel_rfl) ?_
            obtain ⟨t4, ht4, h⟩ := Option.bind_eq_some_iff.mp h
            refine RunF.call (d := some 14) (g := 14) (args := #[.int .i64 x3_0, .int .i64 x0_0]) (k2 := (pin Go.Proofs.Try.f16 [1, 1, 0, 1, 0, 0, 1, 0, 0, 0, 1, 0] 3)) (by kernel_rfl) (scrimref7_Mul.calls k x3_0 x0_0 t4 _ ht4) ?_
            rintro _ W3 ⟨rfl, hM_⟩
            replace hM := hM.call hM_
            clear hM_ ht4
            refine RunF.go 5 [3, 4, 15, 16] (k' := (pin Go.Proofs.Try.f16 [1, 1, 0, 1, 0, 0, 1, 0, 0, 1] 2)) (L' := [(3, .int .i64 t4), (4, .int .i64 x4_0), (15, .int .i64 x0_0), (16, .int .i64 x0_0)]) (w' := W3) (by kernel_rfl) ?_
            obtain ⟨t6, ht6, h⟩ := Option.bind_eq_some_iff.mp h
            refine RunF.call (d := some 17) (g := 14) (args := #[.int .i64 x0_0, .int .i64 x0_0]) (k2 := (pin Go.Proofs.Try.f16 [1, 1, 0, 1, 0, 0, 1, 0, 0, 1] 3)) (by kernel_rfl) (scrimref7_Mul.calls k x0_0 x0_0 t6 _ ht6) ?_
            rintro _ W5 ⟨rfl, hM_⟩
            replace hM := hM.call hM_
            clear hM_ ht6
            refine RunF.go 9 [0, 3, 4] (k' := (pl Go.Proofs.Try.f16 [1, 1, 0, 1, 0, 0])) (L' := [(0, .int .i64 t6), (3, .int .i64 t4), (4, .int .i64 (I64 (Int.tdiv x4_0 2)))]) (w' := W5) (by kernel_rfl) ?_
            exact ih0 k (by omega) t6 t4 (I64 (Int.tdiv x4_0 2)) _ (hM.pick [] rfl rfl) h
          · replace h := of_false h c2
            refine RunF.know 11 (b := false) (by kernel_rfl) c2 ?_
            refine RunF.go 5 [3, 4, 15, 16] (k' := (pin Go.Proofs.Try.f16 [1, 1, 0, 1, 0, 0, 1, 0, 0, 1] 2)) (L' := [(3, .int .i64 x3_0), (4, .int .i64 x4_0), (15, .int .i64 x0_0), (16, .int .i64 x0_0)]) (w' := W) (by kernel_rfl) ?_
            obtain ⟨t8, ht8, h⟩ := Option.bind_eq_some_iff.mp h
            refine RunF.call (d := some 17) (g := 14) (args := #[.int .i64 x0_0, .int .i64 x0_0]) (k2 := (pin Go.Proofs.Try.f16 [1, 1, 0, 1, 0, 0, 1, 0, 0, 1] 3)) (by kernel_rfl) (scrimref7_Mul.calls k x0_0 x0_0 t8 _ ht8) ?_
            rintro _ W7 ⟨rfl, hM_⟩
            replace hM := hM.call hM_
            clear hM_ ht8
            refine RunF.go 9 [0, 3, 4] (k' := (pl Go.Proofs.Try.f16 [1, 1, 0, 1, 0, 0])) (L' := [(0, .int .i64 t8), (3, .int .i64 x3_0), (4, .int .i64 (I64 (Int.tdiv x4_0 2)))]) (w' := W7) (by kernel_rfl) ?_
            exact ih0 k (by omega) t8 x3_0 (I64 (Int.tdiv x4_0 2)) _ (hM.pick [] rfl rfl) h
        · replace h := of_false h c1
          refine RunF.know 6 (b := false) (by kernel_rfl) c1 ?_
          refine RunF.go 7 [2] (k' := (pl Go.Proofs.Try.f16 [1, 1, 1, 1])) (L' := [(2, .int .i64 x3_0)]) (w' := W) (by kernel_rfl) ?_
          obtain rfl := Option.some.inj h
          exact RunF.ret1 2 (.int .i64 x3_0) (fn := Go.Proofs.Try.f16) Go.Proofs.Try.func16 (by kernel_rfl) (by kernel_rfl) (by kernel_rfl) ⟨_, rfl, rfl, (hM.pick [] rfl rfl)⟩
  exact l0 k (Nat.le_refl _) a0 1 65535 _ (hM.pick [] rfl rfl) h

/-! ### scrim/scrimlaw7.IdeaMul: function 3 -/
def scrimlaw7_IdeaMul.l0 : Nat → (List Int × Int) → (List Int × Int) → Int → Int → Int → Option (Bool)
  | 0, _, _, _, _, _ => none
  | k + 1, t16, t28, t6, t8, x19_0 => if (decide (x19_0 < (t16.1.length : Int))) = true then (if (decide (0 ≤ x19_0)) = true then (if (decide (x19_0 < (t16.1.length : Int))) = true then (if (decide (0 ≤ x19_0)) = true then (if (decide (x19_0 < (t28.1.length : Int))) = true then (if ((rd t16.1 x19_0) != (rd t28.1 x19_0)) = true then (some false) else (scrimlaw7_IdeaMul.l0 k t16 t28 t6 t8 (I64 (x19_0 + 1)))) else (none)) else (none)) else (none)) else (none)) else ((idea_Mul.f k t6 t8).bind fun t60 => ((scrimref7_Mul.f k t6 t8).bind fun t62 => (if (t60 == t62) = true then ((idea_Inv.f k t6).bind fun t65 => ((scrimref7_Inv.f k t6).bind fun t67 => (if (t65 == t67) = true then ((idea_Mul.f k 0 t8).bind fun t70 => ((scrimref7_Mul.f k 0 t8).bind fun t72 => (some (t70 == t72)))) else (some false)))) else (some false))))
def scrimlaw7_IdeaMul.f (k : Nat) (a0 : Int) (a1 : Int) (a2 : List Int) (a3 : List Int) : Option (Bool) := (scrimlaw7_known.f k).bind fun t2 => (if (!t2) = true then (some false) else (if (decide ((a3.length : Int) > 60)) = true then (some true) else ((scrimlaw7_within.f k a0 65536).bind fun t6 => ((scrimlaw7_within.f k a1 65536).bind fun t8 => ((scrimlaw7_Bytes.f k 16 a2).bind fun t10 => ((idea_Keys.f k t10).bind fun t16 => ((scrimlaw7_Bytes.f k 16 a2).bind fun t22 => ((scrimref7_Keys.f k t22).bind fun t28 => ((idea_Keys.f k a3).bind fun t34 => ((scrimref7_Keys.f k a3).bind fun t40 => (if (t16.2 != t28.2) = true then (some false) else (if (t34.2 != t40.2) = true then (some false) else ((some (((t16.1.length : Int) != (t28.1.length : Int)) : Bool)).bind fun y47 => (if y47 = true then (some false) else (scrimlaw7_IdeaMul.l0 k t16 t28 t6 t8 0)))))))))))))))
set_option maxRecDepth 100000 in
set_option maxHeartbeats 8000000 in
theorem scrimlaw7_IdeaMul.calls (k : Nat) (a0 : Int) (a1 : Int) (Ap2 : Option Addr) (np2 cp2 : Nat) (a2 : List Int) (Ap3 : Option Addr) (np3 cp3 : Nat) (a3 : List Int) (r : Bool) (w : World) (hr2 : Rd w (.slice Ap2 np2 cp2) (nums .u8 a2)) (hr3 : Rd w (.slice Ap3 np3 cp3) (nums .u8 a3)) (h : scrimlaw7_IdeaMul.f k a0 a1 a2 a3 = some r) :
    Calls Go.Proofs.Try.prog 3 #[.int .i64 a0, .int .i64 a1, (.slice Ap2 np2 cp2), (.slice Ap3 np3 cp3)] w (Ret fun v w' => v = .bool r ∧ Mem w w' []) := by
  obtain rfl : a2.length = np2 := by have h_ := hr2.1; simpa [nums_length, bools_length, strs_length] using h_
  obtain rfl : a3.length = np3 := by have h_ := hr3.1; simpa [nums_length, bools_length, strs_length] using h_
  unfold scrimlaw7_IdeaMul.f at h
  refine calls_of [.int .i64 a0, .int .i64 a1, .slice Ap2 a2.length cp2, .slice Ap3 a3.length cp3] (fn := Go.Proofs.Try.f3) Go.Proofs.Try.func3 (by kernel_rfl) (by kernel_rfl) ?_
  have hM := Mem.refl w
  refine RunF.go 7 [0, 1, 2, 3] (k' := (pin Go.Proofs.Try.f3 [1, 0, 0] 0)) (L' := [(0, .int .i64 a0), (1, .int .i64 a1), (2, .slice Ap2 a2.length cp2), (3, .slice Ap3 a3.length cp3)]) (w' := w) (by kernel_rfl) ?_
  obtain ⟨t2, ht2, h⟩ := Option.bind_eq_some_iff.mp h
  refine RunF.call (d := some 20) (g := 8) (args := #[]) (k2 := (pin Go.Proofs.Try.f3 [1, 0, 0] 1)) (by kernel_rfl) (scrimlaw7_known.calls k t2 _ ht2) ?_
  rintro _ W1 ⟨rfl, hM_⟩
  replace hM := hM.call hM_
  clear hM_ ht2
  refine RunF.go 2 [0, 1, 2, 3, 21] (k' := (pl Go.Proofs.Try.f3 [1, 0, 1])) (L' := [(0, .int .i64 a0), (1, .int .i64 a1), (2, .slice Ap2 a2.length cp2), (3, .slice Ap3 a3.length cp3), (21, .bool (!t2))]) (w' := W1) (by kernel_rfl) ?_
  rcases two (!t2) with c3 | c3
  · replace h := of_true h c3
    refine RunF.know 21 (b := true) (by kernel_rfl) c3 ?_
    refine RunF.go 5 [8] (k' := (pl Go.Proofs.Try.f3 [1, 0, 1, 0, 1])) (L' := [(8, .bool false)]) (w' := W1) (by kernel_rfl) ?_
    obtain rfl := Option.some.inj h
    exact RunF.ret1 8 (.bool false) (fn := Go.Proofs.Try.f3) Go.Proofs.Try.func3 (by kernel_rfl) (by kernel_rfl) (by kernel_rfl) ⟨_, rfl, rfl, (hM.pick [] rfl rfl)⟩
  · replace h := of_false h c3
    refine RunF.know 21 (b := false) (by kernel_rfl) c3 ?_
    refine RunF.go 9 [0, 1, 2, 3, 24] (k' := (pl Go.Proofs.Try.f3 [1, 1, 0, 1])) (L' := [(0, .int .i64 a0), (1, .int .i64 a1), (2, .slice Ap2 a2.length cp2), (3, .slice Ap3 a3.length cp3), (24, .bool (decide ((a3.length : Int) > 60)))]) (w' := W1) (by kernel_rfl) ?_
    rcases two (decide ((a3.length : Int) > 60)) with c4 | c4
    · replace h := of_true h c4
      refine RunF.know 24 (b := true) (by kernel_rfl) c4 ?_
      refine RunF.go 5 [8] (k' := (pl Go.Proofs.Try.f3 [1, 1, 0, 1, 0, 1])) (L' := [(8, .bool true)]) (w' := W1) (by kernel_rfl) ?_
      obtain rfl := Option.some.inj h
      exact RunF.ret1 8 (.bool true) (fn := Go.Proofs.Try.f3) Go.Proofs.Try.func3 (by kernel_rfl) (by kernel_rfl) (by kernel_rfl) ⟨_, rfl, rfl, (hM.pick [] rfl rfl)⟩
    · replace h := of_false h c4
      refine RunF.know 24 (b := false) (by kernel_rfl) c4 ?_
      refine RunF.go 5 [1, 2, 3, 25] (k' := (pin Go.Proofs.Try.f3 [1, 1, 1, 0] 1)) (L' := [(1, .int .i64 a1), (2, .slice Ap2 a2.length cp2), (3, .slice Ap3 a3.length cp3), (25, .int .i64 a0)]) (w' := W1) (by kernel_rfl) ?_
      obtain ⟨t6, ht6, h⟩ := Option.bind_eq_some_iff.mp h
      refine RunF.call (d := some 26) (g := 9) (args := #[.int .i64 a0, .int .i64 65536]) (k2 := (pin Go.Proofs.Try.f3 [1, 1, 1, 0] 2)) (by kernel_rfl) (scrimlaw7_within.calls k a0 65536 t6 _ ht6) ?_
      rintro _ W5 ⟨rfl, hM_⟩
      replace hM := hM.call hM_
      clear hM_ ht6
      refine RunF.go 1 [2, 3, 26, 27] (k' := (pin Go.Proofs.Try.f3 [1, 1, 1, 0] 3)) (L' := [(2, .slice Ap2 a2.length cp2), (3, .slice Ap3 a3.length cp3), (26, .int .i64 t6), (27, .int .i64 a1)]) (w' := W5) (by kernel_rfl) ?_
      obtain ⟨t8, ht8, h⟩ := Option.bind_eq_some_iff.mp h
      refine RunF.call (d := some 28) (g := 9) (args := #[.int .i64 a1, .int .i64 65536]) (k2 := (pin Go.Proofs.Try.f3 [1, 1, 1, 0] 4)) (by kernel_rfl) (scrimlaw7_within.calls k a1 65536 t8 _ ht8) ?_
      rintro _ W7 ⟨rfl, hM_⟩
      replace hM := hM.call hM_
      clear hM_ ht8
      refine RunF.go 6 [2, 3, 9, 10, 30] (k' := (pin Go.Proofs.Try.f3 [1, 1, 1, 1, 0] 1)) (L' := [(2, .slice Ap2 a2.length cp2), (3, .slice Ap3 a3.length cp3), (9, .int .i64 t6), (10, .int .i64 t8), (30, .slice Ap2 a2.length cp2)]) (w' := W7) (by kernel_rfl) ?_
      obtain ⟨t10, ht10, h⟩ := Option.bind_eq_some_iff.mp h
      refine RunF.call (d := some 31) (g := 11) (args := #[.int .i64 16, .slice Ap2 a2.length cp2]) (k2 := (pin Go.Proofs.Try.f3 [1, 1, 1, 1, 0] 2)) (by kernel_rfl) (scrimlaw7_Bytes.calls k 16 Ap2 a2.length cp2 a2 t10 _ (hr2.mono hM.below) ht10) ?_
      rintro _ W9 ⟨A11, n12, c13, rfl, hM_⟩
      obtain rfl : t10.length = n12 := by have h_ := (hM_.rd 0 rfl).1; simpa [nums_length, bools_length, strs_length] using h_
      replace hM := hM.call hM_
      clear hM_ ht10
      obtain ⟨t16, ht16, h⟩ := Option.bind_eq_some_iff.mp h
      refine RunF.call (d := some 32) (g := 10) (args := #[.slice A11 t10.length c13]) (k2 := (pin Go.Proofs.Try.f3 [1, 1, 1, 1, 0] 3)) (by kernel_rfl) (idea_Keys.calls k A11 t10.length c13 t10 t16 _ (hM.rd 0 rfl) ht16) ?_
      rintro _ W15 ⟨A17, n18, c19, rfl, hM_⟩
      obtain rfl : t16.1.length = n18 := by have h_ := (hM_.rd 0 rfl).1; simpa [nums_length, bools_length, strs_length] using h_
      replace hM := hM.call hM_
      clear hM_ ht16
      refine RunF.go 9 [3, 9, 10, 11, 12, 36] (k' := (pin Go.Proofs.Try.f3 [1, 1, 1, 1, 1, 0] 1)) (L' := [(3, .slice Ap3 a3.length cp3), (9, .int .i64 t6), (10, .int .i64 t8), (11, .slice A17 t16.1.length c19), (12, .int .i64 t16.2), (36, .slice Ap2 a2.length cp2)]) (w' := W15) (by kernel_rfl) ?_
      obtain ⟨t22, ht22, h⟩ := Option.bind_eq_some_iff.mp h
      refine RunF.call (d := some 37) (g := 11) (args := #[.int .i64 16, .slice Ap2 a2.length cp2]) (k2 := (pin Go.Proofs.Try.f3 [1, 1, 1, 1, 1, 0] 2)) (by kernel_rfl) (scrimlaw7_Bytes.calls k 16 Ap2 a2.length cp2 a2 t22 _ (hr2.mono hM.below) ht22) ?_
      rintro _ W21 ⟨A23, n24, c25, rfl, hM_⟩
      obtain rfl : t22.length = n24 := by have h_ := (hM_.rd 0 rfl).1; simpa [nums_length, bools_length, strs_length] using h_
      replace hM := hM.call hM_
      clear hM_ ht22
      obtain ⟨t28, ht28, h⟩ := Option.bind_eq_some_iff.mp h
      refine RunF.call (d := some 38) (g := 12) (args := #[.slice A23 t22.length c25]) (k2 := (pin Go.Proofs.Try.f3 [1, 1, 1, 1, 1, 0] 3)) (by kernel_rfl) (scrimref7_Keys.calls k A23 t22.length c25 t22 t28 _ (hM.rd 0 rfl) ht28) ?_
      rintro _ W27 ⟨A29, n30, c31, rfl, hM_⟩
      obtain rfl : t28.1.length = n30 := by have h_ := (hM_.rd 0 rfl).1; simpa [nums_length, bools_length, strs_length] using h_
      replace hM := hM.call hM_
      clear hM_ ht28
      refine RunF.go 9 [3, 9, 10, 11, 12, 13, 14, 42] (k' := (pin Go.Proofs.Try.f3 [1, 1, 1, 1, 1, 1, 0] 1)) (L' := [(3, .slice Ap3 a3.length cp3), (9, .int .i64 t6), (10, .int .i64 t8), (11, .slice A17 t16.1.length c19), (12, .int .i64 t16.2), (13, .slice A29 t28.1.length c31), (14, .int .i64 t28.2), (42, .slice Ap3 a3.length cp3)]) (w' := W27) (by kernel_rfl) ?_
      obtain ⟨t34, ht34, h⟩ := Option.bind_eq_some_iff.mp h
      refine RunF.call (d := some 43) (g := 10) (args := #[.slice Ap3 a3.length cp3]) (k2 := (pin Go.Proofs.Try.f3 [1, 1, 1, 1, 1, 1, 0] 2)) (by kernel_rfl) (idea_Keys.calls k Ap3 a3.length cp3 a3 t34 _ (hr3.mono hM.below) ht34) ?_
      rintro _ W33 ⟨A35, n36, c37, rfl, hM_⟩
      obtain rfl : t34.1.length = n36 := by have h_ := (hM_.rd 0 rfl).1; simpa [nums_length, bools_length, strs_length] using h_
      replace hM := hM.call hM_
      clear hM_ ht34
      refine RunF.go 9 [9, 10, 11, 12, 13, 14, 16, 47] (k' := (pin Go.Proofs.Try.f3 [1, 1, 1, 1, 1, 1, 1, 0] 1)) (L' := [(9, .int .i64 t6), (10, .int .i64 t8), (11, .slice A17 t16.1.length c19), (12, .int .i64 t16.2), (13, .slice A29 t28.1.length c31), (14, .int .i64 t28.2), (16, .int .i64 t34.2), (47, .slice Ap3 a3.length cp3)]) (w' := W33) (by kernel_rfl) ?_
      obtain ⟨t40, ht40, h⟩ := Option.bind_eq_some_iff.mp h
      refine RunF.call (d := some 48) (g := 12) (args := #[.slice Ap3 a3.length cp3]) (k2 := (pin Go.Proofs.Try.f3 [1, 1, 1, 1, 1, 1, 1, 0] 2)) (by kernel_rfl) (scrimref7_Keys.calls k Ap3 a3.length cp3 a3 t40 _ (hr3.mono hM.below) ht40) ?_
      rintro _ W39 ⟨A41, n42, c43, rfl, hM_⟩
      obtain rfl : t40.1.length = n42 := by have h_ := (hM_.rd 0 rfl).1; simpa [nums_length, bools_length, strs_length] using h_
      replace hM := hM.call hM_
      clear hM_ ht40
      refine RunF.go 13 [9, 10, 11, 13, 16, 18, 54] (k' := (pin Go.Proofs.Try.f3 [1, 1, 1, 1, 1, 1, 1, 1, 0, 0] 4)) (L' := [(9, .int .i64 t6), (10, .int .i64 t8), (11, .slice A17 t16.1.length c19), (13, .slice A29 t28.1.length c31), (16, .int .i64 t34.2), (18, .int .i64 t40.2), (54, .bool (t16.2 != t28.2))]) (w' := W39) (by kernel_rfl) ?_
      rcases two ((t16.2 != t28.2)) with c45 | c45
      · replace h := of_true h c45
        refine RunF.know 54 (b := true) (by kernel_rfl) c45 ?_
        refine RunF.go 17 [8] (k' := (pl Go.Proofs.Try.f3 [1, 1, 1, 1, 1, 1, 1, 1, 0, 1, 0, 1])) (L' := [(8, .bool false)]) (w' := W39) (by kernel_rfl) ?_
        obtain rfl := Option.some.inj h
        exact RunF.ret1 8 (.bool false) (fn := Go.Proofs.Try.f3) Go.Proofs.Try.func3 (by kernel_rfl) (by kernel_rfl) (by kernel_rfl) ⟨_, rfl, rfl, (hM.pick [] rfl rfl)⟩
      · replace h := of_false h c45
        refine RunF.know 54 (b := false) (by kernel_rfl) c45 ?_
        refine RunF.go 5 [9, 10, 11, 13, 59] (k' := (pin Go.Proofs.Try.f3 [1, 1, 1, 1, 1, 1, 1, 1, 0, 0] 9)) (L' := [(9, .int .i64 t6), (10, .int .i64 t8), (11, .slice A17 t16.1.length c19), (13, .slice A29 t28.1.length c31), (59, .bool (t34.2 != t40.2))]) (w' := W39) (by kernel_rfl) ?_
        rcases two ((t34.2 != t40.2)) with c46 | c46
        · replace h := of_true h c46
          refine RunF.know 59 (b := true) (by kernel_rfl) c46 ?_
          refine RunF.go 12 [8] (k' := (pl Go.Proofs.Try.f3 [1, 1, 1, 1, 1, 1, 1, 1, 0, 1, 0, 1])) (L' := [(8, .bool false)]) (w' := W39) (by kernel_rfl) ?_
          obtain rfl := Option.some.inj h
          exact RunF.ret1 8 (.bool false) (fn := Go.Proofs.Try.f3) Go.Proofs.Try.func3 (by kernel_rfl) (by kernel_rfl) (by kernel_rfl) ⟨_, rfl, rfl, (hM.pick [] rfl rfl)⟩
        · replace h := of_false h c46
          refine RunF.know 59 (b := false) (by kernel_rfl) c46 ?_
          refine RunF.go 7 [9, 10, 11, 13, 65] (k' := (pl Go.Proofs.Try.f3 [1, 1, 1, 1, 1, 1, 1, 1, 0, 1])) (L' := [(9, .int .i64 t6), (10, .int .i64 t8), (11, .slice A17 t16.1.length c19), (13, .slice A29 t28.1.length c31), (65, .bool ((t16.1.length : Int) != (t28.1.length : Int)))]) (w' := W39) (by kernel_rfl) ?_
          obtain ⟨y47, hy, h⟩ := Option.bind_eq_some_iff.mp h
          rw [show (((t16.1.length : Int) != (t28.1.length : Int))) = y47 from Option.some.inj hy]
          clear hy
          rcases two (y47) with c48 | c48
          · replace h := of_true h c48
            refine RunF.know 65 (b := true) (by kernel_rfl) c48 ?_
            refine RunF.go 5 [8] (k' := (pl Go.Proofs.Try.f3 [1, 1, 1, 1, 1, 1, 1, 1, 0, 1, 0, 1])) (L' := [(8, .bool false)]) (w' := W39) (by kernel_rfl) ?_
            obtain rfl := Option.some.inj h
            exact RunF.ret1 8 (.bool false) (fn := Go.Proofs.Try.f3) Go.Proofs.Try.func3 (by kernel_rfl) (by kernel_rfl) (by kernel_rfl) ⟨_, rfl, rfl, (hM.pick [] rfl rfl)⟩
          · replace h := of_false h c48
            refine RunF.know 65 (b := false) (by kernel_rfl) c48 ?_
            refine RunF.go 9 [9, 10, 11, 13, 19] (k' := (pl Go.Proofs.Try.f3 [1, 1, 1, 1, 1, 1, 1, 1, 1, 0, 1, 0, 0])) (L' := [(9, .int .i64 t6), (10, .int .i64 t8), (11, .slice A17 t16.1.length c19), (13, .slice A29 t28.1.length c31), (19, .int .i64 0)]) (w' := W39) (by kernel_rfl) ?_
            have l0 : ∀ (k_ : Nat), k_ ≤ k → ∀ (x19_0 : Int) (W : World) (hM : Mem w W [⟨.slice A17 t16.1.length c19, 3, 1, nums .i64 t16.1⟩, ⟨.slice A29 t28.1.length c31, 3, 1, nums .i64 t28.1⟩]) (h : scrimlaw7_IdeaMul.l0 k_ t16 t28 t6 t8 x19_0 = some r), RunF Go.Proofs.Try.prog (Ret fun v w' => v = .bool r ∧ Mem w w' []) 3 (pl Go.Proofs.Try.f3 [1, 1, 1, 1, 1, 1, 1, 1, 1, 0, 1, 0, 0]) 102 [(9, .int .i64 t6), (10, .int .i64 t8), (11, .slice A17 t16.1.length c19), (13, .slice A29 t28.1.length c31), (19, .int .i64 x19_0)] W := by
              intro k_
              induction k_ using Nat.strongRecOn with
              | _ k_ ih0 =>
                intro hk x19_0 W hM h
                cases k_ with
                | zero => exact absurd h (by simp [scrimlaw7_IdeaMul.l0])
                | succ k =>
                  simp only [scrimlaw7_IdeaMul.l0] at h
                  replace ih0 : ∀ m, m ≤ k → _ := fun m hm => ih0 m (by omega) (by omega)
                  refine RunF.go 8 [9, 10, 11, 13, 19, 69] (k' := (pl Go.Proofs.Try.f3 [1, 1, 1, 1, 1, 1, 1, 1, 1, 0, 1, 0, 0, 0, 1])) (L' := [(9, .int .i64 t6), (10, .int .i64 t8), (11, .slice A17 t16.1.length c19), (13, .slice A29 t28.1.length c31), (19, .int .i64 x19_0), (69, .bool (decide (x19_0 < (t16.1.length : Int))))]) (w' := W) (by kernel_rfl) ?_
                  rcases two (decide (x19_0 < (t16.1.length : Int))) with c49 | c49
                  · replace h := of_true h c49
                    refine RunF.know 69 (b := true) (by kernel_rfl) c49 ?_
                    refine RunF.go 5 [9, 10, 11, 13, 19] (k' := (pl Go.Proofs.Try.f3 [1, 1, 1, 1, 1, 1, 1, 1, 1, 0, 1, 0, 0, 1, 0, 0, 0])) (L' := [(9, .int .i64 t6), (10, .int .i64 t8), (11, .slice A17 t16.1.length c19), (13, .slice A29 t28.1.length c31), (19, .int .i64 x19_0)]) (w' := W) (by kernel_rfl) ?_
                    refine RunF.draw (Still ({ W with drawn := W.drawn + 1 } : World) []) (by kernel_rfl) (by kernel_rfl) ?_
                    have hMd51 := hM.drew
                    have hS := Still.refl ({ W with drawn := W.drawn + 1 } : World) []
                    generalize ({ W with drawn := W.drawn + 1 } : World) = W50 at hMd51 hS ⊢
                    replace hM := hMd51
                    refine RunAny.y 0 (by kernel_rfl) (yl_pure (d := some 72) (v := .slice A17 t16.1.length c19) (k2 := [.inRegion (opsOf (pl Go.Proofs.Try.f3 [1, 1, 1, 1, 1, 1, 1, 1, 1, 0, 1, 0, 0, 1, 0, 0, 0])) []]) fun w => by kernel_rfl) (fun _ _ => trivial) hS ?_
                    refine RunAny.y 1 (by kernel_rfl) (yl_pure (d := some 73) (v := .int .i64 x19_0) (k2 := [.inRegion (opsOf (pl Go.Proofs.Try.f3 [1, 1, 1, 1, 1, 1, 1, 1, 1, 0, 1, 0, 0, 1, 0, 0, 0])) []]) fun w => by kernel_rfl) (fun _ _ => trivial) hS ?_
                    rcases two (decide (0 ≤ x19_0)) with c53 | c53
                    · replace h := of_true h c53
                      rcases two (decide (x19_0 < (t16.1.length : Int))) with c54 | c54
                      · replace h := of_true h c54
                        obtain ⟨q52, hAq52, hcq52, hfq52, hlq52⟩ := hM.num_at 0 rfl (i := x19_0) (of_decide_eq_true c53) (by have h_ := of_decide_eq_true c54; omega)
                        refine RunAny.y 2 (by kernel_rfl) (idx_own (d := some 74) (A := A17) (m := t16.1.length) (i := x19_0) (k2 := [.inRegion (opsOf (pl Go.Proofs.Try.f3 [1, 1, 1, 1, 1, 1, 1, 1, 1, 0, 1, 0, 0, 1, 0, 0, 0])) []]) (by kernel_rfl) (of_decide_eq_true c53) (by have h_ := of_decide_eq_true c54; omega) hAq52) (fun _ _ => trivial) hS ?_
                        refine RunAny.y 3 (by kernel_rfl) (ld_y (d := some 75) (p := ⟨q52, (x19_0 : Int).toNat, none⟩) (k2 := [.inRegion (opsOf (pl Go.Proofs.Try.f3 [1, 1, 1, 1, 1, 1, 1, 1, 1, 0, 1, 0, 0, 1, 0, 0, 0])) []]) (.int .i64 (rd t16.1 x19_0)) (by kernel_rfl)) (fun _ hs => hs.cell hcq52 (by simp)) hS ?_
                        refine RunAny.y 4 (by kernel_rfl) (yl_pure (d := some 76) (v := .slice A29 t28.1.length c31) (k2 := [.inRegion (opsOf (pl Go.Proofs.Try.f3 [1, 1, 1, 1, 1, 1, 1, 1, 1, 0, 1, 0, 0, 1, 0, 0, 0])) []]) fun w => by kernel_rfl) (fun _ _ => trivial) hS ?_
                        refine RunAny.y 5 (by kernel_rfl) (yl_pure (d := some 77) (v := .int .i64 x19_0) (k2 := [.inRegion (opsOf (pl Go.Proofs.Try.f3 [1, 1, 1, 1, 1, 1, 1, 1, 1, 0, 1, 0, 0, 1, 0, 0, 0])) []]) fun w => by kernel_rfl) (fun _ _ => trivial) hS ?_
                        rcases two (decide (0 ≤ x19_0)) with c56 | c56
                        · replace h := of_true h c56
                          rcases two (decide (x19_0 < (t28.1.length : Int))) with c57 | c57
                          · replace h := of_true h c57
                            obtain ⟨q55, hAq55, hcq55, hfq55, hlq55⟩ := hM.num_at 1 rfl (i := x19_0) (of_decide_eq_true c56) (by have h_ := of_decide_eq_true c57; omega)
                            refine RunAny.y 6 (by kernel_rfl) (idx_own (d := some 78) (A := A29) (m := t28.1.length) (i := x19_0) (k2 := [.inRegion (opsOf (pl Go.Proofs.Try.f3 [1, 1, 1, 1, 1, 1, 1, 1, 1, 0, 1, 0, 0, 1, 0, 0, 0])) []]) (by kernel_rfl) (of_decide_eq_true c56) (by have h_ := of_decide_eq_true c57; omega) hAq55) (fun _ _ => trivial) hS ?_
                            refine RunAny.y 7 (by kernel_rfl) (ld_y (d := some 79) (p := ⟨q55, (x19_0 : Int).toNat, none⟩) (k2 := [.inRegion (opsOf (pl Go.Proofs.Try.f3 [1, 1, 1, 1, 1, 1, 1, 1, 1, 0, 1, 0, 0, 1, 0, 0, 0])) []]) (.int .i64 (rd t28.1 x19_0)) (by kernel_rfl)) (fun _ hs => hs.cell hcq55 (by simp)) hS ?_
                            refine RunAny.y 8 (by kernel_rfl) (yl_pure (d := some 80) (v := .bool ((rd t16.1 x19_0) != (rd t28.1 x19_0))) (k2 := [.inRegion (opsOf (pl Go.Proofs.Try.f3 [1, 1, 1, 1, 1, 1, 1, 1, 1, 0, 1, 0, 0, 1, 0, 0, 0])) []]) fun w => by kernel_rfl) (fun _ _ => trivial) hS ?_
                            refine RunAny.done (by kernel_rfl) ?_
                            clear hS
                            rcases two (((rd t16.1 x19_0) != (rd t28.1 x19_0))) with c58 | c58
                            · replace h := of_true h c58
                              refine RunF.know 80 (b := true) (by kernel_rfl) c58 ?_
                              refine RunF.go 5 [8] (k' := (pl Go.Proofs.Try.f3 [1, 1, 1, 1, 1, 1, 1, 1, 1, 0, 1, 0, 0, 1, 0, 0, 1, 0, 1])) (L' := [(8, .bool false)]) (w' := W50) (by kernel_rfl) ?_
                              obtain rfl := Option.some.inj h
                              exact RunF.ret1 8 (.bool false) (fn := Go.Proofs.Try.f3) Go.Proofs.Try.func3 (by kernel_rfl) (by kernel_rfl) (by kernel_rfl) ⟨_, rfl, rfl, (hM.pick [] rfl rfl)⟩
                            · replace h := of_false h c58
                              refine RunF.know 80 (b := false) (by kernel_rfl) c58 ?_
                              refine RunF.go 9 [9, 10, 11, 13, 19] (k' := (pl Go.Proofs.Try.f3 [1, 1, 1, 1, 1, 1, 1, 1, 1, 0, 1, 0, 0])) (L' := [(9, .int .i64 t6), (10, .int .i64 t8), (11, .slice A17 t16.1.length c19), (13, .slice A29 t28.1.length c31), (19, .int .i64 (I64 (x19_0 + 1)))]) (w' := W50) (by kernel_rfl) ?_
                              exact ih0 k (by omega) (I64 (x19_0 + 1)) _ (hM.pick [0, 1] rfl rfl) h
                          · replace h := of_false h c57
                            cases h
                        · replace h := of_false h c56
                          cases h
                      · replace h := of_false h c54
                        cases h
                    · replace h := of_false h c53
                      cases h
                  · replace h := of_false h c49
                    refine RunF.know 69 (b := false) (by kernel_rfl) c49 ?_
                    refine RunF.go 6 [9, 10, 81, 82] (k' := (pin Go.Proofs.Try.f3 [1, 1, 1, 1, 1, 1, 1, 1, 1, 1, 0] 2)) (L' := [(9, .int .i64 t6), (10, .int .i64 t8), (81, .int .i64 t6), (82, .int .i64 t8)]) (w' := W) (by kernel_rfl) ?_
                    obtain ⟨t60, ht60, h⟩ := Option.bind_eq_some_iff.mp h
                    refine RunF.call (d := some 83) (g := 13) (args := #[.int .i64 t6, .int .i64 t8]) (k2 := (pin Go.Proofs.Try.f3 [1, 1, 1, 1, 1, 1, 1, 1, 1, 1, 0] 3)) (by kernel_rfl) (idea_Mul.calls k t6 t8 t60 _ ht60) ?_
                    rintro _ W59 ⟨rfl, hM_⟩
                    replace hM := hM.call hM_
                    clear hM_ ht60
                    refine RunF.go 2 [9, 10, 83, 84, 85] (k' := (pin Go.Proofs.Try.f3 [1, 1, 1, 1, 1, 1, 1, 1, 1, 1, 0] 5)) (L' := [(9, .int .i64 t6), (10, .int .i64 t8), (83, .int .i64 t60), (84, .int .i64 t6), (85, .int .i64 t8)]) (w' := W59) (by kernel_rfl) ?_
                    obtain ⟨t62, ht62, h⟩ := Option.bind_eq_some_iff.mp h
                    refine RunF.call (d := some 86) (g := 14) (args := #[.int .i64 t6, .int .i64 t8]) (k2 := (pin Go.Proofs.Try.f3 [1, 1, 1, 1, 1, 1, 1, 1, 1, 1, 0] 6)) (by kernel_rfl) (scrimref7_Mul.calls k t6 t8 t62 _ ht62) ?_
                    rintro _ W61 ⟨rfl, hM_⟩
                    replace hM := hM.call hM_
                    clear hM_ ht62
                    refine RunF.go 2 [9, 10, 88] (k' := (pin Go.Proofs.Try.f3 [1, 1, 1, 1, 1, 1, 1, 1, 1, 1, 0] 8)) (L' := [(9, .int .i64 t6), (10, .int .i64 t8), (88, .bool (t60 == t62))]) (w' := W61) (by kernel_rfl) ?_
                    rcases two ((t60 == t62)) with c63 | c63
                    · replace h := of_true h c63
                      refine RunF.know 88 (b := true) (by kernel_rfl) c63 ?_
                      refine RunF.go 1 [9, 10, 88, 89] (k' := (pin Go.Proofs.Try.f3 [1, 1, 1, 1, 1, 1, 1, 1, 1, 1, 0] 9)) (L' := [(9, .int .i64 t6), (10, .int .i64 t8), (88, .bool true), (89, .int .i64 t6)]) (w' := W61) (by kernel_rfl) ?_
                      obtain ⟨t65, ht65, h⟩ := Option.bind_eq_some_iff.mp h
                      refine RunF.call (d := some 90) (g := 15) (args := #[.int .i64 t6]) (k2 := (pin Go.Proofs.Try.f3 [1, 1, 1, 1, 1, 1, 1, 1, 1, 1, 0] 10)) (by kernel_rfl) (idea_Inv.calls k t6 t65 _ ht65) ?_
                      rintro _ W64 ⟨rfl, hM_⟩
                      replace hM := hM.call hM_
                      clear hM_ ht65
                      refine RunF.go 1 [10, 88, 90, 91] (k' := (pin Go.Proofs.Try.f3 [1, 1, 1, 1, 1, 1, 1, 1, 1, 1, 0] 11)) (L' := [(10, .int .i64 t8), (88, .bool true), (90, .int .i64 t65), (91, .int .i64 t6)]) (w' := W64) (by kernel_rfl) ?_
                      obtain ⟨t67, ht67, h⟩ := Option.bind_eq_some_iff.mp h
                      refine RunF.call (d := some 92) (g := 16) (args := #[.int .i64 t6]) (k2 := (pin Go.Proofs.Try.f3 [1, 1, 1, 1, 1, 1, 1, 1, 1, 1, 0] 12)) (by kernel_rfl) (scrimref7_Inv.calls k t6 t67 _ ht67) ?_
                      rintro _ W66 ⟨rfl, hM_⟩
                      replace hM := hM.call hM_
                      clear hM_ ht67
                      refine RunF.go 3 [10, 95] (k' := (pin Go.Proofs.Try.f3 [1, 1, 1, 1, 1, 1, 1, 1, 1, 1, 0] 15)) (L' := [(10, .int .i64 t8), (95, .bool (t65 == t67))]) (w' := W66) (by kernel_rfl) ?_
                      rcases two ((t65 == t67)) with c68 | c68
                      · replace h := of_true h c68
                        refine RunF.know 95 (b := true) (by kernel_rfl) c68 ?_
                        refine RunF.go 1 [10, 95, 96] (k' := (pin Go.Proofs.Try.f3 [1, 1, 1, 1, 1, 1, 1, 1, 1, 1, 0] 16)) (L' := [(10, .int .i64 t8), (95, .bool true), (96, .int .i64 t8)]) (w' := W66) (by kernel_rfl) ?_
                        obtain ⟨t70, ht70, h⟩ := Option.bind_eq_some_iff.mp h
                        refine RunF.call (d := some 97) (g := 13) (args := #[.int .i64 0, .int .i64 t8]) (k2 := (pin Go.Proofs.Try.f3 [1, 1, 1, 1, 1, 1, 1, 1, 1, 1, 0] 17)) (by kernel_rfl) (idea_Mul.calls k 0 t8 t70 _ ht70) ?_
                        rintro _ W69 ⟨rfl, hM_⟩
                        replace hM := hM.call hM_
                        clear hM_ ht70
                        refine RunF.go 1 [95, 97, 98] (k' := (pin Go.Proofs.Try.f3 [1, 1, 1, 1, 1, 1, 1, 1, 1, 1, 0] 18)) (L' := [(95, .bool true), (97, .int .i64 t70), (98, .int .i64 t8)]) (w' := W69) (by kernel_rfl) ?_
                        obtain ⟨t72, ht72, h⟩ := Option.bind_eq_some_iff.mp h
                        refine RunF.call (d := some 99) (g := 14) (args := #[.int .i64 0, .int .i64 t8]) (k2 := (pin Go.Proofs.Try.f3 [1, 1, 1, 1, 1, 1, 1, 1, 1, 1, 0] 19)) (by kernel_rfl) (scrimref7_Mul.calls k 0 t8 t72 _ ht72) ?_
                        rintro _ W71 ⟨rfl, hM_⟩
                        replace hM := hM.call hM_
                        clear hM_ ht72
                        refine RunF.go 4 [8] (k' := (pl Go.Proofs.Try.f3 [1, 1, 1, 1, 1, 1, 1, 1, 1, 1, 1])) (L' := [(8, .bool (t70 == t72))]) (w' := W71) (by kernel_rfl) ?_
                        obtain rfl := Option.some.inj h
                        exact RunF.ret1 8 (.bool (t70 == t72)) (fn := Go.Proofs.Try.f3) Go.Proofs.Try.func3 (by kernel_rfl) (by kernel_rfl) (by kernel_rfl) ⟨_, rfl, rfl, (hM.pick [] rfl rfl)⟩
                      · replace h := of_false h c68
                        refine RunF.know 95 (b := false) (by kernel_rfl) c68 ?_
                        refine RunF.go 8 [8] (k' := (pl Go.Proofs.Try.f3 [1, 1, 1, 1, 1, 1, 1, 1, 1, 1, 1])) (L' := [(8, .bool false)]) (w' := W66) (by kernel_rfl) ?_
                        obtain rfl := Option.some.inj h
                        exact RunF.ret1 8 (.bool false) (fn := Go.Proofs.Try.f3) Go.Proofs.Try.func3 (by kernel_rfl) (by kernel_rfl) (by kernel_rfl) ⟨_, rfl, rfl, (hM.pick [] rfl rfl)⟩
                    · replace h := of_false h c63
                      refine RunF.know 88 (b := false) (by kernel_rfl) c63 ?_
                      refine RunF.go 15 [8] (k' := (pl Go.Proofs.Try.f3 [1, 1, 1, 1, 1, 1, 1, 1, 1, 1, 1])) (L' := [(8, .bool false)]) (w' := W61) (by kernel_rfl) ?_
                      obtain rfl := Option.some.inj h
                      exact RunF.ret1 8 (.bool false) (fn := Go.Proofs.Try.f3) Go.Proofs.Try.func3 (by kernel_rfl) (by kernel_rfl) (by kernel_rfl) ⟨_, rfl, rfl, (hM.pick [] rfl rfl)⟩
            exact l0 k (Nat.le_refl _) 0 _ (hM.pick [4, 2] rfl rfl) h


end Go.Scr.S
