/- The functions that the law AriaRounds reaches, as plain functions, and that each call answers so. -/
import Derived.Test.YtekkdjgcbkoepaaDoorProg
import Derived.Test.YtekkdjgcbkoepaaDoorXDeep3
set_option linter.unusedVariables false
set_option linter.unusedSimpArgs false
set_option linter.unnecessarySimpa false
namespace Go.Scr.S
open Go.RowKit (Below)
def Rs_aria_Aria (Z : Zp) (cs : List Value) (x : ((List (List Int)) × (List (List Int)))) : Prop := ∃ (c0 : List Value) (u1 : Value), cs = c0 ++ [u1] ∧ x.1.length = 4 ∧ Each2 ((rNums .u8) Z) c0 x.1 ∧ (rRows (rNums .u8)) Z u1 x.2
theorem up_Rs_aria_Aria (Z Y : Zp) (cs : List Value) (x : ((List (List Int)) × (List (List Int)))) (hs : ∀ W, Y W → Z W) : Rs_aria_Aria Z cs x → Rs_aria_Aria Y cs x := fun ⟨c0, u1, e, l0, h0, h1⟩ => ⟨c0, u1, e, l0, Each2.up (up_nums .u8) h0 hs, (up_rows (up_nums .u8)) _ _ _ _ hs h1⟩
/-! ### scrim/aria.fits: function 23 -/
def aria_fits.f (k : Nat) (a0 : List Int) : Option (Bool) := if (decide ((a0.length : Int) ≥ 16)) = true then (if (decide ((a0.length : Int) ≤ 32)) = true then (some ((Int.tmod (a0.length : Int) 8) == 0)) else (some false)) else (some false)
set_option maxRecDepth 100000 in
theorem aria_fits.calls (k : Nat) (Ap0 : Option Addr) (np0 cp0 : Nat) (a0 : List Int) (r : Bool) (w : World) (hr0 : Rd w (.slice Ap0 np0 cp0) (nums .u8 a0)) (h : aria_fits.f k a0 = some r) :
    Calls Go.Proofs.Tryd.prog 23 #[(.slice Ap0 np0 cp0)] w (Ret fun v w' => v = .bool r ∧ Mem w w' []) := by
  obtain rfl : a0.length = np0 := by have h_ := hr0.1; simpa [nums_length, bools_length, strs_length] using h_
  unfold aria_fits.f at h
  refine calls_of [.slice Ap0 a0.length cp0] (fn := Go.Proofs.Tryd.f23) Go.Proofs.Tryd.func23 (by kernel_rfl) (by kernel_rfl) ?_
  have hM := Mem.refl w
  refine RunF.go 10 [0, 6] (k' := (pin Go.Proofs.Tryd.f23 [1, 0] 4)) (L' := [(0, .slice Ap0 a0.length cp0), (6, .bool (decide ((a0.length : Int) ≥ 16)))]) (w' := w) (by kernel_rfl) ?_
  rcases two (decide ((a0.length : Int) ≥ 16)) with c1 | c1
  · replace h := of_true h c1
    refine RunF.know 6 (b := true) (by kernel_rfl) c1 ?_
    refine RunF.go 5 [0, 11] (k' := (pin Go.Proofs.Tryd.f23 [1, 0] 9)) (L' := [(0, .slice Ap0 a0.length cp0), (11, .bool (decide ((a0.length : Int) ≤ 32)))]) (w' := w) (by kernel_rfl) ?_
    rcases two (decide ((a0.length : Int) ≤ 32)) with c2 | c2
    · replace h := of_true h c2
      refine RunF.know 11 (b := true) (by kernel_rfl) c2 ?_
      refine RunF.go 7 [2] (k' := (pl Go.Proofs.Tryd.f23 [1, 1])) (L' := [(2, .bool ((Int.tmod (a0.length : Int) 8) == 0))]) (w' := w) (by kernel_rfl) ?_
      obtain rfl := Option.some.inj h
      exact RunF.ret1 2 (.bool ((Int.tmod (a0.length : Int) 8) == 0)) (fn := Go.Proofs.Tryd.f23) Go.Proofs.Tryd.func23 (by kernel_rfl) (by kernel_rfl) (by kernel_rfl) ⟨_, rfl, rfl, (hM.pick [] rfl rfl)⟩
    · replace h := of_false h c2
      refine RunF.know 11 (b := false) (by kernel_rfl) c2 ?_
      refine RunF.go 7 [2] (k' := (pl Go.Proofs.Tryd.f23 [1, 1])) (L' := [(2, .bool false)]) (w' := w) (by kernel_rfl) ?_
      obtain rfl := Option.some.inj h
      exact RunF.ret1 2 (.bool false) (fn := Go.Proofs.Tryd.f23) Go.Proofs.Tryd.func23 (by kernel_rfl) (by kernel_rfl) (by kernel_rfl) ⟨_, rfl, rfl, (hM.pick [] rfl rfl)⟩
  · replace h := of_false h c1
    refine RunF.know 6 (b := false) (by kernel_rfl) c1 ?_
    refine RunF.go 12 [2] (k' := (pl Go.Proofs.Tryd.f23 [1, 1])) (L' := [(2, .bool false)]) (w' := w) (by kernel_rfl) ?_
    obtain rfl := Option.some.inj h
    exact RunF.ret1 2 (.bool false) (fn := Go.Proofs.Tryd.f23) Go.Proofs.Tryd.func23 (by kernel_rfl) (by kernel_rfl) (by kernel_rfl) ⟨_, rfl, rfl, (hM.pick [] rfl rfl)⟩

/-! ### math/bits.OnesCount8: function 53 -/
def bits_OnesCount8.f (k : Nat) (a0 : Int) : Option (Int) := if (decide (0 ≤ a0)) = true then (if (decide (a0 < (256 : Int))) = true then (some (I64 (sb (⟨#[0, 1, 1, 2, 1, 2, 2, 3, 1, 2, 2, 3, 2, 3, 3, 4, 1, 2, 2, 3, 2, 3, 3, 4, 2, 3, 3, 4, 3, 4, 4, 5, 1, 2, 2, 3, 2, 3, 3, 4, 2, 3, 3, 4, 3, 4, 4, 5, 2, 3, 3, 4, 3, 4, 4, 5, 3, 4, 4, 5, 4, 5, 5, 6, 1, 2, 2, 3, 2, 3, 3, 4, 2, 3, 3, 4, 3, 4, 4, 5, 2, 3, 3, 4, 3, 4, 4, 5, 3, 4, 4, 5, 4, 5, 5, 6, 2, 3, 3, 4, 3, 4, 4, 5, 3, 4, 4, 5, 4, 5, 5, 6, 3, 4, 4, 5, 4, 5, 5, 6, 4, 5, 5, 6, 5, 6, 6, 7, 1, 2, 2, 3, 2, 3, 3, 4, 2, 3, 3, 4, 3, 4, 4, 5, 2, 3, 3, 4, 3, 4, 4, 5, 3, 4, 4, 5, 4, 5, 5, 6, 2, 3, 3, 4, 3, 4, 4, 5, 3, 4, 4, 5, 4, 5, 5, 6, 3, 4, 4, 5, 4, 5, 5, 6, 4, 5, 5, 6, 5, 6, 6, 7, 2, 3, 3, 4, 3, 4, 4, 5, 3, 4, 4, 5, 4, 5, 5, 6, 3, 4, 4, 5, 4, 5, 5, 6, 4, 5, 5, 6, 5, 6, 6, 7, 3, 4, 4, 5, 4, 5, 5, 6, 4, 5, 5, 6, 5, 6, 6, 7, 4, 5, 5, 6, 5, 6, 6, 7, 5, 6, 6, 7, 6, 7, 7, 8]⟩ : ByteArray) a0))) else (none)) else (none)
set_option maxRecDepth 100000 in
theorem bits_OnesCount8.calls (k : Nat) (a0 : Int) (r : Int) (w : World) (h : bits_OnesCount8.f k a0 = some r) :
    Calls Go.Proofs.Tryd.prog 53 #[.int .u8 a0] w (Ret fun v w' => v = .int .i64 r ∧ Mem w w' []) := by
  unfold bits_OnesCount8.f at h
  refine calls_of [.int .u8 a0] (fn := Go.Proofs.Tryd.f53) Go.Proofs.Tryd.func53 (by kernel_rfl) (by kernel_rfl) ?_
  have hM := Mem.refl w
  refine RunF.go 7 [3] (k' := (pin Go.Proofs.Tryd.f53 [1, 0] 1)) (L' := [(3, .int .u8 a0)]) (w' := w) (by kernel_rfl) ?_
  rcases two (decide (0 ≤ a0)) with c1 | c1
  · replace h := of_true h c1
    rcases two (decide (a0 < (256 : Int))) with c2 | c2
    · replace h := of_true h c2
      refine RunF.y (idxStr_y (d := some 4) (s := (⟨#[0, 1, 1, 2, 1, 2, 2, 3, 1, 2, 2, 3, 2, 3, 3, 4, 1, 2, 2, 3, 2, 3, 3, 4, 2, 3, 3, 4, 3, 4, 4, 5, 1, 2, 2, 3, 2, 3, 3, 4, 2, 3, 3, 4, 3, 4, 4, 5, 2, 3, 3, 4, 3, 4, 4, 5, 3, 4, 4, 5, 4, 5, 5, 6, 1, 2, 2, 3, 2, 3, 3, 4, 2, 3, 3, 4, 3, 4, 4, 5, 2, 3, 3, 4, 3, 4, 4, 5, 3, 4, 4, 5, 4, 5, 5, 6, 2, 3, 3, 4, 3, 4, 4, 5, 3, 4, 4, 5, 4, 5, 5, 6, 3, 4, 4, 5, 4, 5, 5, 6, 4, 5, 5, 6, 5, 6, 6, 7, 1, 2, 2, 3, 2, 3, 3, 4, 2, 3, 3, 4, 3, 4, 4, 5, 2, 3, 3, 4, 3, 4, 4, 5, 3, 4, 4, 5, 4, 5, 5, 6, 2, 3, 3, 4, 3, 4, 4, 5, 3, 4, 4, 5, 4, 5, 5, 6, 3, 4, 4, 5, 4, 5, 5, 6, 4, 5, 5, 6, 5, 6, 6, 7, 2, 3, 3, 4, 3, 4, 4, 5, 3, 4, 4, 5, 4, 5, 5, 6, 3, 4, 4, 5, 4, 5, 5, 6, 4, 5, 5, 6, 5, 6, 6, 7, 3, 4, 4, 5, 4, 5, 5, 6, 4, 5, 5, 6, 5, 6, 6, 7, 4, 5, 5, 6, 5, 6, 6, 7, 5, 6, 6, 7, 6, 7, 7, 8]⟩ : ByteArray)) (i := a0) (k2 := (pin Go.Proofs.Tryd.f53 [1, 0] 2)) (by kernel_rfl) (of_decide_eq_true c1) (of_decide_eq_true c2)) trivial ?_
      refine RunF.go 3 [2] (k' := (pl Go.Proofs.Tryd.f53 [1, 1])) (L' := [(2, .int .i64 (I64 (sb (⟨#[0, 1, 1, 2, 1, 2, 2, 3, 1, 2, 2, 3, 2, 3, 3, 4, 1, 2, 2, 3, 2, 3, 3, 4, 2, 3, 3, 4, 3, 4, 4, 5, 1, 2, 2, 3, 2, 3, 3, 4, 2, 3, 3, 4, 3, 4, 4, 5, 2, 3, 3, 4, 3, 4, 4, 5, 3, 4, 4, 5, 4, 5, 5, 6, 1, 2, 2, 3, 2, 3, 3, 4, 2, 3, 3, 4, 3, 4, 4, 5, 2, 3, 3, 4, 3, 4, 4, 5, 3, 4, 4, 5, 4, 5, 5, 6, 2, 3, 3, 4, 3, 4, 4, 5, 3, 4, 4, 5, 4, 5, 5, 6, 3, 4, 4, 5, 4, 5, 5, 6, 4, 5, 5, 6, 5, 6, 6, 7, 1, 2, 2, 3, 2, 3, 3, 4, 2, 3, 3, 4, 3, 4, 4, 5, 2, 3, 3, 4, 3, 4, 4, 5, 3, 4, 4, 5, 4, 5, 5, 6, 2, 3, 3, 4, 3, 4, 4, 5, 3, 4, 4, 5, 4, 5, 5, 6, 3, 4, 4, 5, 4, 5, 5, 6, 4, 5, 5, 6, 5, 6, 6, 7, 2, 3, 3, 4, 3, 4, 4, 5, 3, 4, 4, 5, 4, 5, 5, 6, 3, 4, 4, 5, 4, 5, 5, 6, 4, 5, 5, 6, 5, 6, 6, 7, 3, 4, 4, 5, 4, 5, 5, 6, 4, 5, 5, 6, 5, 6, 6, 7, 4, 5, 5, 6, 5, 6, 6, 7, 5, 6, 6, 7, 6, 7, 7, 8]⟩ : ByteArray) a0)))]) (w' := w) (by kernel_rfl) ?_
      obtain rfl := Option.some.inj h
      exact RunF.ret1 2 (.int .i64 (I64 (sb (⟨#[0, 1, 1, 2, 1, 2, 2, 3, 1, 2, 2, 3, 2, 3, 3, 4, 1, 2, 2, 3, 2, 3, 3, 4, 2, 3, 3, 4, 3, 4, 4, 5, 1, 2, 2, 3, 2, 3, 3, 4, 2, 3, 3, 4, 3, 4, 4, 5, 2, 3, 3, 4, 3, 4, 4, 5, 3, 4, 4, 5, 4, 5, 5, 6, 1, 2, 2, 3, 2, 3, 3, 4, 2, 3, 3, 4, 3, 4, 4, 5, 2, 3, 3, 4, 3, 4, 4, 5, 3, 4, 4, 5, 4, 5, 5, 6, 2, 3, 3, 4, 3, 4, 4, 5, 3, 4, 4, 5, 4, 5, 5, 6, 3, 4, 4, 5, 4, 5, 5, 6, 4, 5, 5, 6, 5, 6, 6, 7, 1, 2, 2, 3, 2, 3, 3, 4, 2, 3, 3, 4, 3, 4, 4, 5, 2, 3, 3, 4, 3, 4, 4, 5, 3, 4, 4, 5, 4, 5, 5, 6, 2, 3, 3, 4, 3, 4, 4, 5, 3, 4, 4, 5, 4, 5, 5, 6, 3, 4, 4, 5, 4, 5, 5, 6, 4, 5, 5, 6, 5, 6, 6, 7, 2, 3, 3, 4, 3, 4, 4, 5, 3, 4, 4, 5, 4, 5, 5, 6, 3, 4, 4, 5, 4, 5, 5, 6, 4, 5, 5, 6, 5, 6, 6, 7, 3, 4, 4, 5, 4, 5, 5, 6, 4, 5, 5, 6, 5, 6, 6, 7, 4, 5, 5, 6, 5, 6, 6, 7, 5, 6, 6, 7, 6, 7, 7, 8]⟩ : ByteArray) a0))) (fn := Go.Proofs.Tryd.f53) Go.Proofs.Tryd.func53 (by kernel_rfl) (by kernel_rfl) (by kernel_rfl) ⟨_, rfl, rfl, (hM.pick [] rfl rfl)⟩
    · replace h := of_false h c2
      cases h
  · replace h := of_false h c1
    cases h

/-! ### scrim/box.Affine: function 43 -/
def box_Affine.l0 : Nat → Int → (List Int) → Int → Int → Option (Int)
  | 0, _, _, _, _ => none
  | k + 1, a0, a1, x2_0, x10_0 => if (decide (x10_0 < 8)) = true then (if (decide (0 ≤ x10_0)) = true then (if (decide (x10_0 < (8 : Int))) = true then ((bits_OnesCount8.f k (band .u8 a0 (rd a1 x10_0))).bind fun t8 => (if (decide ((Int.tmod t8 2) > 0)) = true then (if (decide (0 ≤ x10_0)) = true then (if (decide (x10_0 < (8 : Int))) = true then ((some (bxor .u8 x2_0 (rd ([1, 2, 4, 8, 16, 32, 64, 128] : List Int) x10_0) : Int)).bind fun y13 => (box_Affine.l0 k a0 a1 y13 (I64 (x10_0 + 1)))) else (none)) else (none)) else (box_Affine.l0 k a0 a1 x2_0 (I64 (x10_0 + 1))))) else (none)) else (none)) else (some x2_0)
def box_Affine.f (k : Nat) (a0 : Int) (a1 : List Int) (a2 : Int) : Option (Int) := box_Affine.l0 k a0 a1 a2 0
set_option maxRecDepth 100000 in
theorem box_Affine.calls (k : Nat) (a0 : Int) (a1 : List Int) (a2 : Int) (r : Int) (w : World) (hl1 : a1.length = 8) (hG0 : Rg w 0 (nums .u8 [1, 2, 4, 8, 16, 32, 64, 128])) (h : box_Affine.f k a0 a1 a2 = some r) :
    Calls Go.Proofs.Tryd.prog 43 #[.int .u8 a0, .agg (nums .u8 a1).toArray, .int .u8 a2] w (Ret fun v w' => v = .int .u8 r ∧ Mem w w' []) := by
  unfold box_Affine.f at h
  refine calls_of [.int .u8 a0, .agg (nums .u8 a1).toArray, .int .u8 a2] (fn := Go.Proofs.Tryd.f43) Go.Proofs.Tryd.func43 (by kernel_rfl) (by kernel_rfl) ?_
  have hM := Mem.refl w
  refine RunF.go 2 [0, 1, 2] (k' := (pin Go.Proofs.Tryd.f43 [0] 0)) (L' := [(0, .int .u8 a0), (1, .agg (nums .u8 a1).toArray), (2, .int .u8 a2)]) (w' := w) (by kernel_rfl) ?_
  refine RunF.newVar 63 (nums .u8 a1) (d := some 4) (k2 := (pin Go.Proofs.Tryd.f43 [0] 1)) hM (by kernel_rfl) ?_
  intro g1 W2 hM
  refine RunF.go 5 [0, 2, 4] (k' := (pin Go.Proofs.Tryd.f43 [1, 0, 0] 0)) (L' := [(0, .int .u8 a0), (2, .int .u8 a2), (4, .pointer (some ⟨g1, 0, none⟩))]) (w' := W2) (by kernel_rfl) ?_
  refine RunF.y (ldv_y (d := some 9) (g := g1) (N := 8) (ty := 63) (k2 := (pin Go.Proofs.Tryd.f43 [1, 0, 0] 1)) (nums .u8 a1) (by kernel_rfl) (by simp only [nums_length, bools_length, strs_length]; exact hl1)) (hM.block 0 rfl) ?_
  refine RunF.go 4 [0, 2, 9, 10] (k' := (pl Go.Proofs.Tryd.f43 [1, 0, 1, 0, 0])) (L' := [(0, .int .u8 a0), (2, .int .u8 a2), (9, .agg (nums .u8 a1).toArray), (10, .int .i64 0)]) (w' := W2) (by kernel_rfl) ?_
  have l0 : ∀ (k_ : Nat), k_ ≤ k → ∀ (x2_0 : Int) (x10_0 : Int) (W : World) (hM : Mem w W []) (h : box_Affine.l0 k_ a0 a1 x2_0 x10_0 = some r), RunF Go.Proofs.Tryd.prog (Ret fun v w' => v = .int .u8 r ∧ Mem w w' []) 43 (pl Go.Proofs.Tryd.f43 [1, 0, 1, 0, 0]) 27 [(0, .int .u8 a0), (2, .int .u8 x2_0), (9, .agg (nums .u8 a1).toArray), (10, .int .i64 x10_0)] W := by
    intro k_
    induction k_ using Nat.strongRecOn with
    | _ k_ ih0 =>
      intro hk x2_0 x10_0 W hM h
      cases k_ with
      | zero => exact absurd h (by simp [box_Affine.l0])
      | succ k =>
        simp only [box_Affine.l0] at h
        replace ih0 : ∀ m, m ≤ k → _ := fun m hm => ih0 m (by omega) (by omega)
        refine RunF.go 5 [0, 2, 9, 10, 11] (k' := (pl Go.Proofs.Tryd.f43 [1, 0, 1, 0, 0, 1, 0])) (L' := [(0, .int .u8 a0), (2, .int .u8 x2_0), (9, .agg (nums .u8 a1).toArray), (10, .int .i64 x10_0), (11, .bool (decide (x10_0 < 8)))]) (w' := W) (by kernel_rfl) ?_
        rcases two (decide (x10_0 < 8)) with c4 | c4
        · replace h := of_true h c4
          refine RunF.know 11 (b := true) (by kernel_rfl) c4 ?_
          refine RunF.go 7 [0, 2, 9, 10, 12] (k' := (pin Go.Proofs.Tryd.f43 [1, 0, 1, 0, 0, 1, 1, 0, 0, 0] 1)) (L' := [(0, .int .u8 a0), (2, .int .u8 x2_0), (9, .agg (nums .u8 a1).toArray), (10, .int .i64 x10_0), (12, .int .i64 x10_0)]) (w' := W) (by kernel_rfl) ?_
          rcases two (decide (0 ≤ x10_0)) with c5 | c5
          · replace h := of_true h c5
            rcases two (decide (x10_0 < (8 : Int))) with c6 | c6
            · replace h := of_true h c6
              refine RunF.y (idxVal_y (d := some 13) (cs := (nums .u8 a1).toArray) (len := 8) (i := x10_0) (u := .int .u8 (rd a1 x10_0)) (k2 := (pin Go.Proofs.Tryd.f43 [1, 0, 1, 0, 0, 1, 1, 0, 0, 0] 2)) (by kernel_rfl) (of_decide_eq_true c5) (of_decide_eq_true c6) (by rw [List.getElem?_toArray]; exact nums_at (of_decide_eq_true c5) (by rw [show a1.length = 8 from hl1]; exact (of_decide_eq_true c6)))) trivial ?_
              refine RunF.go 8 [0, 2, 7, 9, 10, 16] (k' := (pin Go.Proofs.Tryd.f43 [1, 0, 1, 0, 0, 1, 1, 0, 0, 1, 0] 3)) (L' := [(0, .int .u8 a0), (2, .int .u8 x2_0), (7, .int .i64 x10_0), (9, .agg (nums .u8 a1).toArray), (10, .int .i64 x10_0), (16, .int .u8 (band .u8 a0 (rd a1 x10_0)))]) (w' := W) (by kernel_rfl) ?_
              obtain ⟨t8, ht8, h⟩ := Option.bind_eq_some_iff.mp h
              refine RunF.call (d := some 17) (g := 53) (args := #[.int .u8 (band .u8 a0 (rd a1 x10_0))]) (k2 := (pin Go.Proofs.Tryd.f43 [1, 0, 1, 0, 0, 1, 1, 0, 0, 1, 0] 4)) (by kernel_rfl) (bits_OnesCount8.calls k (band .u8 a0 (rd a1 x10_0)) t8 _ ht8) ?_
              rintro _ W7 ⟨rfl, hM_⟩
              replace hM := hM.call hM_
              clear hM_ ht8
              refine RunF.go 3 [0, 2, 7, 9, 10, 19] (k' := (pl Go.Proofs.Tryd.f43 [1, 0, 1, 0, 0, 1, 1, 0, 0, 1, 1])) (L' := [(0, .int .u8 a0), (2, .int .u8 x2_0), (7, .int .i64 x10_0), (9, .agg (nums .u8 a1).toArray), (10, .int .i64 x10_0), (19, .bool (decide ((Int.tmod t8 2) > 0)))]) (w' := W7) (by kernel_rfl) ?_
              rcases two (decide ((Int.tmod t8 2) > 0)) with c9 | c9
              · replace h := of_true h c9
                refine RunF.know 19 (b := true) (by kernel_rfl) c9 ?_
                refine RunF.go 4 [0, 9, 10, 20, 21] (k' := (pin Go.Proofs.Tryd.f43 [1, 0, 1, 0, 0, 1, 1, 0, 0, 1, 1, 0] 2)) (L' := [(0, .int .u8 a0), (9, .agg (nums .u8 a1).toArray), (10, .int .i64 x10_0), (20, .int .u8 x2_0), (21, .int .i64 x10_0)]) (w' := W7) (by kernel_rfl) ?_
                rcases two (decide (0 ≤ x10_0)) with c11 | c11
                · replace h := of_true h c11
                  rcases two (decide (x10_0 < (8 : Int))) with c12 | c12
                  · replace h := of_true h c12
                    have hiq10 := hG0.num (i := x10_0) (of_decide_eq_true c11) (of_decide_eq_true c12)
                    have hcq10 := (hG0.mono hM.below).num (i := x10_0) (of_decide_eq_true c11) (of_decide_eq_true c12)
                    refine RunF.y (idxArr_own (d := some 22) (g := 0) (len := 8) (i := x10_0) (k2 := (pin Go.Proofs.Tryd.f43 [1, 0, 1, 0, 0, 1, 1, 0, 0, 1, 1, 0] 3)) (by kernel_rfl) (of_decide_eq_true c11) (of_decide_eq_true c12)) trivial ?_
                    refine RunF.y (ld_y (d := some 23) (p := ⟨0, (x10_0 : Int).toNat, none⟩) (k2 := (pin Go.Proofs.Tryd.f43 [1, 0, 1, 0, 0, 1, 1, 0, 0, 1, 1, 0] 4)) (.int .u8 (rd ([1, 2, 4, 8, 16, 32, 64, 128] : List Int) x10_0)) (by kernel_rfl)) hcq10 ?_
                    refine RunF.go 9 [0, 2, 9, 10] (k' := (pl Go.Proofs.Tryd.f43 [1, 0, 1, 0, 0])) (L' := [(0, .int .u8 a0), (2, .int .u8 (bxor .u8 x2_0 (rd ([1, 2, 4, 8, 16, 32, 64, 128] : List Int) x10_0))), (9, .agg (nums .u8 a1).toArray), (10, .int .i64 (I64 (x10_0 + 1)))]) (w' := W7) (by kernel_rfl) ?_
                    obtain ⟨y13, hy, h⟩ := Option.bind_eq_some_iff.mp h
                    rw [show (bxor .u8 x2_0 (rd ([1, 2, 4, 8, 16, 32, 64, 128] : List Int) x10_0)) = y13 from Option.some.inj hy]
                    clear hy
                    exact ih0 k (by omega) y13 (I64 (x10_0 + 1)) _ (hM.pick [] rfl rfl) h
                  · replace h := of_false h c12
                    cases h
                · replace h := of_false h c11
                  cases h
              · replace h := of_false h c9
                refine RunF.know 19 (b := false) (by kernel_rfl) c9 ?_
                refine RunF.go 8 [0, 2, 9, 10] (k' := (pl Go.Proofs.Tryd.f43 [1, 0, 1, 0, 0])) (L' := [(0, .int .u8 a0), (2, .int .u8 x2_0), (9, .agg (nums .u8 a1).toArray), (10, .int .i64 (I64 (x10_0 + 1)))]) (w' := W7) (by kernel_rfl) ?_
                exact ih0 k (by omega) x2_0 (I64 (x10_0 + 1)) _ (hM.pick [] rfl rfl) h
            · replace h := of_false h c6
              cases h
          · replace h := of_false h c5
            cases h
        · replace h := of_false h c4
          refine RunF.know 11 (b := false) (by kernel_rfl) c4 ?_
          refine RunF.go 7 [6] (k' := (pl Go.Proofs.Tryd.f43 [1, 1, 1])) (L' := [(6, .int .u8 x2_0)]) (w' := W) (by kernel_rfl) ?_
          obtain rfl := Option.some.inj h
          exact RunF.ret1 6 (.int .u8 x2_0) (fn := Go.Proofs.Tryd.f43) Go.Proofs.Tryd.func43 (by kernel_rfl) (by kernel_rfl) (by kernel_rfl) ⟨_, rfl, rfl, (hM.pick [] rfl rfl)⟩
  exact l0 k (Nat.le_refl _) a2 0 _ (hM.pick [] rfl rfl) h

/-! ### scrim/field.Mul: function 54 -/
def field_Mul.l0 : Nat → Int → Int → Int → Int → Option (Int)
  | 0, _, _, _, _ => none
  | k + 1, a2, x7_0, x8_0, x9_0 => if (x9_0 == 0) = true then (some (U8 (x7_0))) else (if (decide ((band .i64 x9_0 1) > 0)) = true then (if (decide ((shl .i64 x8_0 1) ≥ 256)) = true then ((some (band .i64 (bxor .i64 (shl .i64 x8_0 1) a2) 255 : Int)).bind fun y4 => (field_Mul.l0 k a2 (bxor .i64 x7_0 x8_0) y4 (shr x9_0 1))) else (field_Mul.l0 k a2 (bxor .i64 x7_0 x8_0) (band .i64 (shl .i64 x8_0 1) 255) (shr x9_0 1))) else (if (decide ((shl .i64 x8_0 1) ≥ 256)) = true then ((some (band .i64 (bxor .i64 (shl .i64 x8_0 1) a2) 255 : Int)).bind fun y6 => (field_Mul.l0 k a2 x7_0 y6 (shr x9_0 1))) else (field_Mul.l0 k a2 x7_0 (band .i64 (shl .i64 x8_0 1) 255) (shr x9_0 1))))
def field_Mul.f (k : Nat) (a0 : Int) (a1 : Int) (a2 : Int) : Option (Int) := field_Mul.l0 k a2 0 (I64 (a0)) (I64 (a1))
set_option maxRecDepth 100000 in
theorem field_Mul.calls (k : Nat) (a0 : Int) (a1 : Int) (a2 : Int) (r : Int) (w : World) (h : field_Mul.f k a0 a1 a2 = some r) :
    Calls Go.Proofs.Tryd.prog 54 #[.int .u8 a0, .int .u8 a1, .int .i64 a2] w (Ret fun v w' => v = .int .u8 r ∧ Mem w w' []) := by
  unfold field_Mul.f at h
  refine calls_of [.int .u8 a0, .int .u8 a1, .int .i64 a2] (fn := Go.Proofs.Tryd.f54) Go.Proofs.Tryd.func54 (by kernel_rfl) (by kernel_rfl) ?_
  have hM := Mem.refl w
  refine RunF.go 17 [2, 7, 8, 9] (k' := (pl Go.Proofs.Tryd.f54 [1, 0, 1, 1])) (L' := [(2, .int .i64 a2), (7, .int .i64 0), (8, .int .i64 (I64 (a0))), (9, .int .i64 (I64 (a1)))]) (w' := w) (by kernel_rfl) ?_
  have l0 : ∀ (k_ : Nat), k_ ≤ k → ∀ (x7_0 : Int) (x8_0 : Int) (x9_0 : Int) (W : World) (hM : Mem w W []) (h : field_Mul.l0 k_ a2 x7_0 x8_0 x9_0 = some r), RunF Go.Proofs.Tryd.prog (Ret fun v w' => v = .int .u8 r ∧ Mem w w' []) 54 (pl Go.Proofs.Tryd.f54 [1, 0, 1, 1]) 35 [(2, .int .i64 a2), (7, .int .i64 x7_0), (8, .int .i64 x8_0), (9, .int .i64 x9_0)] W := by
    intro k_
    induction k_ using Nat.strongRecOn with
    | _ k_ ih0 =>
      intro hk x7_0 x8_0 x9_0 W hM h
      cases k_ with
      | zero => exact absurd h (by simp [field_Mul.l0])
      | succ k =>
        simp only [field_Mul.l0] at h
        replace ih0 : ∀ m, m ≤ k → _ := fun m hm => ih0 m (by omega) (by omega)
        refine RunF.go 6 [2, 7, 8, 9, 15] (k' := (pl Go.Proofs.Tryd.f54 [1, 0, 1, 1, 0, 1])) (L' := [(2, .int .i64 a2), (7, .int .i64 x7_0), (8, .int .i64 x8_0), (9, .int .i64 x9_0), (15, .bool (x9_0 == 0))]) (w' := W) (by kernel_rfl) ?_
        rcases two ((x9_0 == 0)) with c1 | c1
        · replace h := of_true h c1
          refine RunF.know 15 (b := true) (by kernel_rfl) c1 ?_
          refine RunF.go 7 [6] (k' := (pl Go.Proofs.Tryd.f54 [1, 0, 1, 1, 0, 1, 0, 1])) (L' := [(6, .int .u8 (U8 (x7_0)))]) (w' := W) (by kernel_rfl) ?_
          obtain rfl := Option.some.inj h
          exact RunF.ret1 6 (.int .u8 (U8 (x7_0))) (fn := Go.Proofs.Tryd.f54) Go.Proofs.Tryd.func54 (by kernel_rfl) (by kernel_rfl) (by kernel_rfl) ⟨_, rfl, rfl, (hM.pick [] rfl rfl)⟩
        · replace h := of_false h c1
          refine RunF.know 15 (b := false) (by kernel_rfl) c1 ?_
          refine RunF.go 9 [2, 7, 8, 9, 20] (k' := (pl Go.Proofs.Tryd.f54 [1, 0, 1, 1, 1, 0, 1])) (L' := [(2, .int .i64 a2), (7, .int .i64 x7_0), (8, .int .i64 x8_0), (9, .int .i64 x9_0), (20, .bool (decide ((band .i64 x9_0 1) > 0)))]) (w' := W) (by kernel_rfl) ?_
          rcases two (decide ((band .i64 x9_0 1) > 0)) with c2 | c2
          · replace h := of_true h c2
            refine RunF.know 20 (b := true) (by kernel_rfl) c2 ?_
            refine RunF.go 22 [2, 7, 8, 9, 29] (k' := (pl Go.Proofs.Tryd.f54 [1, 0, 1, 1, 1, 1, 0, 1, 1])) (L' := [(2, .int .i64 a2), (7, .int .i64 (bxor .i64 x7_0 x8_0)), (8, .int .i64 (shl .i64 x8_0 1)), (9, .int .i64 (shr x9_0 1)), (29, .bool (decide ((shl .i64 x8_0 1) ≥ 256)))]) (w' := W) (by kernel_rfl) ?_
            rcases two (decide ((shl .i64 x8_0 1) ≥ 256)) with c3 | c3
            · replace h := of_true h c3
              refine RunF.know 29 (b := true) (by kernel_rfl) c3 ?_
              refine RunF.go 16 [2, 7, 8, 9] (k' := (pl Go.Proofs.Tryd.f54 [1, 0, 1, 1])) (L' := [(2, .int .i64 a2), (7, .int .i64 (bxor .i64 x7_0 x8_0)), (8, .int .i64 (band .i64 (bxor .i64 (shl .i64 x8_0 1) a2) 255)), (9, .int .i64 (shr x9_0 1))]) (w' := W) (by kernel_rfl) ?_
              obtain ⟨y4, hy, h⟩ := Option.bind_eq_some_iff.mp h
              rw [show (band .i64 (bxor .i64 (shl .i64 x8_0 1) a2) 255) = y4 from Option.some.inj hy]
              clear hy
              exact ih0 k (by omega) (bxor .i64 x7_0 x8_0) y4 (shr x9_0 1) _ (hM.pick [] rfl rfl) h
            · replace h := of_false h c3
              refine RunF.know 29 (b := false) (by kernel_rfl) c3 ?_
              refine RunF.go 11 [2, 7, 8, 9] (k' := (pl Go.Proofs.Tryd.f54 [1, 0, 1, 1])) (L' := [(2, .int .i64 a2), (7, .int .i64 (bxor .i64 x7_0 x8_0)), (8, .int .i64 (band .i64 (shl .i64 x8_0 1) 255)), (9, .int .i64 (shr x9_0 1))]) (w' := W) (by kernel_rfl) ?_
              exact ih0 k (by omega) (bxor .i64 x7_0 x8_0) (band .i64 (shl .i64 x8_0 1) 255) (shr x9_0 1) _ (hM.pick [] rfl rfl) h
          · replace h := of_false h c2
            refine RunF.know 20 (b := false) (by kernel_rfl) c2 ?_
            refine RunF.go 17 [2, 7, 8, 9, 29] (k' := (pl Go.Proofs.Tryd.f54 [1, 0, 1, 1, 1, 1, 0, 1, 1])) (L' := [(2, .int .i64 a2), (7, .int .i64 x7_0), (8, .int .i64 (shl .i64 x8_0 1)), (9, .int .i64 (shr x9_0 1)), (29, .bool (decide ((shl .i64 x8_0 1) ≥ 256)))]) (w' := W) (by kernel_rfl) ?_
            rcases two (decide ((shl .i64 x8_0 1) ≥ 256)) with c5 | c5
            · replace h := of_true h c5
              refine RunF.know 29 (b := true) (by kernel_rfl) c5 ?_
              refine RunF.go 16 [2, 7, 8, 9] (k' := (pl Go.Proofs.Tryd.f54 [1, 0, 1, 1])) (L' := [(2, .int .i64 a2), (7, .int .i64 x7_0), (8, .int .i64 (band .i64 (bxor .i64 (shl .i64 x8_0 1) a2) 255)), (9, .int .i64 (shr x9_0 1))]) (w' := W) (by kernel_rfl) ?_
              obtain ⟨y6, hy, h⟩ := Option.bind_eq_some_iff.mp h
              rw [show (band .i64 (bxor .i64 (shl .i64 x8_0 1) a2) 255) = y6 from Option.some.inj hy]
              clear hy
              exact ih0 k (by omega) x7_0 y6 (shr x9_0 1) _ (hM.pick [] rfl rfl) h
            · replace h := of_false h c5
              refine RunF.know 29 (b := false) (by kernel_rfl) c5 ?_
              refine RunF.go 11 [2, 7, 8, 9] (k' := (pl Go.Proofs.Tryd.f54 [1, 0, 1, 1])) (L' := [(2, .int .i64 a2), (7, .int .i64 x7_0), (8, .int .i64 (band .i64 (shl .i64 x8_0 1) 255)), (9, .int .i64 (shr x9_0 1))]) (w' := W) (by kernel_rfl) ?_
              exact ih0 k (by omega) x7_0 (band .i64 (shl .i64 x8_0 1) 255) (shr x9_0 1) _ (hM.pick [] rfl rfl) h
  exact l0 k (Nat.le_refl _) 0 (I64 (a0)) (I64 (a1)) _ (hM.pick [] rfl rfl) h

/-! ### scrim/field.Pow: function 44 -/
def field_Pow.l0 : Nat → Int → Int → Int → Int → Option (Int)
  | 0, _, _, _, _ => none
  | k + 1, a2, x0_0, x1_0, x7_0 => if (decide (x1_0 ≤ 0)) = true then (some x7_0) else (if (decide ((band .i64 x1_0 1) > 0)) = true then ((field_Mul.f k x7_0 x0_0 a2).bind fun t4 => ((field_Mul.f k x0_0 x0_0 a2).bind fun t6 => (field_Pow.l0 k a2 t6 (shr x1_0 1) t4))) else ((field_Mul.f k x0_0 x0_0 a2).bind fun t8 => (field_Pow.l0 k a2 t8 (shr x1_0 1) x7_0)))
def field_Pow.f (k : Nat) (a0 : Int) (a1 : Int) (a2 : Int) : Option (Int) := field_Pow.l0 k a2 a0 a1 1
set_option maxRecDepth 100000 in
theorem field_Pow.calls (k : Nat) (a0 : Int) (a1 : Int) (a2 : Int) (r : Int) (w : World) (h : field_Pow.f k a0 a1 a2 = some r) :
    Calls Go.Proofs.Tryd.prog 44 #[.int .u8 a0, .int .i64 a1, .int .i64 a2] w (Ret fun v w' => v = .int .u8 r ∧ Mem w w' []) := by
  unfold field_Pow.f at h
  refine calls_of [.int .u8 a0, .int .i64 a1, .int .i64 a2] (fn := Go.Proofs.Tryd.f44) Go.Proofs.Tryd.func44 (by kernel_rfl) (by kernel_rfl) ?_
  have hM := Mem.refl w
  refine RunF.go 11 [0, 1, 2, 7] (k' := (pl Go.Proofs.Tryd.f44 [1, 0, 1, 1])) (L' := [(0, .int .u8 a0), (1, .int .i64 a1), (2, .int .i64 a2), (7, .int .u8 1)]) (w' := w) (by kernel_rfl) ?_
  have l0 : ∀ (k_ : Nat), k_ ≤ k → ∀ (x0_0 : Int) (x1_0 : Int) (x7_0 : Int) (W : World) (hM : Mem w W []) (h : field_Pow.l0 k_ a2 x0_0 x1_0 x7_0 = some r), RunF Go.Proofs.Tryd.prog (Ret fun v w' => v = .int .u8 r ∧ Mem w w' []) 44 (pl Go.Proofs.Tryd.f44 [1, 0, 1, 1]) 24 [(0, .int .u8 x0_0), (1, .int .i64 x1_0), (2, .int .i64 a2), (7, .int .u8 x7_0)] W := by
    intro k_
    induction k_ using Nat.strongRecOn with
    | _ k_ ih0 =>
      intro hk x0_0 x1_0 x7_0 W hM h
      cases k_ with
      | zero => exact absurd h (by simp [field_Pow.l0])
      | succ k =>
        simp only [field_Pow.l0] at h
        replace ih0 : ∀ m, m ≤ k → _ := fun m hm => ih0 m (by omega) (by omega)
        refine RunF.go 6 [0, 1, 2, 7, 9] (k' := (pl Go.Proofs.Tryd.f44 [1, 0, 1, 1, 0, 1])) (L' := [(0, .int .u8 x0_0), (1, .int .i64 x1_0), (2, .int .i64 a2), (7, .int .u8 x7_0), (9, .bool (decide (x1_0 ≤ 0)))]) (w' := W) (by kernel_rfl) ?_
        rcases two (decide (x1_0 ≤ 0)) with c1 | c1
        · replace h := of_true h c1
          refine RunF.know 9 (b := true) (by kernel_rfl) c1 ?_
          refine RunF.go 6 [6] (k' := (pl Go.Proofs.Tryd.f44 [1, 0, 1, 1, 0, 1, 0, 1])) (L' := [(6, .int .u8 x7_0)]) (w' := W) (by kernel_rfl) ?_
          obtain rfl := Option.some.inj h
          exact RunF.ret1 6 (.int .u8 x7_0) (fn := Go.Proofs.Tryd.f44) Go.Proofs.Tryd.func44 (by kernel_rfl) (by kernel_rfl) (by kernel_rfl) ⟨_, rfl, rfl, (hM.pick [] rfl rfl)⟩
        · replace h := of_false h c1
          refine RunF.know 9 (b := false) (by kernel_rfl) c1 ?_
          refine RunF.go 9 [0, 1, 2, 7, 13] (k' := (pl Go.Proofs.Tryd.f44 [1, 0, 1, 1, 1, 0, 1])) (L' := [(0, .int .u8 x0_0), (1, .int .i64 x1_0), (2, .int .i64 a2), (7, .int .u8 x7_0), (13, .bool (decide ((band .i64 x1_0 1) > 0)))]) (w' := W) (by kernel_rfl) ?_
          rcases two (decide ((band .i64 x1_0 1) > 0)) with c2 | c2
          · replace h := of_true h c2
            refine RunF.know 13 (b := true) (by kernel_rfl) c2 ?_
            refine RunF.go 5 [0, 1, 2, 14, 15, 16] (k' := (pin Go.Proofs.Tryd.f44 [1, 0, 1, 1, 1, 0, 1, 0] 3)) (L' := [(0, .int .u8 x0_0), (1, .int .i64 x1_0), (2, .int .i64 a2), (14, .int .u8 x7_0), (15, .int .u8 x0_0), (16, .int .i64 a2)]) (w' := W) (by kernel_rfl) ?_
            obtain ⟨t4, ht4, h⟩ := Option.bind_eq_some_iff.mp h
            refine RunF.call (d := some 17) (g := 54) (args := #[.int .u8 x7_0, .int .u8 x0_0, .int .i64 a2]) (k2 := (pin Go.Proofs.Tryd.f44 [1, 0, 1, 1, 1, 0, 1, 0] 4)) (by kernel_rfl) (field_Mul.calls k x7_0 x0_0 a2 t4 _ ht4) ?_
            rintro _ W3 ⟨rfl, hM_⟩
            replace hM := hM.call hM_
            clear hM_ ht4
            refine RunF.go 7 [1, 2, 7, 18, 19, 20] (k' := (pin Go.Proofs.Tryd.f44 [1, 0, 1, 1, 1, 1, 0] 3)) (L' := [(1, .int .i64 x1_0), (2, .int .i64 a2), (7, .int .u8 t4), (18, .int .u8 x0_0), (19, .int .u8 x0_0), (20, .int .i64 a2)]) (w' := W3) (by kernel_rfl) ?_
            obtain ⟨t6, ht6, h⟩ := Option.bind_eq_some_iff.mp h
            refine RunF.call (d := some 21) (g := 54) (args := #[.int .u8 x0_0, .int .u8 x0_0, .int .i64 a2]) (k2 := (pin Go.Proofs.Tryd.f44 [1, 0, 1, 1, 1, 1, 0] 4)) (by kernel_rfl) (field_Mul.calls k x0_0 x0_0 a2 t6 _ ht6) ?_
            rintro _ W5 ⟨rfl, hM_⟩
            replace hM := hM.call hM_
            clear hM_ ht6
            refine RunF.go 8 [0, 1, 2, 7] (k' := (pl Go.Proofs.Tryd.f44 [1, 0, 1, 1])) (L' := [(0, .int .u8 t6), (1, .int .i64 (shr x1_0 1)), (2, .int .i64 a2), (7, .int .u8 t4)]) (w' := W5) (by kernel_rfl) ?_
            exact ih0 k (by omega) t6 (shr x1_0 1) t4 _ (hM.pick [] rfl rfl) h
          · replace h := of_false h c2
            refine RunF.know 13 (b := false) (by kernel_rfl) c2 ?_
            refine RunF.go 7 [1, 2, 7, 18, 19, 20] (k' := (pin Go.Proofs.Tryd.f44 [1, 0, 1, 1, 1, 1, 0] 3)) (L' := [(1, .int .i64 x1_0), (2, .int .i64 a2), (7, .int .u8 x7_0), (18, .int .u8 x0_0), (19, .int .u8 x0_0), (20, .int .i64 a2)]) (w' := W) (by kernel_rfl) ?_
            obtain ⟨t8, ht8, h⟩ := Option.bind_eq_some_iff.mp h
            refine RunF.call (d := some 21) (g := 54) (args := #[.int .u8 x0_0, .int .u8 x0_0, .int .i64 a2]) (k2 := (pin Go.Proofs.Tryd.f44 [1, 0, 1, 1, 1, 1, 0] 4)) (by kernel_rfl) (field_Mul.calls k x0_0 x0_0 a2 t8 _ ht8) ?_
            rintro _ W7 ⟨rfl, hM_⟩
            replace hM := hM.call hM_
            clear hM_ ht8
            refine RunF.go 8 [0, 1, 2, 7] (k' := (pl Go.Proofs.Tryd.f44 [1, 0, 1, 1])) (L' := [(0, .int .u8 t8), (1, .int .i64 (shr x1_0 1)), (2, .int .i64 a2), (7, .int .u8 x7_0)]) (w' := W7) (by kernel_rfl) ?_
            exact ih0 k (by omega) t8 (shr x1_0 1) x7_0 _ (hM.pick [] rfl rfl) h
  exact l0 k (Nat.le_refl _) a0 a1 1 _ (hM.pick [] rfl rfl) h

/-! ### scrim/box.Make: function 33 -/
def box_Make.l0 : Nat → Int → Int → (List Int) → Int → (List Int) → Int → Option (List Int)
  | 0, _, _, _, _, _, _ => none
  | k + 1, a0, a1, a2, a3, x9_0, x14_0 => if (decide (x14_0 < 256)) = true then ((field_Pow.f k (U8 (x14_0)) a0 a1).bind fun t11 => ((box_Affine.f k t11 a2 a3).bind fun t13 => (if (decide (0 ≤ x14_0)) = true then (if (decide (x14_0 < (256 : Int))) = true then (box_Make.l0 k a0 a1 a2 a3 (x9_0.set (x14_0 : Int).toNat t13) (I64 (x14_0 + 1))) else (none)) else (none)))) else (some x9_0)
def box_Make.f (k : Nat) (a0 : Int) (a1 : Int) (a2 : List Int) (a3 : Int) : Option (List Int) := box_Make.l0 k a0 a1 a2 a3 (List.replicate 256 (0 : Int)) 0
set_option maxRecDepth 100000 in
theorem box_Make.calls (k : Nat) (a0 : Int) (a1 : Int) (a2 : List Int) (a3 : Int) (r : List Int) (w : World) (hl2 : a2.length = 8) (hG0 : Rg w 0 (nums .u8 [1, 2, 4, 8, 16, 32, 64, 128])) (h : box_Make.f k a0 a1 a2 a3 = some r) :
    Calls Go.Proofs.Tryd.prog 33 #[.int .i64 a0, .int .i64 a1, .agg (nums .u8 a2).toArray, .int .u8 a3] w (Ret fun v w' => ∃ A0' n0' c0', v = .slice A0' n0' c0' ∧ Mem w w' [⟨.slice A0' n0' c0', 5, 1, nums .u8 r⟩]) := by
  unfold box_Make.f at h
  refine calls_of [.int .i64 a0, .int .i64 a1, .agg (nums .u8 a2).toArray, .int .u8 a3] (fn := Go.Proofs.Tryd.f33) Go.Proofs.Tryd.func33 (by kernel_rfl) (by kernel_rfl) ?_
  have hM := Mem.refl w
  refine RunF.go 2 [0, 1, 2, 3] (k' := (pin Go.Proofs.Tryd.f33 [0] 0)) (L' := [(0, .int .i64 a0), (1, .int .i64 a1), (2, .agg (nums .u8 a2).toArray), (3, .int .u8 a3)]) (w' := w) (by kernel_rfl) ?_
  refine RunF.newVar 63 (nums .u8 a2) (d := some 6) (k2 := (pin Go.Proofs.Tryd.f33 [0] 1)) hM (by kernel_rfl) ?_
  intro g1 W2 hM
  refine RunF.go 4 [0, 1, 3, 6] (k' := (pin Go.Proofs.Tryd.f33 [1, 0] 0)) (L' := [(0, .int .i64 a0), (1, .int .i64 a1), (3, .int .u8 a3), (6, .pointer (some ⟨g1, 0, none⟩))]) (w' := W2) (by kernel_rfl) ?_
  obtain ⟨W4, hD, hM', hB_⟩ := mk_does (P := Go.Proofs.Tryd.prog) (n := 30) (k := (pin Go.Proofs.Tryd.f33 [1, 0] 0)) (L := [(0, .int .i64 a0), (1, .int .i64 a1), (3, .int .u8 a3), (6, .pointer (some ⟨g1, 0, none⟩))]) (d := some 11) (e := 5) (z := .int .u8 0) (l := 256) (c := 256) (k2 := (pin Go.Proofs.Tryd.f33 [1, 0] 1)) (by kernel_rfl) (by omega) (by omega) (by omega) hM
  rw [rep_nums] at hM'
  refine RunF.does hD ?_
  replace hM := hM'; clear hD hM'
  generalize W2.heap.size = g5 at hM ⊢
  refine RunF.go 11 [0, 1, 3, 6, 9, 13, 14] (k' := (pl Go.Proofs.Tryd.f33 [1, 1, 0, 1, 0, 0])) (L' := [(0, .int .i64 a0), (1, .int .i64 a1), (3, .int .u8 a3), (6, .pointer (some ⟨g1, 0, none⟩)), (9, .slice (some ⟨g5, 0, none⟩) 256 256), (13, .int .i64 256), (14, .int .i64 0)]) (w' := W4) (by kernel_rfl) ?_
  have l0 : ∀ (k_ : Nat), k_ ≤ k → ∀ (x9_0 : List Int) (x14_0 : Int) (W : World) (hM : Mem w W [⟨.pointer (some ⟨g1, 0, none⟩), 63, 0, nums .u8 a2⟩, ⟨.slice (some ⟨g5, 0, none⟩) 256 256, 5, 1, nums .u8 x9_0⟩]) (h : box_Make.l0 k_ a0 a1 a2 a3 x9_0 x14_0 = some r), RunF Go.Proofs.Tryd.prog (Ret fun v w' => ∃ A0' n0' c0', v = .slice A0' n0' c0' ∧ Mem w w' [⟨.slice A0' n0' c0', 5, 1, nums .u8 r⟩]) 33 (pl Go.Proofs.Tryd.f33 [1, 1, 0, 1, 0, 0]) 30 [(0, .int .i64 a0), (1, .int .i64 a1), (3, .int .u8 a3), (6, .pointer (some ⟨g1, 0, none⟩)), (9, .slice (some ⟨g5, 0, none⟩) 256 256), (13, .int .i64 256), (14, .int .i64 x14_0)] W := by
    intro k_
    induction k_ using Nat.strongRecOn with
    | _ k_ ih0 =>
      intro hk x9_0 x14_0 W hM h
      cases k_ with
      | zero => exact absurd h (by simp [box_Make.l0])
      | succ k =>
        simp only [box_Make.l0] at h
        replace ih0 : ∀ m, m ≤ k → _ := fun m hm => ih0 m (by omega) (by omega)
        refine RunF.go 5 [0, 1, 3, 6, 9, 13, 14, 15] (k' := (pl Go.Proofs.Tryd.f33 [1, 1, 0, 1, 0, 0, 1, 0])) (L' := [(0, .int .i64 a0), (1, .int .i64 a1), (3, .int .u8 a3), (6, .pointer (some ⟨g1, 0, none⟩)), (9, .slice (some ⟨g5, 0, none⟩) 256 256), (13, .int .i64 256), (14, .int .i64 x14_0), (15, .bool (decide (x14_0 < 256)))]) (w' := W) (by kernel_rfl) ?_
        rcases two (decide (x14_0 < 256)) with c7 | c7
        · replace h := of_true h c7
          refine RunF.know 15 (b := true) (by kernel_rfl) c7 ?_
          refine RunF.go 9 [0, 1, 3, 6, 9, 10, 13, 14] (k' := (pl Go.Proofs.Tryd.f33 [1, 1, 0, 1, 0, 0, 1, 1, 0, 0, 1])) (L' := [(0, .int .i64 a0), (1, .int .i64 a1), (3, .int .u8 a3), (6, .pointer (some ⟨g1, 0, none⟩)), (9, .slice (some ⟨g5, 0, none⟩) 256 256), (10, .int .i64 x14_0), (13, .int .i64 256), (14, .int .i64 x14_0)]) (w' := W) (by kernel_rfl) ?_
          refine RunF.draw (Still ({ W with drawn := W.drawn + 1 } : World) [.slice (some ⟨g5, 0, none⟩) 256 256]) (by kernel_rfl) (by kernel_rfl) ?_
          have hMd9 := hM.drew
          have hS := Still.refl ({ W with drawn := W.drawn + 1 } : World) [.slice (some ⟨g5, 0, none⟩) 256 256]
          generalize ({ W with drawn := W.drawn + 1 } : World) = W8 at hMd9 hS ⊢
          replace hM := hMd9
          refine RunAny.y 0 (by kernel_rfl) (yl_pure (d := some 17) (v := .slice (some ⟨g5, 0, none⟩) 256 256) (k2 := [.inRegion (opsOf (pl Go.Proofs.Tryd.f33 [1, 1, 0, 1, 0, 0, 1, 1, 0, 0, 1])) []]) fun w => by kernel_rfl) (fun _ _ => trivial) hS ?_
          refine RunAny.y 1 (by kernel_rfl) (yl_pure (d := some 18) (v := .int .i64 x14_0) (k2 := [.inRegion (opsOf (pl Go.Proofs.Tryd.f33 [1, 1, 0, 1, 0, 0, 1, 1, 0, 0, 1])) []]) fun w => by kernel_rfl) (fun _ _ => trivial) hS ?_
          refine RunAny.y 2 (by kernel_rfl) (yl_pure (d := some 19) (v := .int .i64 x14_0) (k2 := [.inRegion (opsOf (pl Go.Proofs.Tryd.f33 [1, 1, 0, 1, 0, 0, 1, 1, 0, 0, 1])) []]) fun w => by kernel_rfl) (fun _ _ => trivial) hS ?_
          refine RunAny.y 3 (by kernel_rfl) (yl_pure (d := some 20) (v := .int .u8 (U8 (x14_0))) (k2 := [.inRegion (opsOf (pl Go.Proofs.Tryd.f33 [1, 1, 0, 1, 0, 0, 1, 1, 0, 0, 1])) []]) fun w => by kernel_rfl) (fun _ _ => trivial) hS ?_
          refine RunAny.y 4 (by kernel_rfl) (yl_pure (d := some 21) (v := .int .i64 a0) (k2 := [.inRegion (opsOf (pl Go.Proofs.Tryd.f33 [1, 1, 0, 1, 0, 0, 1, 1, 0, 0, 1])) []]) fun w => by kernel_rfl) (fun _ _ => trivial) hS ?_
          refine RunAny.y 5 (by kernel_rfl) (yl_pure (d := some 22) (v := .int .i64 a1) (k2 := [.inRegion (opsOf (pl Go.Proofs.Tryd.f33 [1, 1, 0, 1, 0, 0, 1, 1, 0, 0, 1])) []]) fun w => by kernel_rfl) (fun _ _ => trivial) hS ?_
          refine RunAny.y 7 (by kernel_rfl) (ldv_y (d := some 24) (g := g1) (N := 8) (ty := 63) (k2 := [.inRegion (opsOf (pl Go.Proofs.Tryd.f33 [1, 1, 0, 1, 0, 0, 1, 1, 0, 0, 1])) []]) (nums .u8 a2) (by kernel_rfl) (by simp only [nums_length, bools_length, strs_length]; exact hl2)) (fun _ hs => hs.block (hM.block 0 rfl) (by intro v hv; simp only [List.mem_cons, List.not_mem_nil, or_false] at hv; rcases hv with rfl; exact (hM.ne 0 1 rfl rfl rfl rfl))) hS ?_
          refine RunAny.y 8 (by kernel_rfl) (yl_pure (d := some 25) (v := .int .u8 a3) (k2 := [.inRegion (opsOf (pl Go.Proofs.Tryd.f33 [1, 1, 0, 1, 0, 0, 1, 1, 0, 0, 1])) []]) fun w => by kernel_rfl) (fun _ _ => trivial) hS ?_
          obtain ⟨t11, ht11, h⟩ := Option.bind_eq_some_iff.mp h
          refine RunAny.call 6 (d := some 23) (g := 44) (args := #[.int .u8 (U8 (x14_0)), .int .i64 a0, .int .i64 a1]) (by kernel_rfl) (by kernel_rfl) (field_Pow.calls k (U8 (x14_0)) a0 a1 t11 _ ht11) (by rintro _ _ ⟨rfl, hM_⟩; exact hS.below hM_.below) ?_
          rintro _ W10 ⟨rfl, hM_⟩
          replace hS := hS.below hM_.below
          replace hM := hM.call hM_
          clear hM_ ht11
          refine RunAny.rebase hS ?_
          replace hS := Still.refl W10 [.slice (some ⟨g5, 0, none⟩) 256 256]
          obtain ⟨t13, ht13, h⟩ := Option.bind_eq_some_iff.mp h
          refine RunAny.call 9 (d := some 26) (g := 43) (args := #[.int .u8 t11, .agg (nums .u8 a2).toArray, .int .u8 a3]) (by kernel_rfl) (by kernel_rfl) (box_Affine.calls k t11 a2 a3 t13 _ hl2 (hG0.mono hM.below) ht13) (by rintro _ _ ⟨rfl, hM_⟩; exact hS.below hM_.below) ?_
          rintro _ W12 ⟨rfl, hM_⟩
          replace hS := hS.below hM_.below
          replace hM := hM.call hM_
          clear hM_ ht13
          refine RunAny.rebase hS ?_
          replace hS := Still.refl W12 [.slice (some ⟨g5, 0, none⟩) 256 256]
          rcases two (decide (0 ≤ x14_0)) with c15 | c15
          · replace h := of_true h c15
            rcases two (decide (x14_0 < (256 : Int))) with c16 | c16
            · replace h := of_true h c16
              obtain ⟨q14, hAq14, hcq14, hfq14, hlq14⟩ := hM.num_at 1 rfl (i := x14_0) (of_decide_eq_true c15) (by have h_ := of_decide_eq_true c16; omega)
              refine RunAny.y 10 (by kernel_rfl) (idx_own (d := some 27) (A := (some ⟨g5, 0, none⟩)) (m := 256) (i := x14_0) (k2 := [.inRegion (opsOf (pl Go.Proofs.Tryd.f33 [1, 1, 0, 1, 0, 0, 1, 1, 0, 0, 1])) []]) (by kernel_rfl) (of_decide_eq_true c15) (by have h_ := of_decide_eq_true c16; omega) hAq14) (fun _ _ => trivial) hS ?_
              obtain ⟨g_, hA_, hc_, hf_, hl_⟩ := hM.num_at 1 rfl (i := x14_0) (of_decide_eq_true c15) (by have h_ := of_decide_eq_true c16; omega)
              obtain rfl : q14 = g_ := by rw [hAq14] at hA_; injection hA_ with hA_; injection hA_
              have hS' := hS.set (v := .slice (some ⟨g5, 0, none⟩) 256 256) (g := q14) (i := (x14_0 : Int).toNat) (by simp) (by rw [hAq14]; rfl) (.int .u8 t13)
              refine RunAny.doesU 11 (by kernel_rfl) (st_u (p := (⟨q14, (x14_0 : Int).toNat, none⟩ : Addr)) (v := .int .u8 t13) (k2 := [.inRegion (opsOf (pl Go.Proofs.Tryd.f33 [1, 1, 0, 1, 0, 0, 1, 1, 0, 0, 1])) []]) (by kernel_rfl) hc_ hf_) hS' ?_
              replace hM : Mem w (W12.setCell (⟨q14, (x14_0 : Int).toNat, none⟩ : Addr) (.int .u8 t13)) [⟨.pointer (some ⟨g1, 0, none⟩), 63, 0, nums .u8 a2⟩, ⟨.slice (some ⟨g5, 0, none⟩) 256 256, 5, 1, nums .u8 (x9_0.set (x14_0 : Int).toNat t13)⟩] := Mem.put_num [⟨.pointer (some ⟨g1, 0, none⟩), 63, 0, nums .u8 a2⟩] [] (hM.pick [0, 1] rfl rfl) hAq14 _ hl_ _
              generalize W12.setCell (⟨q14, (x14_0 : Int).toNat, none⟩ : Addr) (.int .u8 t13) = W17 at hM hS' ⊢
              clear hc_ hf_ hl_ hA_ hcq14
              replace hS := hS'
              refine RunAny.rebase hS ?_
              replace hS := Still.refl W17 [.slice (some ⟨g5, 0, none⟩) 256 256]
              refine RunAny.done (by kernel_rfl) ?_
              clear hS
              refine RunF.go 6 [0, 1, 3, 6, 9, 13, 14] (k' := (pl Go.Proofs.Tryd.f33 [1, 1, 0, 1, 0, 0])) (L' := [(0, .int .i64 a0), (1, .int .i64 a1), (3, .int .u8 a3), (6, .pointer (some ⟨g1, 0, none⟩)), (9, .slice (some ⟨g5, 0, none⟩) 256 256), (13, .int .i64 256), (14, .int .i64 (I64 (x14_0 + 1)))]) (w' := W17) (by kernel_rfl) ?_
              exact ih0 k (by omega) (x9_0.set (x14_0 : Int).toNat t13) (I64 (x14_0 + 1)) _ (hM.pick [0, 1] rfl rfl) h
            · replace h := of_false h c16
              cases h
          · replace h := of_false h c15
            cases h
        · replace h := of_false h c7
          refine RunF.know 15 (b := false) (by kernel_rfl) c7 ?_
          refine RunF.go 7 [8] (k' := (pl Go.Proofs.Tryd.f33 [1, 1, 1, 1])) (L' := [(8, .slice (some ⟨g5, 0, none⟩) 256 256)]) (w' := W) (by kernel_rfl) ?_
          obtain rfl := Option.some.inj h
          exact RunF.ret1 8 (.slice (some ⟨g5, 0, none⟩) 256 256) (fn := Go.Proofs.Tryd.f33) Go.Proofs.Tryd.func33 (by kernel_rfl) (by kernel_rfl) (by kernel_rfl) ⟨_, rfl, (some ⟨g5, 0, none⟩), 256, 256, rfl, (hM.pick [1] rfl rfl)⟩
  exact l0 k (Nat.le_refl _) (List.replicate 256 (0 : Int)) 0 _ (hM.pick [1, 0] rfl rfl) h

/-! ### scrim/box.seen: function 55 -/
def box_seen.l0 : Nat → (List Int) → (List Bool) → Int → Option (List Bool)
  | 0, _, _, _ => none
  | k + 1, a0, x2_0, x7_0 => if (decide (x7_0 < (a0.length : Int))) = true then (if (decide (0 ≤ x7_0)) = true then (if (decide (x7_0 < (a0.length : Int))) = true then (if (decide (0 ≤ (rd a0 x7_0))) = true then (if (decide ((rd a0 x7_0) < (256 : Int))) = true then (box_seen.l0 k a0 (x2_0.set (rd a0 x7_0 : Int).toNat true) (I64 (x7_0 + 1))) else (none)) else (none)) else (none)) else (none)) else (some x2_0)
def box_seen.f (k : Nat) (a0 : List Int) : Option (List Bool) := box_seen.l0 k a0 (List.replicate 256 false) 0
set_option maxRecDepth 100000 in
theorem box_seen.calls (k : Nat) (Ap0 : Option Addr) (np0 cp0 : Nat) (a0 : List Int) (r : List Bool) (w : World) (hr0 : Rd w (.slice Ap0 np0 cp0) (nums .u8 a0)) (h : box_seen.f k a0 = some r) :
    Calls Go.Proofs.Tryd.prog 55 #[(.slice Ap0 np0 cp0)] w (Ret fun v w' => v = .agg (bools r).toArray ∧ r.length = 256 ∧ Mem w w' []) := by
  obtain rfl : a0.length = np0 := by have h_ := hr0.1; simpa [nums_length, bools_length, strs_length] using h_
  unfold box_seen.f at h
  refine calls_of [.slice Ap0 a0.length cp0] (fn := Go.Proofs.Tryd.f55) Go.Proofs.Tryd.func55 (by kernel_rfl) (by kernel_rfl) ?_
  have hM := Mem.refl w
  refine RunF.go 2 [0] (k' := (pin Go.Proofs.Tryd.f55 [0] 0)) (L' := [(0, .slice Ap0 a0.length cp0)]) (w' := w) (by kernel_rfl) ?_
  refine RunF.newVar 81 (bools (List.replicate 256 false)) (d := some 2) (k2 := (pin Go.Proofs.Tryd.f55 [0] 1)) hM (by kernel_rfl) ?_
  intro g1 W2 hM
  refine RunF.go 10 [2, 5, 6, 7] (k' := (pl Go.Proofs.Tryd.f55 [1, 0, 1, 0, 0])) (L' := [(2, .pointer (some ⟨g1, 0, none⟩)), (5, .slice Ap0 a0.length cp0), (6, .int .i64 (a0.length : Int)), (7, .int .i64 0)]) (w' := W2) (by kernel_rfl) ?_
  have l0 : ∀ (k_ : Nat), k_ ≤ k → ∀ (x2_0 : List Bool) (x7_0 : Int) (W : World) (hM : Mem w W [⟨.pointer (some ⟨g1, 0, none⟩), 81, 0, bools x2_0⟩]) (hlx2_0 : x2_0.length = 256) (h : box_seen.l0 k_ a0 x2_0 x7_0 = some r), RunF Go.Proofs.Tryd.prog (Ret fun v w' => v = .agg (bools r).toArray ∧ r.length = 256 ∧ Mem w w' []) 55 (pl Go.Proofs.Tryd.f55 [1, 0, 1, 0, 0]) 15 [(2, .pointer (some ⟨g1, 0, none⟩)), (5, .slice Ap0 a0.length cp0), (6, .int .i64 (a0.length : Int)), (7, .int .i64 x7_0)] W := by
    intro k_
    induction k_ using Nat.strongRecOn with
    | _ k_ ih0 =>
      intro hk x2_0 x7_0 W hM hlx2_0 h
      cases k_ with
      | zero => exact absurd h (by simp [box_seen.l0])
      | succ k =>
        simp only [box_seen.l0] at h
        replace ih0 : ∀ m, m ≤ k → _ := fun m hm => ih0 m (by omega) (by omega)
        refine RunF.go 5 [2, 5, 6, 7, 8] (k' := (pl Go.Proofs.Tryd.f55 [1, 0, 1, 0, 0, 1, 0])) (L' := [(2, .pointer (some ⟨g1, 0, none⟩)), (5, .slice Ap0 a0.length cp0), (6, .int .i64 (a0.length : Int)), (7, .int .i64 x7_0), (8, .bool (decide (x7_0 < (a0.length : Int))))]) (w' := W) (by kernel_rfl) ?_
        rcases two (decide (x7_0 < (a0.length : Int))) with c4 | c4
        · replace h := of_true h c4
          refine RunF.know 8 (b := true) (by kernel_rfl) c4 ?_
          refine RunF.go 6 [2, 5, 6, 7] (k' := (pin Go.Proofs.Tryd.f55 [1, 0, 1, 0, 0, 1, 1, 0, 0, 0] 0)) (L' := [(2, .pointer (some ⟨g1, 0, none⟩)), (5, .slice Ap0 a0.length cp0), (6, .int .i64 (a0.length : Int)), (7, .int .i64 x7_0)]) (w' := W) (by kernel_rfl) ?_
          rcases two (decide (0 ≤ x7_0)) with c6 | c6
          · replace h := of_true h c6
            rcases two (decide (x7_0 < (a0.length : Int))) with c7 | c7
            · replace h := of_true h c7
              obtain ⟨q5, hAq5, hcq5⟩ := Rd.num (hr0.mono hM.below) (i := x7_0) (of_decide_eq_true c6) (by have h_ := of_decide_eq_true c7; omega)
              refine RunF.y (idx_y (d := some 9) (A := Ap0) (m := a0.length) (i := x7_0) (k2 := (pin Go.Proofs.Tryd.f55 [1, 0, 1, 0, 0, 1, 1, 0, 0, 0] 1)) (by kernel_rfl) (of_decide_eq_true c6) (by have h_ := of_decide_eq_true c7; omega) hAq5) trivial ?_
              refine RunF.y (ld_y (d := some 10) (p := (q5.add (x7_0 : Int).toNat)) (k2 := (pin Go.Proofs.Tryd.f55 [1, 0, 1, 0, 0, 1, 1, 0, 0, 0] 2)) (.int .u8 (rd a0 x7_0)) (by kernel_rfl)) hcq5 ?_
              refine RunF.go 4 [2, 5, 6, 7, 11] (k' := (pin Go.Proofs.Tryd.f55 [1, 0, 1, 0, 0, 1, 1, 0, 0, 1] 1)) (L' := [(2, .pointer (some ⟨g1, 0, none⟩)), (5, .slice Ap0 a0.length cp0), (6, .int .i64 (a0.length : Int)), (7, .int .i64 x7_0), (11, .int .u8 (rd a0 x7_0))]) (w' := W) (by kernel_rfl) ?_
              rcases two (decide (0 ≤ (rd a0 x7_0))) with c9 | c9
              · replace h := of_true h c9
                rcases two (decide ((rd a0 x7_0) < (256 : Int))) with c10 | c10
                · replace h := of_true h c10
                  obtain ⟨hcq8, hfq8, hlq8⟩ := hM.arr_bool 0 rfl (i := rd a0 x7_0) (of_decide_eq_true c9) (N := 256) hlx2_0 (of_decide_eq_true c10)
                  refine RunF.y (idxArr_own (d := some 12) (g := g1) (len := 256) (i := rd a0 x7_0) (k2 := (pin Go.Proofs.Tryd.f55 [1, 0, 1, 0, 0, 1, 1, 0, 0, 1] 2)) (by kernel_rfl) (of_decide_eq_true c9) (of_decide_eq_true c10)) trivial ?_
                  obtain ⟨hc_, hf_, hl_⟩ := hM.arr_bool 0 rfl (i := rd a0 x7_0) (of_decide_eq_true c9) (N := 256) hlx2_0 (of_decide_eq_true c10)
                  refine RunF.doesU (st_u (p := (⟨g1, (rd a0 x7_0 : Int).toNat, none⟩ : Addr)) (v := .bool true) (k2 := (pin Go.Proofs.Tryd.f55 [1, 0, 1, 0, 0, 1, 1, 0, 0, 1] 3)) (by kernel_rfl) hc_ hf_) ?_
                  replace hM : Mem w (W.setCell (⟨g1, (rd a0 x7_0 : Int).toNat, none⟩ : Addr) (.bool true)) [⟨.pointer (some ⟨g1, 0, none⟩), 81, 0, bools (x2_0.set (rd a0 x7_0 : Int).toNat true)⟩] := Mem.arr_put_bool [] [] (hM.pick [0] rfl rfl) _ hl_ _
                  generalize W.setCell (⟨g1, (rd a0 x7_0 : Int).toNat, none⟩ : Addr) (.bool true) = W11 at hM ⊢
                  clear hc_ hf_ hl_ hcq8 hfq8 hlq8
                  refine RunF.go 7 [2, 5, 6, 7] (k' := (pl Go.Proofs.Tryd.f55 [1, 0, 1, 0, 0])) (L' := [(2, .pointer (some ⟨g1, 0, none⟩)), (5, .slice Ap0 a0.length cp0), (6, .int .i64 (a0.length : Int)), (7, .int .i64 (I64 (x7_0 + 1)))]) (w' := W11) (by kernel_rfl) ?_
                  exact ih0 k (by omega) (x2_0.set (rd a0 x7_0 : Int).toNat true) (I64 (x7_0 + 1)) _ (hM.pick [0] rfl rfl) (List.length_set.trans hlx2_0) h
                · replace h := of_false h c10
                  cases h
              · replace h := of_false h c9
                cases h
            · replace h := of_false h c7
              cases h
          · replace h := of_false h c6
            cases h
        · replace h := of_false h c4
          refine RunF.know 8 (b := false) (by kernel_rfl) c4 ?_
          refine RunF.go 4 [2] (k' := (pin Go.Proofs.Tryd.f55 [1, 1, 0] 0)) (L' := [(2, .pointer (some ⟨g1, 0, none⟩))]) (w' := W) (by kernel_rfl) ?_
          refine RunF.y (ldv_y (d := some 14) (g := g1) (N := 256) (ty := 81) (k2 := (pin Go.Proofs.Tryd.f55 [1, 1, 0] 1)) (bools x2_0) (by kernel_rfl) (by simp only [nums_length, bools_length, strs_length]; exact hlx2_0)) (hM.block 0 rfl) ?_
          refine RunF.doesU (stv_u (N := 256) (cells := (bools x2_0).toArray) (old := (bools x2_0).toArray) (ty := 81) (k2 := (pin Go.Proofs.Tryd.f55 [1, 1, 0] 2)) (by kernel_rfl) (by rw [List.size_toArray]; simp only [nums_length, bools_length, strs_length]; exact hlx2_0) (hM.block 0 rfl) (by rw [List.size_toArray]; simp only [nums_length, bools_length, strs_length]; exact hlx2_0) (all_bools _)) ?_
          replace hM : Mem w (W.setRow g1 (bools x2_0).toArray) [⟨.pointer (some ⟨g1, 0, none⟩), 81, 0, bools x2_0⟩] := Mem.setAll [] [] (hM.pick [0] rfl rfl)
          generalize W.setRow g1 (bools x2_0).toArray = W12 at hM ⊢
          refine RunF.go 1 [2] (k' := (pl Go.Proofs.Tryd.f55 [1, 1, 1])) (L' := [(2, .pointer (some ⟨g1, 0, none⟩))]) (w' := W12) (by kernel_rfl) ?_
          obtain rfl := Option.some.inj h
          exact RunF.retc (t := 2) (ty := 81) (N := 256) (g := g1) (bools x2_0) (fn := Go.Proofs.Tryd.f55) Go.Proofs.Tryd.func55 (by kernel_rfl) (by kernel_rfl) (by kernel_rfl) (by kernel_rfl) (by simp only [nums_length, bools_length, strs_length]; exact hlx2_0) (hM.block 0 rfl) ⟨_, rfl, rfl, hlx2_0, (hM.pick [] rfl rfl)⟩
  exact l0 k (Nat.le_refl _) (List.replicate 256 false) 0 _ (hM.pick [0] rfl rfl) List.length_replicate h

/-! ### scrim/box.Is: function 45 -/
def box_Is.l0 : Nat → (List Int) → (List Bool) → Int → Option (Bool)
  | 0, _, _, _ => none
  | k + 1, a0, x3_0, x10_0 => if (decide (x10_0 < (a0.length : Int))) = true then (if (decide (0 ≤ x10_0)) = true then (if (decide (x10_0 < (256 : Int))) = true then (box_Is.l0 k a0 (x3_0.set (x10_0 : Int).toNat true) (I64 (x10_0 + 1))) else (none)) else (none)) else ((box_seen.f k a0).bind fun t13 => (some (t13 == x3_0)))
def box_Is.f (k : Nat) (a0 : List Int) : Option (Bool) := if (decide ((a0.length : Int) > 256)) = true then (some false) else (box_Is.l0 k a0 (List.replicate 256 false) 0)
set_option maxRecDepth 100000 in
theorem box_Is.calls (k : Nat) (Ap0 : Option Addr) (np0 cp0 : Nat) (a0 : List Int) (r : Bool) (w : World) (hr0 : Rd w (.slice Ap0 np0 cp0) (nums .u8 a0)) (h : box_Is.f k a0 = some r) :
    Calls Go.Proofs.Tryd.prog 45 #[(.slice Ap0 np0 cp0)] w (Ret fun v w' => v = .bool r ∧ Mem w w' []) := by
  obtain rfl : a0.length = np0 := by have h_ := hr0.1; simpa [nums_length, bools_length, strs_length] using h_
  unfold box_Is.f at h
  refine calls_of [.slice Ap0 a0.length cp0] (fn := Go.Proofs.Tryd.f45) Go.Proofs.Tryd.func45 (by kernel_rfl) (by kernel_rfl) ?_
  have hM := Mem.refl w
  refine RunF.go 11 [0, 7] (k' := (pl Go.Proofs.Tryd.f45 [1, 0, 1])) (L' := [(0, .slice Ap0 a0.length cp0), (7, .bool (decide ((a0.length : Int) > 256)))]) (w' := w) (by kernel_rfl) ?_
  rcases two (decide ((a0.length : Int) > 256)) with c1 | c1
  · replace h := of_true h c1
    refine RunF.know 7 (b := true) (by kernel_rfl) c1 ?_
    refine RunF.go 5 [2] (k' := (pl Go.Proofs.Tryd.f45 [1, 0, 1, 0, 1])) (L' := [(2, .bool false)]) (w' := w) (by kernel_rfl) ?_
    obtain rfl := Option.some.inj h
    exact RunF.ret1 2 (.bool false) (fn := Go.Proofs.Tryd.f45) Go.Proofs.Tryd.func45 (by kernel_rfl) (by kernel_rfl) (by kernel_rfl) ⟨_, rfl, rfl, (hM.pick [] rfl rfl)⟩
  · replace h := of_false h c1
    refine RunF.know 7 (b := false) (by kernel_rfl) c1 ?_
    refine RunF.go 4 [0] (k' := (pin Go.Proofs.Tryd.f45 [1, 1, 0] 0)) (L' := [(0, .slice Ap0 a0.length cp0)]) (w' := w) (by kernel_rfl) ?_
    refine RunF.newVar 81 (bools (List.replicate 256 false)) (d := some 3) (k2 := (pin Go.Proofs.Tryd.f45 [1, 1, 0] 1)) hM (by kernel_rfl) ?_
    intro g2 W3 hM
    refine RunF.go 10 [0, 3, 9, 10] (k' := (pl Go.Proofs.Tryd.f45 [1, 1, 1, 0, 1, 0, 0])) (L' := [(0, .slice Ap0 a0.length cp0), (3, .pointer (some ⟨g2, 0, none⟩)), (9, .int .i64 (a0.length : Int)), (10, .int .i64 0)]) (w' := W3) (by kernel_rfl) ?_
    have l0 : ∀ (k_ : Nat), k_ ≤ k → ∀ (x3_0 : List Bool) (x10_0 : Int) (W : World) (hM : Mem w W [⟨.pointer (some ⟨g2, 0, none⟩), 81, 0, bools x3_0⟩]) (hlx3_0 : x3_0.length = 256) (h : box_Is.l0 k_ a0 x3_0 x10_0 = some r), RunF Go.Proofs.Tryd.prog (Ret fun v w' => v = .bool r ∧ Mem w w' []) 45 (pl Go.Proofs.Tryd.f45 [1, 1, 1, 0, 1, 0, 0]) 20 [(0, .slice Ap0 a0.length cp0), (3, .pointer (some ⟨g2, 0, none⟩)), (9, .int .i64 (a0.length : Int)), (10, .int .i64 x10_0)] W := by
      intro k_
      induction k_ using Nat.strongRecOn with
      | _ k_ ih0 =>
        intro hk x3_0 x10_0 W hM hlx3_0 h
        cases k_ with
        | zero => exact absurd h (by simp [box_Is.l0])
        | succ k =>
          simp only [box_Is.l0] at h
          replace ih0 : ∀ m, m ≤ k → _ := fun m hm => ih0 m (by omega) (by omega)
          refine RunF.go 5 [0, 3, 9, 10, 11] (k' := (pl Go.Proofs.Tryd.f45 [1, 1, 1, 0, 1, 0, 0, 1, 0])) (L' := [(0, .slice Ap0 a0.length cp0), (3, .pointer (some ⟨g2, 0, none⟩)), (9, .int .i64 (a0.length : Int)), (10, .int .i64 x10_0), (11, .bool (decide (x10_0 < (a0.length : Int))))]) (w' := W) (by kernel_rfl) ?_
          rcases two (decide (x10_0 < (a0.length : Int))) with c5 | c5
          · replace h := of_true h c5
            refine RunF.know 11 (b := true) (by kernel_rfl) c5 ?_
            refine RunF.go 11 [0, 3, 9, 10, 13] (k' := (pin Go.Proofs.Tryd.f45 [1, 1, 1, 0, 1, 0, 0, 1, 1, 0, 0, 1] 1)) (L' := [(0, .slice Ap0 a0.length cp0), (3, .pointer (some ⟨g2, 0, none⟩)), (9, .int .i64 (a0.length : Int)), (10, .int .i64 x10_0), (13, .int .i64 x10_0)]) (w' := W) (by kernel_rfl) ?_
            rcases two (decide (0 ≤ x10_0)) with c7 | c7
            · replace h := of_true h c7
              rcases two (decide (x10_0 < (256 : Int))) with c8 | c8
              · replace h := of_true h c8
                obtain ⟨hcq6, hfq6, hlq6⟩ := hM.arr_bool 0 rfl (i := x10_0) (of_decide_eq_true c7) (N := 256) hlx3_0 (of_decide_eq_true c8)
                refine RunF.y (idxArr_own (d := some 14) (g := g2) (len := 256) (i := x10_0) (k2 := (pin Go.Proofs.Tryd.f45 [1, 1, 1, 0, 1, 0, 0, 1, 1, 0, 0, 1] 2)) (by kernel_rfl) (of_decide_eq_true c7) (of_decide_eq_true c8)) trivial ?_
                obtain ⟨hc_, hf_, hl_⟩ := hM.arr_bool 0 rfl (i := x10_0) (of_decide_eq_true c7) (N := 256) hlx3_0 (of_decide_eq_true c8)
                refine RunF.doesU (st_u (p := (⟨g2, (x10_0 : Int).toNat, none⟩ : Addr)) (v := .bool true) (k2 := (pin Go.Proofs.Tryd.f45 [1, 1, 1, 0, 1, 0, 0, 1, 1, 0, 0, 1] 3)) (by kernel_rfl) hc_ hf_) ?_
                replace hM : Mem w (W.setCell (⟨g2, (x10_0 : Int).toNat, none⟩ : Addr) (.bool true)) [⟨.pointer (some ⟨g2, 0, none⟩), 81, 0, bools (x3_0.set (x10_0 : Int).toNat true)⟩] := Mem.arr_put_bool [] [] (hM.pick [0] rfl rfl) _ hl_ _
                generalize W.setCell (⟨g2, (x10_0 : Int).toNat, none⟩ : Addr) (.bool true) = W9 at hM ⊢
                clear hc_ hf_ hl_ hcq6 hfq6 hlq6
                refine RunF.go 7 [0, 3, 9, 10] (k' := (pl Go.Proofs.Tryd.f45 [1, 1, 1, 0, 1, 0, 0])) (L' := [(0, .slice Ap0 a0.length cp0), (3, .pointer (some ⟨g2, 0, none⟩)), (9, .int .i64 (a0.length : Int)), (10, .int .i64 (I64 (x10_0 + 1)))]) (w' := W9) (by kernel_rfl) ?_
                exact ih0 k (by omega) (x3_0.set (x10_0 : Int).toNat true) (I64 (x10_0 + 1)) _ (hM.pick [0] rfl rfl) (List.length_set.trans hlx3_0) h
              · replace h := of_false h c8
                cases h
            · replace h := of_false h c7
              cases h
          · replace h := of_false h c5
            refine RunF.know 11 (b := false) (by kernel_rfl) c5 ?_
            refine RunF.go 3 [0, 3] (k' := (pl Go.Proofs.Tryd.f45 [1, 1, 1, 1, 0])) (L' := [(0, .slice Ap0 a0.length cp0), (3, .pointer (some ⟨g2, 0, none⟩))]) (w' := W) (by kernel_rfl) ?_
            refine RunF.draw (Still ({ W with drawn := W.drawn + 1 } : World) []) (by kernel_rfl) (by kernel_rfl) ?_
            have hMd11 := hM.drew
            have hS := Still.refl ({ W with drawn := W.drawn + 1 } : World) []
            generalize ({ W with drawn := W.drawn + 1 } : World) = W10 at hMd11 hS ⊢
            replace hM := hMd11
            refine RunAny.y 0 (by kernel_rfl) (yl_pure (d := some 16) (v := .slice Ap0 a0.length cp0) (k2 := [.inRegion (opsOf (pl Go.Proofs.Tryd.f45 [1, 1, 1, 1, 0])) []]) fun w => by kernel_rfl) (fun _ _ => trivial) hS ?_
            refine RunAny.y 2 (by kernel_rfl) (ldv_y (d := some 18) (g := g2) (N := 256) (ty := 81) (k2 := [.inRegion (opsOf (pl Go.Proofs.Tryd.f45 [1, 1, 1, 1, 0])) []]) (bools x3_0) (by kernel_rfl) (by simp only [nums_length, bools_length, strs_length]; exact hlx3_0)) (fun _ hs => hs.block (hM.block 0 rfl) (by simp)) hS ?_
            obtain ⟨t13, ht13, h⟩ := Option.bind_eq_some_iff.mp h
            refine RunAny.call 1 (d := some 17) (g := 55) (args := #[.slice Ap0 a0.length cp0]) (by kernel_rfl) (by kernel_rfl) (box_seen.calls k Ap0 a0.length cp0 a0 t13 _ (hr0.mono hM.below) ht13) (by rintro _ _ ⟨rfl, _, hM_⟩; exact hS.below hM_.below) ?_
            rintro _ W12 ⟨rfl, hNt13_0, hM_⟩
            replace hS := hS.below hM_.below
            replace hM := hM.call hM_
            clear hM_ ht13
            refine RunAny.rebase hS ?_
            replace hS := Still.refl W12 []
            refine RunAny.y 3 (by kernel_rfl) (eqArr_y (d := some 19) (xs := t13) (ys := x3_0) (N := 256) (k2 := [.inRegion (opsOf (pl Go.Proofs.Tryd.f45 [1, 1, 1, 1, 0])) []]) (by kernel_rfl) hNt13_0 hlx3_0) (fun _ _ => trivial) hS ?_
            refine RunAny.y 4 (by kernel_rfl) (yl_pure (d := some 2) (v := .bool (t13 == x3_0)) (k2 := [.inRegion (opsOf (pl Go.Proofs.Tryd.f45 [1, 1, 1, 1, 0])) []]) fun w => by kernel_rfl) (fun _ _ => trivial) hS ?_
            refine RunAny.done (by kernel_rfl) ?_
            clear hS
            obtain rfl := Option.some.inj h
            exact RunF.ret1 2 (.bool (t13 == x3_0)) (fn := Go.Proofs.Tryd.f45) Go.Proofs.Tryd.func45 (by kernel_rfl) (by kernel_rfl) (by kernel_rfl) ⟨_, rfl, rfl, (hM.pick [] rfl rfl)⟩
    exact l0 k (Nat.le_refl _) (List.replicate 256 false) 0 _ (hM.pick [0] rfl rfl) List.length_replicate h

/-! ### scrim/box.Back: function 34 -/
def box_Back.l0 : Nat → (List Int) → (List Int) → Int → Option (List Int × Bool)
  | 0, _, _, _ => none
  | k + 1, a0, x4_0, x15_0 => if (decide (x15_0 < (a0.length : Int))) = true then (if (decide (0 ≤ x15_0)) = true then (if (decide (x15_0 < (a0.length : Int))) = true then (if (decide (0 ≤ (rd a0 x15_0))) = true then (if (decide ((rd a0 x15_0) < (((a0.length : Int)).toNat : Int))) = true then (box_Back.l0 k a0 (x4_0.set (rd a0 x15_0 : Int).toNat (U8 (x15_0))) (I64 (x15_0 + 1))) else (none)) else (none)) else (none)) else (none)) else (some (x4_0, true))
def box_Back.f (k : Nat) (a0 : List Int) : Option (List Int × Bool) := (box_Is.f k a0).bind fun t2 => (if (!t2) = true then (some (([] : List Int), false)) else (if (decide (0 ≤ (a0.length : Int))) = true then (if (decide ((a0.length : Int) ≤ 1000000000)) = true then (box_Back.l0 k a0 (List.replicate (((a0.length : Int)).toNat) (0 : Int)) 0) else (none)) else (none)))
set_option maxRecDepth 100000 in
theorem box_Back.calls (k : Nat) (Ap0 : Option Addr) (np0 cp0 : Nat) (a0 : List Int) (r : List Int × Bool) (w : World) (hr0 : Rd w (.slice Ap0 np0 cp0) (nums .u8 a0)) (h : box_Back.f k a0 = some r) :
    Calls Go.Proofs.Tryd.prog 34 #[(.slice Ap0 np0 cp0)] w (Ret fun v w' => ∃ A0' n0' c0', v = .tuple #[.slice A0' n0' c0', .bool r.2] ∧ Mem w w' [⟨.slice A0' n0' c0', 5, 1, nums .u8 r.1⟩]) := by
  obtain rfl : a0.length = np0 := by have h_ := hr0.1; simpa [nums_length, bools_length, strs_length] using h_
  unfold box_Back.f at h
  refine calls_of [.slice Ap0 a0.length cp0] (fn := Go.Proofs.Tryd.f34) Go.Proofs.Tryd.func34 (by kernel_rfl) (by kernel_rfl) ?_
  have hM := Mem.refl w
  refine RunF.go 9 [0, 7] (k' := (pin Go.Proofs.Tryd.f34 [1, 0, 0] 1)) (L' := [(0, .slice Ap0 a0.length cp0), (7, .slice Ap0 a0.length cp0)]) (w' := w) (by kernel_rfl) ?_
  obtain ⟨t2, ht2, h⟩ := Option.bind_eq_some_iff.mp h
  refine RunF.call (d := some 8) (g := 45) (args := #[.slice Ap0 a0.length cp0]) (k2 := (pin Go.Proofs.Tryd.f34 [1, 0, 0] 2)) (by kernel_rfl) (box_Is.calls k Ap0 a0.length cp0 a0 t2 _ (hr0.mono hM.below) ht2) ?_
  rintro _ W1 ⟨rfl, hM_⟩
  replace hM := hM.call hM_
  clear hM_ ht2
  refine RunF.go 2 [0, 9] (k' := (pl Go.Proofs.Tryd.f34 [1, 0, 1])) (L' := [(0, .slice Ap0 a0.length cp0), (9, .bool (!t2))]) (w' := W1) (by kernel_rfl) ?_
  rcases two (!t2) with c3 | c3
  · replace h := of_true h c3
    refine RunF.know 9 (b := true) (by kernel_rfl) c3 ?_
    refine RunF.go 6 [2, 3] (k' := (pl Go.Proofs.Tryd.f34 [1, 0, 1, 0, 1])) (L' := [(2, .slice none 0 0), (3, .bool false)]) (w' := W1) (by kernel_rfl) ?_
    replace hM := hM.nil 5
    obtain rfl := Option.some.inj h
    exact RunF.ret2 2 3 (.slice none 0 0) (.bool false) (fn := Go.Proofs.Tryd.f34) Go.Proofs.Tryd.func34 (by kernel_rfl) (by kernel_rfl) (by kernel_rfl) (by kernel_rfl) ⟨_, rfl, none, 0, 0, rfl, (hM.pick [0] rfl rfl)⟩
  · replace h := of_false h c3
    refine RunF.know 9 (b := false) (by kernel_rfl) c3 ?_
    refine RunF.go 6 [0, 11] (k' := (pin Go.Proofs.Tryd.f34 [1, 1, 0] 2)) (L' := [(0, .slice Ap0 a0.length cp0), (11, .int .i64 (a0.length : Int))]) (w' := W1) (by kernel_rfl) ?_
    rcases two (decide (0 ≤ (a0.length : Int))) with c7 | c7
    · replace h := of_true h c7
      rcases two (decide ((a0.length : Int) ≤ 1000000000)) with c8 | c8
      · replace h := of_true h c8
        have := of_decide_eq_true c7
        have := of_decide_eq_true c8
        obtain ⟨W5, hD, hM', hB_⟩ := mk_does (P := Go.Proofs.Tryd.prog) (n := 27) (k := (pin Go.Proofs.Tryd.f34 [1, 1, 0] 2)) (L := [(0, .slice Ap0 a0.length cp0), (11, .int .i64 (a0.length : Int))]) (d := some 12) (e := 5) (z := .int .u8 0) (l := (a0.length : Int)) (c := (a0.length : Int)) (k2 := (pin Go.Proofs.Tryd.f34 [1, 1, 0] 3)) (by kernel_rfl) (by omega) (by omega) (by omega) hM
        rw [rep_nums] at hM'
        refine RunF.does hD ?_
        replace hM := hM'; clear hD hM'
        generalize W1.heap.size = g6 at hM ⊢
        refine RunF.go 11 [4, 13, 14, 15] (k' := (pl Go.Proofs.Tryd.f34 [1, 1, 1, 0, 1, 0, 0])) (L' := [(4, .slice (some ⟨g6, 0, none⟩) (((a0.length : Int)).toNat) (((a0.length : Int) : Int).toNat)), (13, .slice Ap0 a0.length cp0), (14, .int .i64 (a0.length : Int)), (15, .int .i64 0)]) (w' := W5) (by kernel_rfl) ?_
        have l0 : ∀ (k_ : Nat), k_ ≤ k → ∀ (x4_0 : List Int) (x15_0 : Int) (W : World) (hM : Mem w W [⟨.slice (some ⟨g6, 0, none⟩) (((a0.length : Int)).toNat) (((a0.length : Int) : Int).toNat), 5, 1, nums .u8 x4_0⟩]) (h : box_Back.l0 k_ a0 x4_0 x15_0 = some r), RunF Go.Proofs.Tryd.prog (Ret fun v w' => ∃ A0' n0' c0', v = .tuple #[.slice A0' n0' c0', .bool r.2] ∧ Mem w w' [⟨.slice A0' n0' c0', 5, 1, nums .u8 r.1⟩]) 34 (pl Go.Proofs.Tryd.f34 [1, 1, 1, 0, 1, 0, 0]) 27 [(4, .slice (some ⟨g6, 0, none⟩) (((a0.length : Int)).toNat) (((a0.length : Int) : Int).toNat)), (13, .slice Ap0 a0.length cp0), (14, .int .i64 (a0.length : Int)), (15, .int .i64 x15_0)] W := by
          intro k_
          induction k_ using Nat.strongRecOn with
          | _ k_ ih0 =>
            intro hk x4_0 x15_0 W hM h
            cases k_ with
            | zero => exact absurd h (by simp [box_Back.l0])
            | succ k =>
              simp only [box_Back.l0] at h
              replace ih0 : ∀ m, m ≤ k → _ := fun m hm => ih0 m (by omega) (by omega)
              refine RunF.go 5 [4, 13, 14, 15, 16] (k' := (pl Go.Proofs.Tryd.f34 [1, 1, 1, 0, 1, 0, 0, 1, 0])) (L' := [(4, .slice (some ⟨g6, 0, none⟩) (((a0.length : Int)).toNat) (((a0.length : Int) : Int).toNat)), (13, .slice Ap0 a0.length cp0), (14, .int .i64 (a0.length : Int)), (15, .int .i64 x15_0), (16, .bool (decide (x15_0 < (a0.length : Int))))]) (w' := W) (by kernel_rfl) ?_
              rcases two (decide (x15_0 < (a0.length : Int))) with c10 | c10
              · replace h := of_true h c10
                refine RunF.know 16 (b := true) (by kernel_rfl) c10 ?_
                refine RunF.go 7 [4, 13, 14, 15, 17] (k' := (pin Go.Proofs.Tryd.f34 [1, 1, 1, 0, 1, 0, 0, 1, 1, 0, 0, 0] 1)) (L' := [(4, .slice (some ⟨g6, 0, none⟩) (((a0.length : Int)).toNat) (((a0.length : Int) : Int).toNat)), (13, .slice Ap0 a0.length cp0), (14, .int .i64 (a0.length : Int)), (15, .int .i64 x15_0), (17, .int .i64 x15_0)]) (w' := W) (by kernel_rfl) ?_
                rcases two (decide (0 ≤ x15_0)) with c12 | c12
                · replace h := of_true h c12
                  rcases two (decide (x15_0 < (a0.length : Int))) with c13 | c13
                  · replace h := of_true h c13
                    obtain ⟨q11, hAq11, hcq11⟩ := Rd.num (hr0.mono hM.below) (i := x15_0) (of_decide_eq_true c12) (by have h_ := of_decide_eq_true c13; omega)
                    refine RunF.y (idx_y (d := some 18) (A := Ap0) (m := a0.length) (i := x15_0) (k2 := (pin Go.Proofs.Tryd.f34 [1, 1, 1, 0, 1, 0, 0, 1, 1, 0, 0, 0] 2)) (by kernel_rfl) (of_decide_eq_true c12) (by have h_ := of_decide_eq_true c13; omega) hAq11) trivial ?_
                    refine RunF.y (ld_y (d := some 19) (p := (q11.add (x15_0 : Int).toNat)) (k2 := (pin Go.Proofs.Tryd.f34 [1, 1, 1, 0, 1, 0, 0, 1, 1, 0, 0, 0] 3)) (.int .u8 (rd a0 x15_0)) (by kernel_rfl)) hcq11 ?_
                    refine RunF.go 8 [4, 13, 14, 15, 20, 21, 23] (k' := (pin Go.Proofs.Tryd.f34 [1, 1, 1, 0, 1, 0, 0, 1, 1, 0, 0, 1] 4)) (L' := [(4, .slice (some ⟨g6, 0, none⟩) (((a0.length : Int)).toNat) (((a0.length : Int) : Int).toNat)), (13, .slice Ap0 a0.length cp0), (14, .int .i64 (a0.length : Int)), (15, .int .i64 x15_0), (20, .slice (some ⟨g6, 0, none⟩) (((a0.length : Int)).toNat) (((a0.length : Int) : Int).toNat)), (21, .int .u8 (rd a0 x15_0)), (23, .int .u8 (U8 (x15_0)))]) (w' := W) (by kernel_rfl) ?_
                    rcases two (decide (0 ≤ (rd a0 x15_0))) with c15 | c15
                    · replace h := of_true h c15
                      rcases two (decide ((rd a0 x15_0) < (((a0.length : Int)).toNat : Int))) with c16 | c16
                      · replace h := of_true h c16
                        obtain ⟨q14, hAq14, hcq14, hfq14, hlq14⟩ := hM.num_at 0 rfl (i := rd a0 x15_0) (of_decide_eq_true c15) (by have h_ := of_decide_eq_true c16; omega)
                        refine RunF.y (idx_own (d := some 24) (A := (some ⟨g6, 0, none⟩)) (m := ((a0.length : Int)).toNat) (i := rd a0 x15_0) (k2 := (pin Go.Proofs.Tryd.f34 [1, 1, 1, 0, 1, 0, 0, 1, 1, 0, 0, 1] 5)) (by kernel_rfl) (of_decide_eq_true c15) (by have h_ := of_decide_eq_true c16; omega) hAq14) trivial ?_
                        obtain ⟨g_, hA_, hc_, hf_, hl_⟩ := hM.num_at 0 rfl (i := rd a0 x15_0) (of_decide_eq_true c15) (by have h_ := of_decide_eq_true c16; omega)
                        obtain rfl : q14 = g_ := by rw [hAq14] at hA_; injection hA_ with hA_; injection hA_
                        refine RunF.doesU (st_u (p := (⟨q14, (rd a0 x15_0 : Int).toNat, none⟩ : Addr)) (v := .int .u8 (U8 (x15_0))) (k2 := (pin Go.Proofs.Tryd.f34 [1, 1, 1, 0, 1, 0, 0, 1, 1, 0, 0, 1] 6)) (by kernel_rfl) hc_ hf_) ?_
                        replace hM : Mem w (W.setCell (⟨q14, (rd a0 x15_0 : Int).toNat, none⟩ : Addr) (.int .u8 (U8 (x15_0)))) [⟨.slice (some ⟨g6, 0, none⟩) (((a0.length : Int)).toNat) (((a0.length : Int) : Int).toNat), 5, 1, nums .u8 (x4_0.set (rd a0 x15_0 : Int).toNat (U8 (x15_0)))⟩] := Mem.put_num [] [] (hM.pick [0] rfl rfl) hAq14 _ hl_ _
                        generalize W.setCell (⟨q14, (rd a0 x15_0 : Int).toNat, none⟩ : Addr) (.int .u8 (U8 (x15_0))) = W17 at hM ⊢
                        clear hc_ hf_ hl_ hA_ hcq14
                        refine RunF.go 7 [4, 13, 14, 15] (k' := (pl Go.Proofs.Tryd.f34 [1, 1, 1, 0, 1, 0, 0])) (L' := [(4, .slice (some ⟨g6, 0, none⟩) (((a0.length : Int)).toNat) (((a0.length : Int) : Int).toNat)), (13, .slice Ap0 a0.length cp0), (14, .int .i64 (a0.length : Int)), (15, .int .i64 (I64 (x15_0 + 1)))]) (w' := W17) (by kernel_rfl) ?_
                        exact ih0 k (by omega) (x4_0.set (rd a0 x15_0 : Int).toNat (U8 (x15_0))) (I64 (x15_0 + 1)) _ (hM.pick [0] rfl rfl) h
                      · replace h := of_false h c16
                        cases h
                    · replace h := of_false h c15
                      cases h
                  · replace h := of_false h c13
                    cases h
                · replace h := of_false h c12
                  cases h
              · replace h := of_false h c10
                refine RunF.know 16 (b := false) (by kernel_rfl) c10 ?_
                refine RunF.go 8 [2, 3] (k' := (pl Go.Proofs.Tryd.f34 [1, 1, 1, 1, 1])) (L' := [(2, .slice (some ⟨g6, 0, none⟩) (((a0.length : Int)).toNat) (((a0.length : Int) : Int).toNat)), (3, .bool true)]) (w' := W) (by kernel_rfl) ?_
                obtain rfl := Option.some.inj h
                exact RunF.ret2 2 3 (.slice (some ⟨g6, 0, none⟩) (((a0.length : Int)).toNat) (((a0.length : Int) : Int).toNat)) (.bool true) (fn := Go.Proofs.Tryd.f34) Go.Proofs.Tryd.func34 (by kernel_rfl) (by kernel_rfl) (by kernel_rfl) (by kernel_rfl) ⟨_, rfl, (some ⟨g6, 0, none⟩), ((a0.length : Int)).toNat, ((a0.length : Int) : Int).toNat, rfl, (hM.pick [0] rfl rfl)⟩
        exact l0 k (Nat.le_refl _) (List.replicate (((a0.length : Int)).toNat) (0 : Int)) 0 _ (hM.pick [0] rfl rfl) h
      · replace h := of_false h c8
        cases h
    · replace h := of_false h c7
      cases h

/-! ### scrim/aria.made: function 24 -/
def aria_made.f (k : Nat)  : Option (List (List Int)) := (box_Make.f k 254 283 ([241, 227, 199, 143, 31, 62, 124, 248] : List Int) 99).bind fun t5 => ((box_Make.f k 247 283 ([122, 188, 235, 185, 52, 129, 186, 203] : List Int) 226).bind fun t13 => ((box_Back.f k t5).bind fun t22 => ((box_Back.f k t13).bind fun t31 => (some ([t5, t13, t22.1, t31.1] : List (List Int))))))
set_option maxRecDepth 100000 in
theorem aria_made.calls (k : Nat)  (r : List (List Int)) (w : World) (hG0 : Rg w 0 (nums .u8 [1, 2, 4, 8, 16, 32, 64, 128])) (h : aria_made.f k = some r) :
    Calls Go.Proofs.Tryd.prog 24 #[] w (Ret fun v w' => ∃ (v0' : Value) (F0' : List Ent), v = v0' ∧ (rArr 4 (rNums .u8)) (Oks F0') v0' r ∧ Mem w w' (Gs [] [F0'])) := by
  unfold aria_made.f at h
  refine calls_of [] (fn := Go.Proofs.Tryd.f24) Go.Proofs.Tryd.func24 (by kernel_rfl) (by kernel_rfl) ?_
  have hM := Mem.refl w
  refine RunF.go 2 [] (k' := (pin Go.Proofs.Tryd.f24 [0] 0)) (L' := []) (w' := w) (by kernel_rfl) ?_
  refine RunF.newVar 51 ([.slice none 0 0, .slice none 0 0, .slice none 0 0, .slice none 0 0]) (d := some 0) (k2 := (pin Go.Proofs.Tryd.f24 [0] 1)) hM (by kernel_rfl) ?_
  intro g1 W2 hM
  refine RunF.go 4 [0, 1] (k' := (pin Go.Proofs.Tryd.f24 [1, 0] 1)) (L' := [(0, .pointer (some ⟨g1, 0, none⟩)), (1, .agg (nums .u8 ([241, 227, 199, 143, 31, 62, 124, 248] : List Int)).toArray)]) (w' := W2) (by kernel_rfl) ?_
  obtain ⟨t5, ht5, h⟩ := Option.bind_eq_some_iff.mp h
  refine RunF.call (d := some 2) (g := 33) (args := #[.int .i64 254, .int .i64 283, .agg (nums .u8 ([241, 227, 199, 143, 31, 62, 124, 248] : List Int)).toArray, .int .u8 99]) (k2 := (pin Go.Proofs.Tryd.f24 [1, 0] 2)) (by kernel_rfl) (box_Make.calls k 254 283 ([241, 227, 199, 143, 31, 62, 124, 248] : List Int) 99 t5 _ rfl (hG0.mono hM.below) ht5) ?_
  rintro _ W4 ⟨A6, n7, c8, rfl, hM_⟩
  obtain rfl : t5.length = n7 := by have h_ := (hM_.rd 0 rfl).1; simpa [nums_length, bools_length, strs_length] using h_
  replace hM := hM.call hM_
  clear hM_ ht5
  obtain ⟨hcq10, hfq10⟩ := hM.var_at 1 rfl (i := (0 : Int).toNat) (u := .slice none 0 0) rfl
  refine RunF.y (idxArr_own (d := some 3) (g := g1) (len := 4) (i := 0) (k2 := (pin Go.Proofs.Tryd.f24 [1, 0] 3)) (by kernel_rfl) (by decide) (by decide)) trivial ?_
  obtain ⟨hc_, hf_⟩ := hM.var_at 1 rfl (i := (0 : Int).toNat) (u := .slice none 0 0) rfl
  refine RunF.doesU (st_u (p := (⟨g1, (0 : Int).toNat, none⟩ : Addr)) (v := .slice A6 t5.length c8) (k2 := (pin Go.Proofs.Tryd.f24 [1, 0] 4)) (by kernel_rfl) hc_ hf_) ?_
  replace hM : Mem w (W4.setCell (⟨g1, (0 : Int).toNat, none⟩ : Addr) (.slice A6 t5.length c8)) [⟨.slice A6 t5.length c8, 5, 1, nums .u8 t5⟩, ⟨.pointer (some ⟨g1, 0, none⟩), 51, 0, [.slice A6 t5.length c8, .slice none 0 0, .slice none 0 0, .slice none 0 0]⟩] := Mem.set [⟨.slice A6 t5.length c8, 5, 1, nums .u8 t5⟩] [] (e := ⟨.pointer (some ⟨g1, 0, none⟩), 51, 0, [.slice none 0 0, .slice none 0 0, .slice none 0 0, .slice none 0 0]⟩) (hM.pick [0, 1] rfl rfl) rfl _ (by show (0 : Int).toNat < 4; decide) _
  generalize W4.setCell (⟨g1, (0 : Int).toNat, none⟩ : Addr) (.slice A6 t5.length c8) = W11 at hM ⊢
  clear hc_ hf_ hcq10 hfq10
  refine RunF.go 4 [0, 4] (k' := (pin Go.Proofs.Tryd.f24 [1, 1, 0] 1)) (L' := [(0, .pointer (some ⟨g1, 0, none⟩)), (4, .agg (nums .u8 ([122, 188, 235, 185, 52, 129, 186, 203] : List Int)).toArray)]) (w' := W11) (by kernel_rfl) ?_
  obtain ⟨t13, ht13, h⟩ := Option.bind_eq_some_iff.mp h
  refine RunF.call (d := some 5) (g := 33) (args := #[.int .i64 247, .int .i64 283, .agg (nums .u8 ([122, 188, 235, 185, 52, 129, 186, 203] : List Int)).toArray, .int .u8 226]) (k2 := (pin Go.Proofs.Tryd.f24 [1, 1, 0] 2)) (by kernel_rfl) (box_Make.calls k 247 283 ([122, 188, 235, 185, 52, 129, 186, 203] : List Int) 226 t13 _ rfl (hG0.mono hM.below) ht13) ?_
  rintro _ W12 ⟨A14, n15, c16, rfl, hM_⟩
  obtain rfl : t13.length = n15 := by have h_ := (hM_.rd 0 rfl).1; simpa [nums_length, bools_length, strs_length] using h_
  replace hM := hM.call hM_
  clear hM_ ht13
  obtain ⟨hcq18, hfq18⟩ := hM.var_at 2 rfl (i := (1 : Int).toNat) (u := .slice none 0 0) rfl
  refine RunF.y (idxArr_own (d := some 6) (g := g1) (len := 4) (i := 1) (k2 := (pin Go.Proofs.Tryd.f24 [1, 1, 0] 3)) (by kernel_rfl) (by decide) (by decide)) trivial ?_
  obtain ⟨hc_, hf_⟩ := hM.var_at 2 rfl (i := (1 : Int).toNat) (u := .slice none 0 0) rfl
  refine RunF.doesU (st_u (p := (⟨g1, (1 : Int).toNat, none⟩ : Addr)) (v := .slice A14 t13.length c16) (k2 := (pin Go.Proofs.Tryd.f24 [1, 1, 0] 4)) (by kernel_rfl) hc_ hf_) ?_
  replace hM : Mem w (W12.setCell (⟨g1, (1 : Int).toNat, none⟩ : Addr) (.slice A14 t13.length c16)) [⟨.slice A14 t13.length c16, 5, 1, nums .u8 t13⟩, ⟨.slice A6 t5.length c8, 5, 1, nums .u8 t5⟩, ⟨.pointer (some ⟨g1, 0, none⟩), 51, 0, [.slice A6 t5.length c8, .slice A14 t13.length c16, .slice none 0 0, .slice none 0 0]⟩] := Mem.set [⟨.slice A14 t13.length c16, 5, 1, nums .u8 t13⟩, ⟨.slice A6 t5.length c8, 5, 1, nums .u8 t5⟩] [] (e := ⟨.pointer (some ⟨g1, 0, none⟩), 51, 0, [.slice A6 t5.length c8, .slice none 0 0, .slice none 0 0, .slice none 0 0]⟩) (hM.pick [0, 1, 2] rfl rfl) rfl _ (by show (1 : Int).toNat < 4; decide) _
  generalize W12.setCell (⟨g1, (1 : Int).toNat, none⟩ : Addr) (.slice A14 t13.length c16) = W19 at hM ⊢
  clear hc_ hf_ hcq18 hfq18
  refine RunF.go 3 [0] (k' := (pin Go.Proofs.Tryd.f24 [1, 1, 1, 0] 0)) (L' := [(0, .pointer (some ⟨g1, 0, none⟩))]) (w' := W19) (by kernel_rfl) ?_
  obtain ⟨hcq20, hfq20⟩ := hM.var_at 2 rfl (i := (0 : Int).toNat) (u := .slice A6 t5.length c8) rfl
  refine RunF.y (idxArr_own (d := some 8) (g := g1) (len := 4) (i := 0) (k2 := (pin Go.Proofs.Tryd.f24 [1, 1, 1, 0] 1)) (by kernel_rfl) (by decide) (by decide)) trivial ?_
  refine RunF.y (ld_y (d := some 9) (p := ⟨g1, (0 : Int).toNat, none⟩) (k2 := (pin Go.Proofs.Tryd.f24 [1, 1, 1, 0] 2)) (.slice A6 t5.length c8) (by kernel_rfl)) hcq20 ?_
  obtain ⟨t22, ht22, h⟩ := Option.bind_eq_some_iff.mp h
  refine RunF.call (d := some 10) (g := 34) (args := #[.slice A6 t5.length c8]) (k2 := (pin Go.Proofs.Tryd.f24 [1, 1, 1, 0] 3)) (by kernel_rfl) (box_Back.calls k A6 t5.length c8 t5 t22 _ (hM.rd 1 rfl) ht22) ?_
  rintro _ W21 ⟨A23, n24, c25, rfl, hM_⟩
  obtain rfl : t22.1.length = n24 := by have h_ := (hM_.rd 0 rfl).1; simpa [nums_length, bools_length, strs_length] using h_
  replace hM := hM.call hM_
  clear hM_ ht22
  refine RunF.go 3 [0, 11] (k' := (pin Go.Proofs.Tryd.f24 [1, 1, 1, 0] 6)) (L' := [(0, .pointer (some ⟨g1, 0, none⟩)), (11, .slice A23 t22.1.length c25)]) (w' := W21) (by kernel_rfl) ?_
  obtain ⟨hcq27, hfq27⟩ := hM.var_at 3 rfl (i := (2 : Int).toNat) (u := .slice none 0 0) rfl
  refine RunF.y (idxArr_own (d := some 13) (g := g1) (len := 4) (i := 2) (k2 := (pin Go.Proofs.Tryd.f24 [1, 1, 1, 0] 7)) (by kernel_rfl) (by decide) (by decide)) trivial ?_
  obtain ⟨hc_, hf_⟩ := hM.var_at 3 rfl (i := (2 : Int).toNat) (u := .slice none 0 0) rfl
  refine RunF.doesU (st_u (p := (⟨g1, (2 : Int).toNat, none⟩ : Addr)) (v := .slice A23 t22.1.length c25) (k2 := (pin Go.Proofs.Tryd.f24 [1, 1, 1, 0] 8)) (by kernel_rfl) hc_ hf_) ?_
  replace hM : Mem w (W21.setCell (⟨g1, (2 : Int).toNat, none⟩ : Addr) (.slice A23 t22.1.length c25)) [⟨.slice A23 t22.1.length c25, 5, 1, nums .u8 t22.1⟩, ⟨.slice A14 t13.length c16, 5, 1, nums .u8 t13⟩, ⟨.slice A6 t5.length c8, 5, 1, nums .u8 t5⟩, ⟨.pointer (some ⟨g1, 0, none⟩), 51, 0, [.slice A6 t5.length c8, .slice A14 t13.length c16, .slice A23 t22.1.length c25, .slice none 0 0]⟩] := Mem.set [⟨.slice A23 t22.1.length c25, 5, 1, nums .u8 t22.1⟩, ⟨.slice A14 t13.length c16, 5, 1, nums .u8 t13⟩, ⟨.slice A6 t5.length c8, 5, 1, nums .u8 t5⟩] [] (e := ⟨.pointer (some ⟨g1, 0, none⟩), 51, 0, [.slice A6 t5.length c8, .slice A14 t13.length c16, .slice none 0 0, .slice none 0 0]⟩) (hM.pick [0, 1, 2, 3] rfl rfl) rfl _ (by show (2 : Int).toNat < 4; decide) _
  generalize W21.setCell (⟨g1, (2 : Int).toNat, none⟩ : Addr) (.slice A23 t22.1.length c25) = W28 at hM ⊢
  clear hc_ hf_ hcq27 hfq27
  refine RunF.go 3 [0] (k' := (pin Go.Proofs.Tryd.f24 [1, 1, 1, 1, 0] 0)) (L' := [(0, .pointer (some ⟨g1, 0, none⟩))]) (w' := W28) (by kernel_rfl) ?_
  obtain ⟨hcq29, hfq29⟩ := hM.var_at 3 rfl (i := (1 : Int).toNat) (u := .slice A14 t13.length c16) rfl
  refine RunF.y (idxArr_own (d := some 15) (g := g1) (len := 4) (i := 1) (k2 := (pin Go.Proofs.Tryd.f24 [1, 1, 1, 1, 0] 1)) (by kernel_rfl) (by decide) (by decide)) trivial ?_
  refine RunF.y (ld_y (d := some 16) (p := ⟨g1, (1 : Int).toNat, none⟩) (k2 := (pin Go.Proofs.Tryd.f24 [1, 1, 1, 1, 0] 2)) (.slice A14 t13.length c16) (by kernel_rfl)) hcq29 ?_
  obtain ⟨t31, ht31, h⟩ := Option.bind_eq_some_iff.mp h
  refine RunF.call (d := some 17) (g := 34) (args := #[.slice A14 t13.length c16]) (k2 := (pin Go.Proofs.Tryd.f24 [1, 1, 1, 1, 0] 3)) (by kernel_rfl) (box_Back.calls k A14 t13.length c16 t13 t31 _ (hM.rd 1 rfl) ht31) ?_
  rintro _ W30 ⟨A32, n33, c34, rfl, hM_⟩
  obtain rfl : t31.1.length = n33 := by have h_ := (hM_.rd 0 rfl).1; simpa [nums_length, bools_length, strs_length] using h_
  replace hM := hM.call hM_
  clear hM_ ht31
  refine RunF.go 3 [0, 18] (k' := (pin Go.Proofs.Tryd.f24 [1, 1, 1, 1, 0] 6)) (L' := [(0, .pointer (some ⟨g1, 0, none⟩)), (18, .slice A32 t31.1.length c34)]) (w' := W30) (by kernel_rfl) ?_
  obtain ⟨hcq36, hfq36⟩ := hM.var_at 4 rfl (i := (3 : Int).toNat) (u := .slice none 0 0) rfl
  refine RunF.y (idxArr_own (d := some 20) (g := g1) (len := 4) (i := 3) (k2 := (pin Go.Proofs.Tryd.f24 [1, 1, 1, 1, 0] 7)) (by kernel_rfl) (by decide) (by decide)) trivial ?_
  obtain ⟨hc_, hf_⟩ := hM.var_at 4 rfl (i := (3 : Int).toNat) (u := .slice none 0 0) rfl
  refine RunF.doesU (st_u (p := (⟨g1, (3 : Int).toNat, none⟩ : Addr)) (v := .slice A32 t31.1.length c34) (k2 := (pin Go.Proofs.Tryd.f24 [1, 1, 1, 1, 0] 8)) (by kernel_rfl) hc_ hf_) ?_
  replace hM : Mem w (W30.setCell (⟨g1, (3 : Int).toNat, none⟩ : Addr) (.slice A32 t31.1.length c34)) [⟨.slice A32 t31.1.length c34, 5, 1, nums .u8 t31.1⟩, ⟨.slice A23 t22.1.length c25, 5, 1, nums .u8 t22.1⟩, ⟨.slice A14 t13.length c16, 5, 1, nums .u8 t13⟩, ⟨.slice A6 t5.length c8, 5, 1, nums .u8 t5⟩, ⟨.pointer (some ⟨g1, 0, none⟩), 51, 0, [.slice A6 t5.length c8, .slice A14 t13.length c16, .slice A23 t22.1.length c25, .slice A32 t31.1.length c34]⟩] := Mem.set [⟨.slice A32 t31.1.length c34, 5, 1, nums .u8 t31.1⟩, ⟨.slice A23 t22.1.length c25, 5, 1, nums .u8 t22.1⟩, ⟨.slice A14 t13.length c16, 5, 1, nums .u8 t13⟩, ⟨.slice A6 t5.length c8, 5, 1, nums .u8 t5⟩] [] (e := ⟨.pointer (some ⟨g1, 0, none⟩), 51, 0, [.slice A6 t5.length c8, .slice A14 t13.length c16, .slice A23 t22.1.length c25, .slice none 0 0]⟩) (hM.pick [0, 1, 2, 3, 4] rfl rfl) rfl _ (by show (3 : Int).toNat < 4; decide) _
  generalize W30.setCell (⟨g1, (3 : Int).toNat, none⟩ : Addr) (.slice A32 t31.1.length c34) = W37 at hM ⊢
  clear hc_ hf_ hcq36 hfq36
  refine RunF.go 3 [0] (k' := (pin Go.Proofs.Tryd.f24 [1, 1, 1, 1, 1, 0] 0)) (L' := [(0, .pointer (some ⟨g1, 0, none⟩))]) (w' := W37) (by kernel_rfl) ?_
  refine RunF.y (ldv_y (d := some 21) (g := g1) (N := 4) (ty := 51) (k2 := (pin Go.Proofs.Tryd.f24 [1, 1, 1, 1, 1, 0] 1)) ([.slice A6 t5.length c8, .slice A14 t13.length c16, .slice A23 t22.1.length c25, .slice A32 t31.1.length c34]) (by kernel_rfl) (by rfl)) (hM.block 4 rfl) ?_
  refine RunF.doesU (stv_u (N := 4) (cells := ([.slice A6 t5.length c8, .slice A14 t13.length c16, .slice A23 t22.1.length c25, .slice A32 t31.1.length c34]).toArray) (old := ([.slice A6 t5.length c8, .slice A14 t13.length c16, .slice A23 t22.1.length c25, .slice A32 t31.1.length c34]).toArray) (ty := 51) (k2 := (pin Go.Proofs.Tryd.f24 [1, 1, 1, 1, 1, 0] 2)) (by kernel_rfl) (by rfl) (hM.block 4 rfl) (by rfl) (by simp [Value.oneCell'])) ?_
  replace hM : Mem w (W37.setRow g1 ([.slice A6 t5.length c8, .slice A14 t13.length c16, .slice A23 t22.1.length c25, .slice A32 t31.1.length c34]).toArray) [⟨.slice A32 t31.1.length c34, 5, 1, nums .u8 t31.1⟩, ⟨.slice A23 t22.1.length c25, 5, 1, nums .u8 t22.1⟩, ⟨.slice A14 t13.length c16, 5, 1, nums .u8 t13⟩, ⟨.slice A6 t5.length c8, 5, 1, nums .u8 t5⟩, ⟨.pointer (some ⟨g1, 0, none⟩), 51, 0, [.slice A6 t5.length c8, .slice A14 t13.length c16, .slice A23 t22.1.length c25, .slice A32 t31.1.length c34]⟩] := Mem.setAll [⟨.slice A32 t31.1.length c34, 5, 1, nums .u8 t31.1⟩, ⟨.slice A23 t22.1.length c25, 5, 1, nums .u8 t22.1⟩, ⟨.slice A14 t13.length c16, 5, 1, nums .u8 t13⟩, ⟨.slice A6 t5.length c8, 5, 1, nums .u8 t5⟩] [] (hM.pick [0, 1, 2, 3, 4] rfl rfl)
  generalize W37.setRow g1 ([.slice A6 t5.length c8, .slice A14 t13.length c16, .slice A23 t22.1.length c25, .slice A32 t31.1.length c34]).toArray = W38 at hM ⊢
  refine RunF.go 1 [0] (k' := (pl Go.Proofs.Tryd.f24 [1, 1, 1, 1, 1, 1])) (L' := [(0, .pointer (some ⟨g1, 0, none⟩))]) (w' := W38) (by kernel_rfl) ?_
  obtain ⟨Fq39, hfq39, hM⟩ := Mem.freezeS (H1 := [⟨.slice A32 t31.1.length c34, 5, 1, nums .u8 t31.1⟩, ⟨.slice A23 t22.1.length c25, 5, 1, nums .u8 t22.1⟩, ⟨.slice A14 t13.length c16, 5, 1, nums .u8 t13⟩]) (H2 := [⟨.pointer (some ⟨g1, 0, none⟩), 51, 0, [.slice A6 t5.length c8, .slice A14 t13.length c16, .slice A23 t22.1.length c25, .slice A32 t31.1.length c34]⟩]) (Fs := []) (A := A6) (n := t5.length) (c := c8) (ty := 5) (cs := nums .u8 t5) (hM.as rfl)
  obtain ⟨Fq40, hfq40, hM⟩ := Mem.freezeS (H1 := [⟨.slice A32 t31.1.length c34, 5, 1, nums .u8 t31.1⟩, ⟨.slice A23 t22.1.length c25, 5, 1, nums .u8 t22.1⟩]) (H2 := [⟨.pointer (some ⟨g1, 0, none⟩), 51, 0, [.slice A6 t5.length c8, .slice A14 t13.length c16, .slice A23 t22.1.length c25, .slice A32 t31.1.length c34]⟩]) (Fs := [Fq39]) (A := A14) (n := t13.length) (c := c16) (ty := 5) (cs := nums .u8 t13) (hM.as rfl)
  obtain ⟨Fq41, hfq41, hM⟩ := Mem.freezeS (H1 := [⟨.slice A32 t31.1.length c34, 5, 1, nums .u8 t31.1⟩]) (H2 := [⟨.pointer (some ⟨g1, 0, none⟩), 51, 0, [.slice A6 t5.length c8, .slice A14 t13.length c16, .slice A23 t22.1.length c25, .slice A32 t31.1.length c34]⟩]) (Fs := [Fq40, Fq39]) (A := A23) (n := t22.1.length) (c := c25) (ty := 5) (cs := nums .u8 t22.1) (hM.as rfl)
  obtain ⟨Fq42, hfq42, hM⟩ := Mem.freezeS (H1 := []) (H2 := [⟨.pointer (some ⟨g1, 0, none⟩), 51, 0, [.slice A6 t5.length c8, .slice A14 t13.length c16, .slice A23 t22.1.length c25, .slice A32 t31.1.length c34]⟩]) (Fs := [Fq41, Fq40, Fq39]) (A := A32) (n := t31.1.length) (c := c34) (ty := 5) (cs := nums .u8 t31.1) (hM.as rfl)
  have hqq43 : Each2 ((rNums .u8) (andZ (Oks Fq39) (andZ (Oks Fq40) (andZ (Oks Fq41) (Oks Fq42))))) [.slice A6 t5.length c8, .slice A14 t13.length c16, .slice A23 t22.1.length c25, .slice A32 t31.1.length c34] ([t5, t13, t22.1, t31.1] : List (List Int)) := (.cons (rnums_of (RdF.up hfq39 (fun _ hz_ => hz_.1)) (And.intro (Mem.oks (hM.as (H' := Gs [⟨.pointer (some ⟨g1, 0, none⟩), 51, 0, [.slice A6 t5.length c8, .slice A14 t13.length c16, .slice A23 t22.1.length c25, .slice A32 t31.1.length c34]⟩] [Fq42, Fq41, Fq40, Fq39]) rfl) 3 rfl) (And.intro (Mem.oks (hM.as (H' := Gs [⟨.pointer (some ⟨g1, 0, none⟩), 51, 0, [.slice A6 t5.length c8, .slice A14 t13.length c16, .slice A23 t22.1.length c25, .slice A32 t31.1.length c34]⟩] [Fq42, Fq41, Fq40, Fq39]) rfl) 2 rfl) (And.intro (Mem.oks (hM.as (H' := Gs [⟨.pointer (some ⟨g1, 0, none⟩), 51, 0, [.slice A6 t5.length c8, .slice A14 t13.length c16, .slice A23 t22.1.length c25, .slice A32 t31.1.length c34]⟩] [Fq42, Fq41, Fq40, Fq39]) rfl) 1 rfl) (Mem.oks (hM.as (H' := Gs [⟨.pointer (some ⟨g1, 0, none⟩), 51, 0, [.slice A6 t5.length c8, .slice A14 t13.length c16, .slice A23 t22.1.length c25, .slice A32 t31.1.length c34]⟩] [Fq42, Fq41, Fq40, Fq39]) rfl) 0 rfl))))) (.cons (rnums_of (RdF.up hfq40 (fun _ hz_ => hz_.2.1)) (And.intro (Mem.oks (hM.as (H' := Gs [⟨.pointer (some ⟨g1, 0, none⟩), 51, 0, [.slice A6 t5.length c8, .slice A14 t13.length c16, .slice A23 t22.1.length c25, .slice A32 t31.1.length c34]⟩] [Fq42, Fq41, Fq40, Fq39]) rfl) 3 rfl) (And.intro (Mem.oks (hM.as (H' := Gs [⟨.pointer (some ⟨g1, 0, none⟩), 51, 0, [.slice A6 t5.length c8, .slice A14 t13.length c16, .slice A23 t22.1.length c25, .slice A32 t31.1.length c34]⟩] [Fq42, Fq41, Fq40, Fq39]) rfl) 2 rfl) (And.intro (Mem.oks (hM.as (H' := Gs [⟨.pointer (some ⟨g1, 0, none⟩), 51, 0, [.slice A6 t5.length c8, .slice A14 t13.length c16, .slice A23 t22.1.length c25, .slice A32 t31.1.length c34]⟩] [Fq42, Fq41, Fq40, Fq39]) rfl) 1 rfl) (Mem.oks (hM.as (H' := Gs [⟨.pointer (some ⟨g1, 0, none⟩), 51, 0, [.slice A6 t5.length c8, .slice A14 t13.length c16, .slice A23 t22.1.length c25, .slice A32 t31.1.length c34]⟩] [Fq42, Fq41, Fq40, Fq39]) rfl) 0 rfl))))) (.cons (rnums_of (RdF.up hfq41 (fun _ hz_ => hz_.2.2.1)) (And.intro (Mem.oks (hM.as (H' := Gs [⟨.pointer (some ⟨g1, 0, none⟩), 51, 0, [.slice A6 t5.length c8, .slice A14 t13.length c16, .slice A23 t22.1.length c25, .slice A32 t31.1.length c34]⟩] [Fq42, Fq41, Fq40, Fq39]) rfl) 3 rfl) (And.intro (Mem.oks (hM.as (H' := Gs [⟨.pointer (some ⟨g1, 0, none⟩), 51, 0, [.slice A6 t5.length c8, .slice A14 t13.length c16, .slice A23 t22.1.length c25, .slice A32 t31.1.length c34]⟩] [Fq42, Fq41, Fq40, Fq39]) rfl) 2 rfl) (And.intro (Mem.oks (hM.as (H' := Gs [⟨.pointer (some ⟨g1, 0, none⟩), 51, 0, [.slice A6 t5.length c8, .slice A14 t13.length c16, .slice A23 t22.1.length c25, .slice A32 t31.1.length c34]⟩] [Fq42, Fq41, Fq40, Fq39]) rfl) 1 rfl) (Mem.oks (hM.as (H' := Gs [⟨.pointer (some ⟨g1, 0, none⟩), 51, 0, [.slice A6 t5.length c8, .slice A14 t13.length c16, .slice A23 t22.1.length c25, .slice A32 t31.1.length c34]⟩] [Fq42, Fq41, Fq40, Fq39]) rfl) 0 rfl))))) (.cons (rnums_of (RdF.up hfq42 (fun _ hz_ => hz_.2.2.2)) (And.intro (Mem.oks (hM.as (H' := Gs [⟨.pointer (some ⟨g1, 0, none⟩), 51, 0, [.slice A6 t5.length c8, .slice A14 t13.length c16, .slice A23 t22.1.length c25, .slice A32 t31.1.length c34]⟩] [Fq42, Fq41, Fq40, Fq39]) rfl) 3 rfl) (And.intro (Mem.oks (hM.as (H' := Gs [⟨.pointer (some ⟨g1, 0, none⟩), 51, 0, [.slice A6 t5.length c8, .slice A14 t13.length c16, .slice A23 t22.1.length c25, .slice A32 t31.1.length c34]⟩] [Fq42, Fq41, Fq40, Fq39]) rfl) 2 rfl) (And.intro (Mem.oks (hM.as (H' := Gs [⟨.pointer (some ⟨g1, 0, none⟩), 51, 0, [.slice A6 t5.length c8, .slice A14 t13.length c16, .slice A23 t22.1.length c25, .slice A32 t31.1.length c34]⟩] [Fq42, Fq41, Fq40, Fq39]) rfl) 1 rfl) (Mem.oks (hM.as (H' := Gs [⟨.pointer (some ⟨g1, 0, none⟩), 51, 0, [.slice A6 t5.length c8, .slice A14 t13.length c16, .slice A23 t22.1.length c25, .slice A32 t31.1.length c34]⟩] [Fq42, Fq41, Fq40, Fq39]) rfl) 0 rfl))))) (Each2.nil _)))))
  obtain rfl := Option.some.inj h
  exact RunF.retc (t := 0) (ty := 51) (N := 4) (g := g1) ([.slice A6 t5.length c8, .slice A14 t13.length c16, .slice A23 t22.1.length c25, .slice A32 t31.1.length c34]) (fn := Go.Proofs.Tryd.f24) Go.Proofs.Tryd.func24 (by kernel_rfl) (by kernel_rfl) (by kernel_rfl) (by kernel_rfl) (hqq43.1.trans (rfl : ([t5, t13, t22.1, t31.1] : List (List Int)).length = 4)) (hM.block 0 rfl) ⟨_, rfl, _, (Fq39 ++ (Fq40 ++ (Fq41 ++ Fq42))), rfl, (up_arr (up_nums .u8)) _ _ _ _ (fun _ (hz_ : Oks _ _) => (And.intro hz_.left (And.intro hz_.right.left (And.intro hz_.right.right.left hz_.right.right.right)))) ⟨_, rfl, (rfl : ([t5, t13, t22.1, t31.1] : List (List Int)).length = 4), hqq43⟩, (Mem.pickF (hM.as (H' := Gs [⟨.pointer (some ⟨g1, 0, none⟩), 51, 0, [.slice A6 t5.length c8, .slice A14 t13.length c16, .slice A23 t22.1.length c25, .slice A32 t31.1.length c34]⟩] [Fq42, Fq41, Fq40, Fq39]) rfl) [4, 3, 2, 1] rfl rfl (by simp [Gs]))⟩

/-! ### scrim/aria.sums: function 22 -/
def aria_sums.f (k : Nat) (a0 : Int) : Option (List Int) := if (a0 == 0) = true then (some ([3, 4, 6, 8, 9, 13, 14] : List Int)) else (if (a0 == 1) = true then (some ([2, 5, 7, 8, 9, 12, 15] : List Int)) else (if (a0 == 2) = true then (some ([1, 4, 6, 10, 11, 12, 15] : List Int)) else (if (a0 == 3) = true then (some ([0, 5, 7, 10, 11, 13, 14] : List Int)) else (if (a0 == 4) = true then (some ([0, 2, 5, 8, 11, 14, 15] : List Int)) else (if (a0 == 5) = true then (some ([1, 3, 4, 9, 10, 14, 15] : List Int)) else (if (a0 == 6) = true then (some ([0, 2, 7, 9, 10, 12, 13] : List Int)) else (if (a0 == 7) = true then (some ([1, 3, 6, 8, 11, 12, 13] : List Int)) else (if (a0 == 8) = true then (some ([0, 1, 4, 7, 10, 13, 15] : List Int)) else (if (a0 == 9) = true then (some ([0, 1, 5, 6, 11, 12, 14] : List Int)) else (if (a0 == 10) = true then (some ([2, 3, 5, 6, 8, 13, 15] : List Int)) else (if (a0 == 11) = true then (some ([2, 3, 4, 7, 9, 12, 14] : List Int)) else (if (a0 == 12) = true then (some ([1, 2, 6, 7, 9, 11, 12] : List Int)) else (if (a0 == 13) = true then (some ([0, 3, 6, 7, 8, 10, 13] : List Int)) else (if (a0 == 14) = true then (some ([0, 3, 4, 5, 9, 11, 14] : List Int)) else (some ([1, 2, 4, 5, 8, 10, 15] : List Int))))))))))))))))
set_option maxRecDepth 100000 in
set_option maxHeartbeats 8000000 in
theorem aria_sums.calls (k : Nat) (a0 : Int) (r : List Int) (w : World) (h : aria_sums.f k a0 = some r) :
    Calls Go.Proofs.Tryd.prog 22 #[.int .i64 a0] w (Ret fun v w' => v = .agg (nums .i64 r).toArray ∧ r.length = 7 ∧ Mem w w' []) := by
  unfold aria_sums.f at h
  refine calls_of [.int .i64 a0] (fn := Go.Proofs.Tryd.f22) Go.Proofs.Tryd.func22 (by kernel_rfl) (by kernel_rfl) ?_
  have hM := Mem.refl w
  refine RunF.go 2 [0] (k' := (pin Go.Proofs.Tryd.f22 [0] 0)) (L' := [(0, .int .i64 a0)]) (w' := w) (by kernel_rfl) ?_
  refine RunF.newVar 47 (nums .i64 (List.replicate 7 (0 : Int))) (d := some 2) (k2 := (pin Go.Proofs.Tryd.f22 [0] 1)) hM (by kernel_rfl) ?_
  intro g1 W2 hM
  refine RunF.go 12 [2, 3, 4] (k' := (pl Go.Proofs.Tryd.f22 [1, 0, 1, 0, 1])) (L' := [(2, .pointer (some ⟨g1, 0, none⟩)), (3, .int .i64 a0), (4, .bool (a0 == 0))]) (w' := W2) (by kernel_rfl) ?_
  rcases two ((a0 == 0)) with c4 | c4
  · replace h := of_true h c4
    refine RunF.know 4 (b := true) (by kernel_rfl) c4 ?_
    refine RunF.go 4 [2, 6] (k' := (pin Go.Proofs.Tryd.f22 [1, 0, 1, 0, 1, 0, 0] 1)) (L' := [(2, .pointer (some ⟨g1, 0, none⟩)), (6, .agg (nums .i64 ([3, 4, 6, 8, 9, 13, 14] : List Int)).toArray)]) (w' := W2) (by kernel_rfl) ?_
    refine RunF.doesU (stv_u (N := 7) (cells := (nums .i64 ([3, 4, 6, 8, 9, 13, 14] : List Int)).toArray) (old := (nums .i64 (List.replicate 7 (0 : Int))).toArray) (ty := 47) (k2 := (pin Go.Proofs.Tryd.f22 [1, 0, 1, 0, 1, 0, 0] 2)) (by kernel_rfl) (by rw [List.size_toArray]; simp only [nums_length, bools_length, strs_length]; exact rfl) (hM.block 0 rfl) (by rw [List.size_toArray]; simp only [nums_length, bools_length, strs_length]; exact List.length_replicate) (all_nums _ _)) ?_
    replace hM : Mem w (W2.setRow g1 (nums .i64 ([3, 4, 6, 8, 9, 13, 14] : List Int)).toArray) [⟨.pointer (some ⟨g1, 0, none⟩), 47, 0, nums .i64 ([3, 4, 6, 8, 9, 13, 14] : List Int)⟩] := Mem.setAll [] [] (hM.pick [0] rfl rfl)
    generalize W2.setRow g1 (nums .i64 ([3, 4, 6, 8, 9, 13, 14] : List Int)).toArray = W5 at hM ⊢
    refine RunF.go 1 [2] (k' := (pl Go.Proofs.Tryd.f22 [1, 0, 1, 0, 1, 0, 1])) (L' := [(2, .pointer (some ⟨g1, 0, none⟩))]) (w' := W5) (by kernel_rfl) ?_
    obtain rfl := Option.some.inj h
    exact RunF.retc (t := 2) (ty := 47) (N := 7) (g := g1) (nums .i64 ([3, 4, 6, 8, 9, 13, 14] : List Int)) (fn := Go.Proofs.Tryd.f22) Go.Proofs.Tryd.func22 (by kernel_rfl) (by kernel_rfl) (by kernel_rfl) (by kernel_rfl) (by simp only [nums_length, bools_length, strs_length]; exact rfl) (hM.block 0 rfl) ⟨_, rfl, rfl, rfl, (hM.pick [] rfl rfl)⟩
  · replace h := of_false h c4
    refine RunF.know 4 (b := false) (by kernel_rfl) c4 ?_
    refine RunF.go 6 [2, 3, 7] (k' := (pl Go.Proofs.Tryd.f22 [1, 0, 1, 0, 1, 1, 1])) (L' := [(2, .pointer (some ⟨g1, 0, none⟩)), (3, .int .i64 a0), (7, .bool (a0 == 1))]) (w' := W2) (by kernel_rfl) ?_
    rcases two ((a0 == 1)) with c6 | c6
    · replace h := of_true h c6
      refine RunF.know 7 (b := true) (by kernel_rfl) c6 ?_
      refine RunF.go 4 [2, 9] (k' := (pin Go.Proofs.Tryd.f22 [1, 0, 1, 0, 1, 1, 1, 0, 0] 1)) (L' := [(2, .pointer (some ⟨g1, 0, none⟩)), (9, .agg (nums .i64 ([2, 5, 7, 8, 9, 12, 15] : List Int)).toArray)]) (w' := W2) (by kernel_rfl) ?_
      refine RunF.doesU (stv_u (N := 7) (cells := (nums .i64 ([2, 5, 7, 8, 9, 12, 15] : List Int)).toArray) (old := (nums .i64 (List.replicate 7 (0 : Int))).toArray) (ty := 47) (k2 := (pin Go.Proofs.Tryd.f22 [1, 0, 1, 0, 1, 1, 1, 0, 0] 2)) (by kernel_rfl) (by rw [List.size_toArray]; simp only [nums_length, bools_length, strs_length]; exact rfl) (hM.block 0 rfl) (by rw [List.size_toArray]; simp only [nums_length, bools_length, strs_length]; exact List.length_replicate) (all_nums _ _)) ?_
      replace hM : Mem w (W2.setRow g1 (nums .i64 ([2, 5, 7, 8, 9, 12, 15] : List Int)).toArray) [⟨.pointer (some ⟨g1, 0, none⟩), 47, 0, nums .i64 ([2, 5, 7, 8, 9, 12, 15] : List Int)⟩] := Mem.setAll [] [] (hM.pick [0] rfl rfl)
      generalize W2.setRow g1 (nums .i64 ([2, 5, 7, 8, 9, 12, 15] : List Int)).toArray = W7 at hM ⊢
      refine RunF.go 1 [2] (k' := (pl Go.Proofs.Tryd.f22 [1, 0, 1, 0, 1, 1, 1, 0, 1])) (L' := [(2, .pointer (some ⟨g1, 0, none⟩))]) (w' := W7) (by kernel_rfl) ?_
      obtain rfl := Option.some.inj h
      exact RunF.retc (t := 2) (ty := 47) (N := 7) (g := g1) (nums .i64 ([2, 5, 7, 8, 9, 12, 15] : List Int)) (fn := Go.Proofs.Tryd.f22) Go.Proofs.Tryd.func22 (by kernel_rfl) (by kernel_rfl) (by kernel_rfl) (by kernel_rfl) (by simp only [nums_length, bools_length, strs_length]; exact rfl) (hM.block 0 rfl) ⟨_, rfl, rfl, rfl, (hM.pick [] rfl rfl)⟩
    · replace h := of_false h c6
      refine RunF.know 7 (b := false) (by kernel_rfl) c6 ?_
      refine RunF.go 6 [2, 3, 10] (k' := (pl Go.Proofs.Tryd.f22 [1, 0, 1, 0, 1, 1, 1, 1, 1])) (L' := [(2, .pointer (some ⟨g1, 0, none⟩)), (3, .int .i64 a0), (10, .bool (a0 == 2))]) (w' := W2) (by kernel_rfl) ?_
      rcases two ((a0 == 2)) with c8 | c8
      · replace h := of_true h c8
        refine RunF.know 10 (b := true) (by kernel_rfl) c8 ?_
        refine RunF.go 4 [2, 12] (k' := (pin Go.Proofs.Tryd.f22 [1, 0, 1, 0, 1, 1, 1, 1, 1, 0, 0] 1)) (L' := [(2, .pointer (some ⟨g1, 0, none⟩)), (12, .agg (nums .i64 ([1, 4, 6, 10, 11, 12, 15] : List Int)).toArray)]) (w' := W2) (by kernel_rfl) ?_
        refine RunF.doesU (stv_u (N := 7) (cells := (nums .i64 ([1, 4, 6, 10, 11, 12, 15] : List Int)).toArray) (old := (nums .i64 (List.replicate 7 (0 : Int))).toArray) (ty := 47) (k2 := (pin Go.Proofs.Tryd.f22 [1, 0, 1, 0, 1, 1, 1, 1, 1, 0, 0] 2)) (by kernel_rfl) (by rw [List.size_toArray]; simp only [nums_length, bools_length, strs_length]; exact rfl) (hM.block 0 rfl) (by rw [List.size_toArray]; simp only [nums_length, bools_length, strs_length]; exact List.length_replicate) (all_nums _ _)) ?_
        replace hM : Mem w (W2.setRow g1 (nums .i64 ([1, 4, 6, 10, 11, 12, 15] : List Int)).toArray) [⟨.pointer (some ⟨g1, 0, none⟩), 47, 0, nums .i64 ([1, 4, 6, 10, 11, 12, 15] : List Int)⟩] := Mem.setAll [] [] (hM.pick [0] rfl rfl)
        generalize W2.setRow g1 (nums .i64 ([1, 4, 6, 10, 11, 12, 15] : List Int)).toArray = W9 at hM ⊢
        refine RunF.go 1 [2] (k' := (pl Go.Proofs.Tryd.f22 [1, 0, 1, 0, 1, 1, 1, 1, 1, 0, 1])) (L' := [(2, .pointer (some ⟨g1, 0, none⟩))]) (w' := W9) (by kernel_rfl) ?_
        obtain rfl := Option.some.inj h
        exact RunF.retc (t := 2) (ty := 47) (N := 7) (g := g1) (nums .i64 ([1, 4, 6, 10, 11, 12, 15] : List Int)) (fn := Go.Proofs.Tryd.f22) Go.Proofs.Tryd.func22 (by kernel_rfl) (by kernel_rfl) (by kernel_rfl) (by kernel_rfl) (by simp only [nums_length, bools_length, strs_length]; exact rfl) (hM.block 0 rfl) ⟨_, rfl, rfl, rfl, (hM.pick [] rfl rfl)⟩
      · replace h := of_false h c8
        refine RunF.know 10 (b := false) (by kernel_rfl) c8 ?_
        refine RunF.go 6 [2, 3, 13] (k' := (pl Go.Proofs.Tryd.f22 [1, 0, 1, 0, 1, 1, 1, 1, 1, 1, 1])) (L' := [(2, .pointer (some ⟨g1, 0, none⟩)), (3, .int .i64 a0), (13, .bool (a0 == 3))]) (w' := W2) (by kernel_rfl) ?_
        rcases two ((a0 == 3)) with c10 | c10
        · replace h := of_true h c10
          refine RunF.know 13 (b := true) (by kernel_rfl) c10 ?_
          refine RunF.go 4 [2, 15] (k' := (pin Go.Proofs.Tryd.f22 [1, 0, 1, 0, 1, 1, 1, 1, 1, 1, 1, 0, 0] 1)) (L' := [(2, .pointer (some ⟨g1, 0, none⟩)), (15, .agg (nums .i64 ([0, 5, 7, 10, 11, 13, 14] : List Int)).toArray)]) (w' := W2) (by kernel_rfl) ?_
          refine RunF.doesU (stv_u (N := 7) (cells := (nums .i64 ([0, 5, 7, 10, 11, 13, 14] : List Int)).toArray) (old := (nums .i64 (List.replicate 7 (0 : Int))).toArray) (ty := 47) (k2 := (pin Go.Proofs.Tryd.f22 [1, 0, 1, 0, 1, 1, 1, 1, 1, 1, 1, 0, 0] 2)) (by kernel_rfl) (by rw [List.size_toArray]; simp only [nums_length, bools_length, strs_length]; exact rfl) (hM.block 0 rfl) (by rw [List.size_toArray]; simp only [nums_length, bools_length, strs_length]; exact List.length_replicate) (all_nums _ _)) ?_
          replace hM : Mem w (W2.setRow g1 (nums .i64 ([0, 5, 7, 10, 11, 13, 14] : List Int)).toArray) [⟨.pointer (some ⟨g1, 0, none⟩), 47, 0, nums .i64 ([0, 5, 7, 10, 11, 13, 14] : List Int)⟩] := Mem.setAll [] [] (hM.pick [0] rfl rfl)
          generalize W2.setRow g1 (nums .i64 ([0, 5, 7, 10, 11, 13, 14] : List Int)).toArray = W11 at hM ⊢
          refine RunF.go 1 [2] (k' := (pl Go.Proofs.Tryd.f22 [1, 0, 1, 0, 1, 1, 1, 1, 1, 1, 1, 0, 1])) (L' := [(2, .pointer (some ⟨g1, 0, none⟩))]) (w' := W11) (by kernel_rfl) ?_
          obtain rfl := Option.some.inj h
          exact RunF.retc (t := 2) (ty := 47) (N := 7) (g := g1) (nums .i64 ([0, 5, 7, 10, 11, 13, 14] : List Int)) (fn := Go.Proofs.Tryd.f22) Go.Proofs.Tryd.func22 (by kernel_rfl) (by kernel_rfl) (by kernel_rfl) (by kernel_rfl) (by simp only [nums_length, bools_length, strs_length]; exact rfl) (hM.block 0 rfl) ⟨_, rfl, rfl, rfl, (hM.pick [] rfl rfl)⟩
        · replace h := of_false h c10
          refine RunF.know 13 (b := false) (by kernel_rfl) c10 ?_
          refine RunF.go 6 [2, 3, 16] (k' := (pl Go.Proofs.Tryd.f22 [1, 0, 1, 0, 1, 1, 1, 1, 1, 1, 1, 1, 1])) (L' := [(2, .pointer (some ⟨g1, 0, none⟩)), (3, .int .i64 a0), (16, .bool (a0 == 4))]) (w' := W2) (by kernel_rfl) ?_
          rcases two ((a0 == 4)) with c12 | c12
          · replace h := of_true h c12
            refine RunF.know 16 (b := true) (by kernel_rfl) c12 ?_
            refine RunF.go 4 [2, 18] (k' := (pin Go.Proofs.Tryd.f22 [1, 0, 1, 0, 1, 1, 1, 1, 1, 1, 1, 1, 1, 0, 0] 1)) (L' := [(2, .pointer (some ⟨g1, 0, none⟩)), (18, .agg (nums .i64 ([0, 2, 5, 8, 11, 14, 15] : List Int)).toArray)]) (w' := W2) (by kernel_rfl) ?_
            refine RunF.doesU (stv_u (N := 7) (cells := (nums .i64 ([0, 2, 5, 8, 11, 14, 15] : List Int)).toArray) (old := (nums .i64 (List.replicate 7 (0 : Int))).toArray) (ty := 47) (k2 := (pin Go.Proofs.Tryd.f22 [1, 0, 1, 0, 1, 1, 1, 1, 1, 1, 1, 1, 1, 0, 0] 2)) (by kernel_rfl) (by rw [List.size_toArray]; simp only [nums_length, bools_length, strs_length]; exact rfl) (hM.block 0 rfl) (by rw [List.size_toArray]; simp only [nums_length, bools_length, strs_length]; exact List.length_replicate) (all_nums _ _)) ?_
            replace hM : Mem w (W2.setRow g1 (nums .i64 ([0, 2, 5, 8, 11, 14, 15] : List Int)).toArray) [⟨.pointer (some ⟨g1, 0, none⟩), 47, 0, nums .i64 ([0, 2, 5, 8, 11, 14, 15] : List Int)⟩] := Mem.setAll [] [] (hM.pick [0] rfl rfl)
            generalize W2.setRow g1 (nums .i64 ([0, 2, 5, 8, 11, 14, 15] : List Int)).toArray = W13 at hM ⊢
            refine RunF.go 1 [2] (k' := (pl Go.Proofs.Tryd.f22 [1, 0, 1, 0, 1, 1, 1, 1, 1, 1, 1, 1, 1, 0, 1])) (L' := [(2, .pointer (some ⟨g1, 0, none⟩))]) (w' := W13) (by kernel_rfl) ?_
            obtain rfl := Option.some.inj h
            exact RunF.retc (t := 2) (ty := 47) (N := 7) (g := g1) (nums .i64 ([0, 2, 5, 8, 11, 14, 15] : List Int)) (fn := Go.Proofs.Tryd.f22) Go.Proofs.Tryd.func22 (by kernel_rfl) (by kernel_rfl) (by kernel_rfl) (by kernel_rfl) (by simp only [nums_length, bools_length, strs_length]; exact rfl) (hM.block 0 rfl) ⟨_, rfl, rfl, rfl, (hM.pick [] rfl rfl)⟩
          · replace h := of_false h c12
            refine RunF.know 16 (b := false) (by kernel_rfl) c12 ?_
            refine RunF.go 6 [2, 3, 19] (k' := (pl Go.Proofs.Tryd.f22 [1, 0, 1, 0, 1, 1, 1, 1, 1, 1, 1, 1, 1, 1, 1])) (L' := [(2, .pointer (some ⟨g1, 0, none⟩)), (3, .int .i64 a0), (19, .bool (a0 == 5))]) (w' := W2) (by kernel_rfl) ?_
            rcases two ((a0 == 5)) with c14 | c14
            · replace h := of_true h c14
              refine RunF.know 19 (b := true) (by kernel_rfl) c14 ?_
              refine RunF.go 4 [2, 21] (k' := (pin Go.Proofs.Tryd.f22 [1, 0, 1, 0, 1, 1, 1, 1, 1, 1, 1, 1, 1, 1, 1, 0, 0] 1)) (L' := [(2, .pointer (some ⟨g1, 0, none⟩)), (21, .agg (nums .i64 ([1, 3, 4, 9, 10, 14, 15] : List Int)).toArray)]) (w' := W2) (by kernel_rfl) ?_
              refine RunF.doesU (stv_u (N := 7) (cells := (nums .i64 ([1, 3, 4, 9, 10, 14, 15] : List Int)).toArray) (old := (nums .i64 (List.replicate 7 (0 : Int))).toArray) (ty := 47) (k2 := (pin Go.Proofs.Tryd.f22 [1, 0, 1, 0, 1, 1, 1, 1, 1, 1, 1, 1, 1, 1, 1, 0, 0] 2)) (by kernel_rfl) (by rw [List.size_toArray]; simp only [nums_length, bools_length, strs_length]; exact rfl) (hM.block 0 rfl) (by rw [List.size_toArray]; simp only [nums_length, bools_length, strs_length]; exact List.length_replicate) (all_nums _ _)) ?_
              replace hM : Mem w (W2.setRow g1 (nums .i64 ([1, 3, 4, 9, 10, 14, 15] : List Int)).toArray) [⟨.pointer (some ⟨g1, 0, none⟩), 47, 0, nums .i64 ([1, 3, 4, 9, 10, 14, 15] : List Int)⟩] := Mem.setAll [] [] (hM.pick [0] rfl rfl)
              generalize W2.setRow g1 (nums .i64 ([1, 3, 4, 9, 10, 14, 15] : List Int)).toArray = W15 at hM ⊢
              refine RunF.go 1 [2] (k' := (pl Go.Proofs.Tryd.f22 [1, 0, 1, 0, 1, 1, 1, 1, 1, 1, 1, 1, 1, 1, 1, 0, 1])) (L' := [(2, .pointer (some ⟨g1, 0, none⟩))]) (w' := W15) (by kernel_rfl) ?_
              obtain rfl := Option.some.inj h
              exact RunF.retc (t := 2) (ty := 47) (N := 7) (g := g1) (nums .i64 ([1, 3, 4, 9, 10, 14, 15] : List Int)) (fn := Go.Proofs.Tryd.f22) Go.Proofs.Tryd.func22 (by kernel_rfl) (by kernel_rfl) (by kernel_rfl) (by kernel_rfl) (by simp only [nums_length, bools_length, strs_length]; exact rfl) (hM.block 0 rfl) ⟨_, rfl, rfl, rfl, (hM.pick [] rfl rfl)⟩
            · replace h := of_false h c14
              refine RunF.know 19 (b := false) (by kernel_rfl) c14 ?_
              refine RunF.go 6 [2, 3, 22] (k' := (pl Go.Proofs.Tryd.f22 [1, 0, 1, 0, 1, 1, 1, 1, 1, 1, 1, 1, 1, 1, 1, 1, 1])) (L' := [(2, .pointer (some ⟨g1, 0, none⟩)), (3, .int .i64 a0), (22, .bool (a0 == 6))]) (w' := W2) (by kernel_rfl) ?_
              rcases two ((a0 == 6)) with c16 | c16
              · replace h := of_true h c16
                refine RunF.know 22 (b := true) (by kernel_rfl) c16 ?_
                refine RunF.go 4 [2, 24] (k' := (pin Go.Proofs.Tryd.f22 [1, 0, 1, 0, 1, 1, 1, 1, 1, 1, 1, 1, 1, 1, 1, 1, 1, 0, 0] 1)) (L' := [(2, .pointer (some ⟨g1, 0, none⟩)), (24, .agg (nums .i64 ([0, 2, 7, 9, 10, 12, 13] : List Int)).toArray)]) (w' := W2) (by kernel_rfl) ?_
                refine RunF.doesU (stv_u (N := 7) (cells := (nums .i64 ([0, 2, 7, 9, 10, 12, 13] : List Int)).toArray) (old := (nums .i64 (List.replicate 7 (0 : Int))).toArray) (ty := 47) (k2 := (pin Go.Proofs.Tryd.f22 [1, 0, 1, 0, 1, 1, 1, 1, 1, 1, 1, 1, 1, 1, 1, 1, 1, 0, 0] 2)) (by kernel_rfl) (by rw [List.size_toArray]; simp only [nums_length, bools_length, strs_length]; exact rfl) (hM.block 0 rfl) (by rw [List.size_toArray]; simp only [nums_length, bools_length, strs_length]; exact List.length_replicate) (all_nums _ _)) ?_
                replace hM : Mem w (W2.setRow g1 (nums .i64 ([0, 2, 7, 9, 10, 12, 13] : List Int)).toArray) [⟨.pointer (some ⟨g1, 0, none⟩), 47, 0, nums .i64 ([0, 2, 7, 9, 10, 12, 13] : List Int)⟩] := Mem.setAll [] [] (hM.pick [0] rfl rfl)
                generalize W2.setRow g1 (nums .i64 ([0, 2, 7, 9, 10, 12, 13] : List Int)).toArray = W17 at hM ⊢
                refine RunF.go 1 [2] (k' := (pl Go.Proofs.Tryd.f22 [1, 0, 1, 0, 1, 1, 1, 1, 1, 1, 1, 1, 1, 1, 1, 1, 1, 0, 1])) (L' := [(2, .pointer (some ⟨g1, 0, none⟩))]) (w' := W17) (by kernel_rfl) ?_
                obtain rfl := Option.some.inj h
                exact RunF.retc (t := 2) (ty := 47) (N := 7) (g := g1) (nums .i64 ([0, 2, 7, 9, 10, 12, 13] : List Int)) (fn := Go.Proofs.Tryd.f22) Go.Proofs.Tryd.func22 (by kernel_rfl) (by kernel_rfl) (by kernel_rfl) (by kernel_rfl) (by simp only [nums_length, bools_length, strs_length]; exact rfl) (hM.block 0 rfl) ⟨_, rfl, rfl, rfl, (hM.pick [] rfl rfl)⟩
              · replace h := of_false h c16
                refine RunF.know 22 (b := false) (by kernel_rfl) c16 ?_
                refine RunF.go 6 [2, 3, 25] (k' := (pl Go.Proofs.Tryd.f22 [1, 0, 1, 0, 1, 1, 1, 1, 1, 1, 1, 1, 1, 1, 1, 1, 1, 1, 1])) (L' := [(2, .pointer (some ⟨g1, 0, none⟩)), (3, .int .i64 a0), (25, .bool (a0 == 7))]) (w' := W2) (by kernel_rfl) ?_
                rcases two ((a0 == 7)) with c18 | c18
                · replace h := of_true h c18
                  refine RunF.know 25 (b := true) (by kernel_rfl) c18 ?_
                  refine RunF.go 4 [2, 27] (k' := (pin Go.Proofs.Tryd.f22 [1, 0, 1, 0, 1, 1, 1, 1, 1, 1, 1, 1, 1, 1, 1, 1, 1, 1, 1, 0, 0] 1)) (L' := [(2, .pointer (some ⟨g1, 0, none⟩)), (27, .agg (nums .i64 ([1, 3, 6, 8, 11, 12, 13] : List Int)).toArray)]) (w' := W2) (by kernel_rfl) ?_
                  refine RunF.doesU (stv_u (N := 7) (cells := (nums .i64 ([1, 3, 6, 8, 11, 12, 13] : List Int)).toArray) (old := (nums .i64 (List.replicate 7 (0 : Int))).toArray) (ty := 47) (k2 := (pin Go.Proofs.Tryd.f22 [1, 0, 1, 0, 1, 1, 1, 1, 1, 1, 1, 1, 1, 1, 1, 1, 1, 1, 1, 0, 0] 2)) (by kernel_rfl) (by rw [List.size_toArray]; simp only [nums_length, bools_length, strs_length]; exact rfl) (hM.block 0 rfl) (by rw [List.size_toArray]; simp only [nums_length, bools_length, strs_length]; exact List.length_replicate) (all_nums _ _)) ?_
                  replace hM : Mem w (W2.setRow g1 (nums .i64 ([1, 3, 6, 8, 11, 12, 13] : List Int)).toArray) [⟨.pointer (some ⟨g1, 0, none⟩), 47, 0, nums .i64 ([1, 3, 6, 8, 11, 12, 13] : List Int)⟩] := Mem.setAll [] [] (hM.pick [0] rfl rfl)
                  generalize W2.setRow g1 (nums .i64 ([1, 3, 6, 8, 11, 12, 13] : List Int)).toArray = W19 at hM ⊢
                  refine RunF.go 1 [2] (k' := (pl Go.Proofs.Tryd.f22 [1, 0, 1, 0, 1, 1, 1, 1, 1, 1, 1, 1, 1, 1, 1, 1, 1, 1, 1, 0, 1])) (L' := [(2, .pointer (some ⟨g1, 0, none⟩))]) (w' := W19) (by kernel_rfl) ?_
                  obtain rfl := Option.some.inj h
                  exact RunF.retc (t := 2) (ty := 47) (N := 7) (g := g1) (nums .i64 ([1, 3, 6, 8, 11, 12, 13] : List Int)) (fn := Go.Proofs.Tryd.f22) Go.Proofs.Tryd.func22 (by kernel_rfl) (by kernel_rfl) (by kernel_rfl) (by kernel_rfl) (by simp only [nums_length, bools_length, strs_length]; exact rfl) (hM.block 0 rfl) ⟨_, rfl, rfl, rfl, (hM.pick [] rfl rfl)⟩
                · replace h := of_false h c18
                  refine RunF.know 25 (b := false) (by kernel_rfl) c18 ?_
                  refine RunF.go 6 [2, 3, 28] (k' := (pl Go.Proofs.Tryd.f22 [1, 0, 1, 0, 1, 1, 1, 1, 1, 1, 1, 1, 1, 1, 1, 1, 1, 1, 1, 1, 1])) (L' := [(2, .pointer (some ⟨g1, 0, none⟩)), (3, .int .i64 a0), (28, .bool (a0 == 8))]) (w' := W2) (by kernel_rfl) ?_
                  rcases two ((a0 == 8)) with c20 | c20
                  · replace h := of_true h c20
                    refine RunF.know 28 (b := true) (by kernel_rfl) c20 ?_
                    refine RunF.go 4 [2, 30] (k' := (pin Go.Proofs.Tryd.f22 [1, 0, 1, 0, 1, 1, 1, 1, 1, 1, 1, 1, 1, 1, 1, 1, 1, 1, 1, 1, 1, 0, 0] 1)) (L' := [(2, .pointer (some ⟨g1, 0, none⟩)), (30, .agg (nums .i64 ([0, 1, 4, 7, 10, 13, 15] : List Int)).toArray)]) (w' := W2) (by kernel_rfl) ?_
                    refine RunF.doesU (stv_u (N := 7) (cells := (nums .i64 ([0, 1, 4, 7, 10, 13, 15] : List Int)).toArray) (old := (nums .i64 (List.replicate 7 (0 : Int))).toArray) (ty := 47) (k2 := (pin Go.Proofs.Tryd.f22 [1, 0, 1, 0, 1, 1, 1, 1, 1, 1, 1, 1, 1, 1, 1, 1, 1, 1, 1, 1, 1, 0, 0] 2)) (by kernel_rfl) (by rw [List.size_toArray]; simp only [nums_length, bools_length, strs_length]; exact rfl) (hM.block 0 rfl) (by rw [List.size_toArray]; simp only [nums_length, bools_length, strs_length]; exact List.length_replicate) (all_nums _ _)) ?_
                    replace hM : Mem w (W2.setRow g1 (nums .i64 ([0, 1, 4, 7, 10, 13, 15] : List Int)).toArray) [⟨.pointer (some ⟨g1, 0, none⟩), 47, 0, nums .i64 ([0, 1, 4, 7, 10, 13, 15] : List Int)⟩] := Mem.setAll [] [] (hM.pick [0] rfl rfl)
                    generalize W2.setRow g1 (nums .i64 ([0, 1, 4, 7, 10, 13, 15] : List Int)).toArray = W21 at hM ⊢
                    refine RunF.go 1 [2] (k' := (pl Go.Proofs.Tryd.f22 [1, 0, 1, 0, 1, 1, 1, 1, 1, 1, 1, 1, 1, 1, 1, 1, 1, 1, 1, 1, 1, 0, 1])) (L' := [(2, .pointer (some ⟨g1, 0, none⟩))]) (w' := W21) (by kernel_rfl) ?_
                    obtain rfl := Option.some.inj h
                    exact RunF.retc (t := 2) (ty := 47) (N := 7) (g := g1) (nums .i64 ([0, 1, 4, 7, 10, 13, 15] : List Int)) (fn := Go.Proofs.Tryd.f22) Go.Proofs.Tryd.func22 (by kernel_rfl) (by kernel_rfl) (by kernel_rfl) (by kernel_rfl) (by simp only [nums_length, bools_length, strs_length]; exact rfl) (hM.block 0 rfl) ⟨_, rfl, rfl, rfl, (hM.pick [] rfl rfl)⟩
                  · replace h := of_false h c20
                    refine RunF.know 28 (b := false) (by kernel_rfl) c20 ?_
                    refine RunF.go 6 [2, 3, 31] (k' := (pl Go.Proofs.Tryd.f22 [1, 0, 1, 0, 1, 1, 1, 1, 1, 1, 1, 1, 1, 1, 1, 1, 1, 1, 1, 1, 1, 1, 1])) (L' := [(2, .pointer (some ⟨g1, 0, none⟩)), (3, .int .i64 a0), (31, .bool (a0 == 9))]) (w' := W2) (by kernel_rfl) ?_
                    rcases two ((a0 == 9)) with c22 | c22
                    · replace h := of_true h c22
                      refine RunF.know 31 (b := true) (by kernel_rfl) c22 ?_
                      refine RunF.go 4 [2, 33] (k' := (pin Go.Proofs.Tryd.f22 [1, 0, 1, 0, 1, 1, 1, 1, 1, 1, 1, 1, 1, 1, 1, 1, 1, 1, 1, 1, 1, 1, 1, 0, 0] 1)) (L' := [(2, .pointer (some ⟨g1, 0, none⟩)), (33, .agg (nums .i64 ([0, 1, 5, 6, 11, 12, 14] : List Int)).toArray)]) (w' := W2) (by kernel_rfl) ?_
                      refine RunF.doesU (stv_u (N := 7) (cells := (nums .i64 ([0, 1, 5, 6, 11, 12, 14] : List Int)).toArray) (old := (nums .i64 (List.replicate 7 (0 : Int))).toArray) (ty := 47) (k2 := (pin Go.Proofs.Tryd.f22 [1, 0, 1, 0, 1, 1, 1, 1, 1, 1, 1, 1, 1, 1, 1, 1, 1, 1, 1, 1, 1, 1, 1, 0, 0] 2)) (by kernel_rfl) (by rw [List.size_toArray]; simp only [nums_length, bools_length, strs_length]; exact rfl) (hM.block 0 rfl) (by rw [List.size_toArray]; simp only [nums_length, bools_length, strs_length]; exact List.length_replicate) (all_nums _ _)) ?_
                      replace hM : Mem w (W2.setRow g1 (nums .i64 ([0, 1, 5, 6, 11, 12, 14] : List Int)).toArray) [⟨.pointer (some ⟨g1, 0, none⟩), 47, 0, nums .i64 ([0, 1, 5, 6, 11, 12, 14] : List Int)⟩] := Mem.setAll [] [] (hM.pick [0] rfl rfl)
                      generalize W2.setRow g1 (nums .i64 ([0, 1, 5, 6, 11, 12, 14] : List Int)).toArray = W23 at hM ⊢
                      refine RunF.go 1 [2] (k' := (pl Go.Proofs.Tryd.f22 [1, 0, 1, 0, 1, 1, 1, 1, 1, 1, 1, 1, 1, 1, 1, 1, 1, 1, 1, 1, 1, 1, 1, 0, 1])) (L' := [(2, .pointer (some ⟨g1, 0, none⟩))]) (w' := W23) (by kernel_rfl) ?_
                      obtain rfl := Option.some.inj h
                      exact RunF.retc (t := 2) (ty := 47) (N := 7) (g := g1) (nums .i64 ([0, 1, 5, 6, 11, 12, 14] : List Int)) (fn := Go.Proofs.Tryd.f22) Go.Proofs.Tryd.func22 (by kernel_rfl) (by kernel_rfl) (by kernel_rfl) (by kernel_rfl) (by simp only [nums_length, bools_length, strs_length]; exact rfl) (hM.block 0 rfl) ⟨_, rfl, rfl, rfl, (hM.pick [] rfl rfl)⟩
                    · replace h := of_false h c22
                      refine RunF.know 31 (b := false) (by kernel_rfl) c22 ?_
                      refine RunF.go 6 [2, 3, 34] (k' := (pl Go.Proofs.Tryd.f22 [1, 0, 1, 0, 1, 1, 1, 1, 1, 1, 1, 1, 1, 1, 1, 1, 1, 1, 1, 1, 1, 1, 1, 1, 1])) (L' := [(2, .pointer (some ⟨g1, 0, none⟩)), (3, .int .i64 a0), (34, .bool (a0 == 10))]) (w' := W2) (by kernel_rfl) ?_
                      rcases two ((a0 == 10)) with c24 | c24
                      · replace h := of_true h c24
                        refine RunF.know 34 (b := true) (by kernel_rfl) c24 ?_
                        refine RunF.go 4 [2, 36] (k' := (pin Go.Proofs.Tryd.f22 [1, 0, 1, 0, 1, 1, 1, 1, 1, 1, 1, 1, 1, 1, 1, 1, 1, 1, 1, 1, 1, 1, 1, 1, 1, 0, 0] 1)) (L' := [(2, .pointer (some ⟨g1, 0, none⟩)), (36, .agg (nums .i64 ([2, 3, 5, 6, 8, 13, 15] : List Int)).toArray)]) (w' := W2) (by kernel_rfl) ?_
                        refine RunF.doesU (stv_u (N := 7) (cells := (nums .i64 ([2, 3, 5, 6, 8, 13, 15] : List Int)).toArray) (old := (nums .i64 (List.replicate 7 (0 : Int))).toArray) (ty := 47) (k2 := (pin Go.Proofs.Tryd.f22 [1, 0, 1, 0, 1, 1, 1, 1, 1, 1, 1, 1, 1, 1, 1, 1, 1, 1, 1, 1, 1, 1, 1, 1, 1, 0, 0] 2)) (by kernel_rfl) (by rw [List.size_toArray]; simp only [nums_length, bools_length, strs_length]; exact rfl) (hM.block 0 rfl) (by rw [List.size_toArray]; simp only [nums_length, bools_length, strs_length]; exact List.length_replicate) (all_nums _ _)) ?_
                        replace hM : Mem w (W2.setRow g1 (nums .i64 ([2, 3, 5, 6, 8, 13, 15] : List Int)).toArray) [⟨.pointer (some ⟨g1, 0, none⟩), 47, 0, nums .i64 ([2, 3, 5, 6, 8, 13, 15] : List Int)⟩] := Mem.setAll [] [] (hM.pick [0] rfl rfl)
                        generalize W2.setRow g1 (nums .i64 ([2, 3, 5, 6, 8, 13, 15] : List Int)).toArray = W25 at hM ⊢
                        refine RunF.go 1 [2] (k' := (pl Go.Proofs.Tryd.f22 [1, 0, 1, 0, 1, 1, 1, 1, 1, 1, 1, 1, 1, 1, 1, 1, 1, 1, 1, 1, 1, 1, 1, 1, 1, 0, 1])) (L' := [(2, .pointer (some ⟨g1, 0, none⟩))]) (w' := W25) (by kernel_rfl) ?_
                        obtain rfl := Option.some.inj h
                        exact RunF.retc (t := 2) (ty := 47) (N := 7) (g := g1) (nums .i64 ([2, 3, 5, 6, 8, 13, 15] : List Int)) (fn := Go.Proofs.Tryd.f22) Go.Proofs.Tryd.func22 (by kernel_rfl) (by kernel_rfl) (by kernel_rfl) (by kernel_rfl) (by simp only [nums_length, bools_length, strs_length]; exact rfl) (hM.block 0 rfl) ⟨_, rfl, rfl, rfl, (hM.pick [] rfl rfl)⟩
                      · replace h := of_false h c24
                        refine RunF.know 34 (b := false) (by kernel_rfl) c24 ?_
                        refine RunF.go 6 [2, 3, 37] (k' := (pl Go.Proofs.Tryd.f22 [1, 0, 1, 0, 1, 1, 1, 1, 1, 1, 1, 1, 1, 1, 1, 1, 1, 1, 1, 1, 1, 1, 1, 1, 1, 1, 1])) (L' := [(2, .pointer (some ⟨g1, 0, none⟩)), (3, .int .i64 a0), (37, .bool (a0 == 11))]) (w' := W2) (by kernel_rfl) ?_
                        rcases two ((a0 == 11)) with c26 | c26
                        · replace h := of_true h c26
                          refine RunF.know 37 (b := true) (by kernel_rfl) c26 ?_
                          refine RunF.go 4 [2, 39] (k' := (pin Go.Proofs.Tryd.f22 [1, 0, 1, 0, 1, 1, 1, 1, 1, 1, 1, 1, 1, 1, 1, 1, 1, 1, 1, 1, 1, 1, 1, 1, 1, 1, 1, 0, 0] 1)) (L' := [(2, .pointer (some ⟨g1, 0, none⟩)), (39, .agg (nums .i64 ([2, 3, 4, 7, 9, 12, 14] : List Int)).toArray)]) (w' := W2) (by kernel_rfl) ?_
                          refine RunF.doesU (stv_u (N := 7) (cells := (nums .i64 ([2, 3, 4, 7, 9, 12, 14] : List Int)).toArray) (old := (nums .i64 (List.replicate 7 (0 : Int))).toArray) (ty := 47) (k2 := (pin Go.Proofs.Tryd.f22 [1, 0, 1, 0, 1, 1, 1, 1, 1, 1, 1, 1, 1, 1, 1, 1, 1, 1, 1, 1, 1, 1, 1, 1, 1, 1, 1, 0, 0] 2)) (by kernel_rfl) (by rw [List.size_toArray]; simp only [nums_length, bools_length, strs_length]; exact rfl) (hM.block 0 rfl) (by rw [List.size_toArray]; simp only [nums_length, bools_length, strs_length]; exact List.length_replicate) (all_nums _ _)) ?_
                          replace hM : Mem w (W2.setRow g1 (nums .i64 ([2, 3, 4, 7, 9, 12, 14] : List Int)).toArray) [⟨.pointer (some ⟨g1, 0, none⟩), 47, 0, nums .i64 ([2, 3, 4, 7, 9, 12, 14] : List Int)⟩] := Mem.setAll [] [] (hM.pick [0] rfl rfl)
                          generalize W2.setRow g1 (nums .i64 ([2, 3, 4, 7, 9, 12, 14] : List Int)).toArray = W27 at hM ⊢
                          refine RunF.go 1 [2] (k' := (pl Go.Proofs.Tryd.f22 [1, 0, 1, 0, 1, 1, 1, 1, 1, 1, 1, 1, 1, 1, 1, 1, 1, 1, 1, 1, 1, 1, 1, 1, 1, 1, 1, 0, 1])) (L' := [(2, .pointer (some ⟨g1, 0, none⟩))]) (w' := W27) (by kernel_rfl) ?_
                          obtain rfl := Option.some.inj h
                          exact RunF.retc (t := 2) (ty := 47) (N := 7) (g := g1) (nums .i64 ([2, 3, 4, 7, 9, 12, 14] : List Int)) (fn := Go.Proofs.Tryd.f22) Go.Proofs.Tryd.func22 (by kernel_rfl) (by kernel_rfl) (by kernel_rfl) (by kernel_rfl) (by simp only [nums_length, bools_length, strs_length]; exact rfl) (hM.block 0 rfl) ⟨_, rfl, rfl, rfl, (hM.pick [] rfl rfl)⟩
                        · replace h := of_false h c26
                          refine RunF.know 37 (b := false) (by kernel_rfl) c26 ?_
                          refine RunF.go 6 [2, 3, 40] (k' := (pl Go.Proofs.Tryd.f22 [1, 0, 1, 0, 1, 1, 1, 1, 1, 1, 1, 1, 1, 1, 1, 1, 1, 1, 1, 1, 1, 1, 1, 1, 1, 1, 1, 1, 1])) (L' := [(2, .pointer (some ⟨g1, 0, none⟩)), (3, .int .i64 a0), (40, .bool (a0 == 12))]) (w' := W2) (by kernel_rfl) ?_
                          rcases two ((a0 == 12)) with c28 | c28
                          · replace h := of_true h c28
                            refine RunF.know 40 (b := true) (by kernel_rfl) c28 ?_
                            refine RunF.go 4 [2, 42] (k' := (pin Go.Proofs.Tryd.f22 [1, 0, 1, 0, 1, 1, 1, 1, 1, 1, 1, 1, 1, 1, 1, 1, 1, 1, 1, 1, 1, 1, 1, 1, 1, 1, 1, 1, 1, 0, 0] 1)) (L' := [(2, .pointer (some ⟨g1, 0, none⟩)), (42, .agg (nums .i64 ([1, 2, 6, 7, 9, 11, 12] : List Int)).toArray)]) (w' := W2) (by kernel_rfl) ?_
                            refine RunF.doesU (stv_u (N := 7) (cells := (nums .i64 ([1, 2, 6, 7, 9, 11, 12] : List Int)).toArray) (old := (nums .i64 (List.replicate 7 (0 : Int))).toArray) (ty := 47) (k2 := (pin Go.Proofs.Tryd.f22 [1, 0, 1, 0, 1, 1, 1, 1, 1, 1, 1, 1, 1, 1, 1, 1, 1, 1, 1, 1, 1, 1, 1, 1, 1, 1, 1, 1, 1, 0, 0] 2)) (by kernel_rfl) (by rw [List.size_toArray]; simp only [nums_length, bools_length, strs_length]; exact rfl) (hM.block 0 rfl) (by rw [List.size_toArray]; simp only [nums_length, bools_length, strs_length]; exact List.length_replicate) (all_nums _ _)) ?_
                            replace hM : Mem w (W2.setRow g1 (nums .i64 ([1, 2, 6, 7, 9, 11, 12] : List Int)).toArray) [⟨.pointer (some ⟨g1, 0, none⟩), 47, 0, nums .i64 ([1, 2, 6, 7, 9, 11, 12] : List Int)⟩] := Mem.setAll [] [] (hM.pick [0] rfl rfl)
                            generalize W2.setRow g1 (nums .i64 ([1, 2, 6, 7, 9, 11, 12] : List Int)).toArray = W29 at hM ⊢
                            refine RunF.go 1 [2] (k' := (pl Go.Proofs.Tryd.f22 [1, 0, 1, 0, 1, 1, 1, 1, 1, 1, 1, 1, 1, 1, 1, 1, 1, 1, 1, 1, 1, 1, 1, 1, 1, 1, 1, 1, 1, 0, 1])) (L' := [(2, .pointer (some ⟨g1, 0, none⟩))]) (w' := W29) (by kernel_rfl) ?_
                            obtain rfl := Option.some.inj h
                            exact RunF.retc (t := 2) (ty := 47) (N := 7) (g := g1) (nums .i64 ([1, 2, 6, 7, 9, 11, 12] : List Int)) (fn := Go.Proofs.Tryd.f22) Go.Proofs.Tryd.func22 (by kernel_rfl) (by kernel_rfl) (by kernel_rfl) (by kernel_rfl) (by simp only [nums_length, bools_length, strs_length]; exact rfl) (hM.block 0 rfl) ⟨_, rfl, rfl, rfl, (hM.pick [] rfl rfl)⟩
                          · replace h := of_false h c28
                            refine RunF.know 40 (b := false) (by kernel_rfl) c28 ?_
                            refine RunF.go 6 [2, 3, 43] (k' := (pl Go.Proofs.Tryd.f22 [1, 0, 1, 0, 1, 1, 1, 1, 1, 1, 1, 1, 1, 1, 1, 1, 1, 1, 1, 1, 1, 1, 1, 1, 1, 1, 1, 1, 1, 1, 1])) (L' := [(2, .pointer (some ⟨g1, 0, none⟩)), (3, .int .i64 a0), (43, .bool (a0 == 13))]) (w' := W2) (by kernel_rfl) ?_
                            rcases two ((a0 == 13)) with c30 | c30
                            · replace h := of_true h c30
                              refine RunF.know 43 (b := true) (by kernel_rfl) c30 ?_
                              refine RunF.go 4 [2, 45] (k' := (pin Go.Proofs.Tryd.f22 [1, 0, 1, 0, 1, 1, 1, 1, 1, 1, 1, 1, 1, 1, 1, 1, 1, 1, 1, 1, 1, 1, 1, 1, 1, 1, 1, 1, 1, 1, 1, 0, 0] 1)) (L' := [(2, .pointer (some ⟨g1, 0, none⟩)), (45, .agg (nums .i64 ([0, 3, 6, 7, 8, 10, 13] : List Int)).toArray)]) (w' := W2) (by kernel_rfl) ?_
                              refine RunF.doesU (stv_u (N := 7) (cells := (nums .i64 ([0, 3, 6, 7, 8, 10, 13] : List Int)).toArray) (old := (nums .i64 (List.replicate 7 (0 : Int))).toArray) (ty := 47) (k2 := (pin Go.Proofs.Tryd.f22 [1, 0, 1, 0, 1, 1, 1, 1, 1, 1, 1, 1, 1, 1, 1, 1, 1, 1, 1, 1, 1, 1, 1, 1, 1, 1, 1, 1, 1, 1, 1, 0, 0] 2)) (by kernel_rfl) (by rw [List.size_toArray]; simp only [nums_length, bools_length, strs_length]; exact rfl) (hM.block 0 rfl) (by rw [List.size_toArray]; simp only [nums_length, bools_length, strs_length]; exact List.length_replicate) (all_nums _ _)) ?_
                              replace hM : Mem w (W2.setRow g1 (nums .i64 ([0, 3, 6, 7, 8, 10, 13] : List Int)).toArray) [⟨.pointer (some ⟨g1, 0, none⟩), 47, 0, nums .i64 ([0, 3, 6, 7, 8, 10, 13] : List Int)⟩] := Mem.setAll [] [] (hM.pick [0] rfl rfl)
                              generalize W2.setRow g1 (nums .i64 ([0, 3, 6, 7, 8, 10, 13] : List Int)).toArray = W31 at hM ⊢
                              refine RunF.go 1 [2] (k' := (pl Go.Proofs.Tryd.f22 [1, 0, 1, 0, 1, 1, 1, 1, 1, 1, 1, 1, 1, 1, 1, 1, 1, 1, 1, 1, 1, 1, 1, 1, 1, 1, 1, 1, 1, 1, 1, 0, 1])) (L' := [(2, .pointer (some ⟨g1, 0, none⟩))]) (w' := W31) (by kernel_rfl) ?_
                              obtain rfl := Option.some.inj h
                              exact RunF.retc (t := 2) (ty := 47) (N := 7) (g := g1) (nums .i64 ([0, 3, 6, 7, 8, 10, 13] : List Int)) (fn := Go.Proofs.Tryd.f22) Go.Proofs.Tryd.func22 (by kernel_rfl) (by kernel_rfl) (by kernel_rfl) (by kernel_rfl) (by simp only [nums_length, bools_length, strs_length]; exact rfl) (hM.block 0 rfl) ⟨_, rfl, rfl, rfl, (hM.pick [] rfl rfl)⟩
                            · replace h := of_false h c30
                              refine RunF.know 43 (b := false) (by kernel_rfl) c30 ?_
                              refine RunF.go 6 [2, 46] (k' := (pl Go.Proofs.Tryd.f22 [1, 0, 1, 0, 1, 1, 1, 1, 1, 1, 1, 1, 1, 1, 1, 1, 1, 1, 1, 1, 1, 1, 1, 1, 1, 1, 1, 1, 1, 1, 1, 1, 1])) (L' := [(2, .pointer (some ⟨g1, 0, none⟩)), (46, .bool (a0 == 14))]) (w' := W2) (by kernel_rfl) ?_
                              rcases two ((a0 == 14)) with c32 | c32
                              · replace h := of_true h c32
                                refine RunF.know 46 (b := true) (by kernel_rfl) c32 ?_
                                refine RunF.go 4 [2, 48] (k' := (pin Go.Proofs.Tryd.f22 [1, 0, 1, 0, 1, 1, 1, 1, 1, 1, 1, 1, 1, 1, 1, 1, 1, 1, 1, 1, 1, 1, 1, 1, 1, 1, 1, 1, 1, 1, 1, 1, 1, 0, 0] 1)) (L' := [(2, .pointer (some ⟨g1, 0, none⟩)), (48, .agg (nums .i64 ([0, 3, 4, 5, 9, 11, 14] : List Int)).toArray)]) (w' := W2) (by kernel_rfl) ?_
                                refine RunF.doesU (stv_u (N := 7) (cells := (nums .i64 ([0, 3, 4, 5, 9, 11, 14] : List Int)).toArray) (old := (nums .i64 (List.replicate 7 (0 : Int))).toArray) (ty := 47) (k2 := (pin Go.Proofs.Tryd.f22 [1, 0, 1, 0, 1, 1, 1, 1, 1, 1, 1, 1, 1, 1, 1, 1, 1, 1, 1, 1, 1, 1, 1, 1, 1, 1, 1, 1, 1, 1, 1, 1, 1, 0, 0] 2)) (by kernel_rfl) (by rw [List.size_toArray]; simp only [nums_length, bools_length, strs_length]; exact rfl) (hM.block 0 rfl) (by rw [List.size_toArray]; simp only [nums_length, bools_length, strs_length]; exact List.length_replicate) (all_nums _ _)) ?_
                                replace hM : Mem w (W2.setRow g1 (nums .i64 ([0, 3, 4, 5, 9, 11, 14] : List Int)).toArray) [⟨.pointer (some ⟨g1, 0, none⟩), 47, 0, nums .i64 ([0, 3, 4, 5, 9, 11, 14] : List Int)⟩] := Mem.setAll [] [] (hM.pick [0] rfl rfl)
                                generalize W2.setRow g1 (nums .i64 ([0, 3, 4, 5, 9, 11, 14] : List Int)).toArray = W33 at hM ⊢
                                refine RunF.go 1 [2] (k' := (pl Go.Proofs.Tryd.f22 [1, 0, 1, 0, 1, 1, 1, 1, 1, 1, 1, 1, 1, 1, 1, 1, 1, 1, 1, 1, 1, 1, 1, 1, 1, 1, 1, 1, 1, 1, 1, 1, 1, 0, 1])) (L' := [(2, .pointer (some ⟨g1, 0, none⟩))]) (w' := W33) (by kernel_rfl) ?_
                                obtain rfl := Option.some.inj h
                                exact RunF.retc (t := 2) (ty := 47) (N := 7) (g := g1) (nums .i64 ([0, 3, 4, 5, 9, 11, 14] : List Int)) (fn := Go.Proofs.Tryd.f22) Go.Proofs.Tryd.func22 (by kernel_rfl) (by kernel_rfl) (by kernel_rfl) (by kernel_rfl) (by simp only [nums_length, bools_length, strs_length]; exact rfl) (hM.block 0 rfl) ⟨_, rfl, rfl, rfl, (hM.pick [] rfl rfl)⟩
                              · replace h := of_false h c32
                                refine RunF.know 46 (b := false) (by kernel_rfl) c32 ?_
                                refine RunF.go 6 [2, 49] (k' := (pin Go.Proofs.Tryd.f22 [1, 1, 0] 1)) (L' := [(2, .pointer (some ⟨g1, 0, none⟩)), (49, .agg (nums .i64 ([1, 2, 4, 5, 8, 10, 15] : List Int)).toArray)]) (w' := W2) (by kernel_rfl) ?_
                                refine RunF.doesU (stv_u (N := 7) (cells := (nums .i64 ([1, 2, 4, 5, 8, 10, 15] : List Int)).toArray) (old := (nums .i64 (List.replicate 7 (0 : Int))).toArray) (ty := 47) (k2 := (pin Go.Proofs.Tryd.f22 [1, 1, 0] 2)) (by kernel_rfl) (by rw [List.size_toArray]; simp only [nums_length, bools_length, strs_length]; exact rfl) (hM.block 0 rfl) (by rw [List.size_toArray]; simp only [nums_length, bools_length, strs_length]; exact List.length_replicate) (all_nums _ _)) ?_
                                replace hM : Mem w (W2.setRow g1 (nums .i64 ([1, 2, 4, 5, 8, 10, 15] : List Int)).toArray) [⟨.pointer (some ⟨g1, 0, none⟩), 47, 0, nums .i64 ([1, 2, 4, 5, 8, 10, 15] : List Int)⟩] := Mem.setAll [] [] (hM.pick [0] rfl rfl)
                                generalize W2.setRow g1 (nums .i64 ([1, 2, 4, 5, 8, 10, 15] : List Int)).toArray = W34 at hM ⊢
                                refine RunF.go 1 [2] (k' := (pl Go.Proofs.Tryd.f22 [1, 1, 1])) (L' := [(2, .pointer (some ⟨g1, 0, none⟩))]) (w' := W34) (by kernel_rfl) ?_
                                obtain rfl := Option.some.inj h
                                exact RunF.retc (t := 2) (ty := 47) (N := 7) (g := g1) (nums .i64 ([1, 2, 4, 5, 8, 10, 15] : List Int)) (fn := Go.Proofs.Tryd.f22) Go.Proofs.Tryd.func22 (by kernel_rfl) (by kernel_rfl) (by kernel_rfl) (by kernel_rfl) (by simp only [nums_length, bools_length, strs_length]; exact rfl) (hM.block 0 rfl) ⟨_, rfl, rfl, rfl, (hM.pick [] rfl rfl)⟩

/-! ### scrim/aria.Mix: function 11 -/
mutual
def aria_Mix.l0 : Nat → (List Int) → (List Int) → Int → Option (List Int × Bool)
  | 0, _, _, _ => none
  | k + 1, a0, x4_0, x14_0 => if (decide (x14_0 < 16)) = true then ((aria_sums.f k x14_0).bind fun t8 => (aria_Mix.l1 k a0 t8 x14_0 x4_0 0)) else (some (x4_0, true))
def aria_Mix.l1 : Nat → (List Int) → (List Int) → Int → (List Int) → Int → Option (List Int × Bool)
  | 0, _, _, _, _, _ => none
  | k + 1, a0, t8, x14_0, x4_1, x19_1 => if (decide (x19_1 < 7)) = true then (if (decide (0 ≤ x19_1)) = true then (if (decide (x19_1 < (7 : Int))) = true then (if (decide (0 ≤ x14_0)) = true then (if (decide (x14_0 < (16 : Int))) = true then (if (decide (0 ≤ (rd t8 x19_1))) = true then (if (decide ((rd t8 x19_1) < (a0.length : Int))) = true then (if (decide (0 ≤ x14_0)) = true then (if (decide (x14_0 < (16 : Int))) = true then (aria_Mix.l1 k a0 t8 x14_0 (x4_1.set (x14_0 : Int).toNat (bxor .u8 (rd x4_1 x14_0) (rd a0 (rd t8 x19_1)))) (I64 (x19_1 + 1))) else (none)) else (none)) else (none)) else (none)) else (none)) else (none)) else (none)) else (none)) else (aria_Mix.l0 k a0 x4_1 (I64 (x14_0 + 1)))
end
def aria_Mix.f (k : Nat) (a0 : List Int) : Option (List Int × Bool) := if ((a0.length : Int) != 16) = true then (some (([] : List Int), false)) else (aria_Mix.l0 k a0 (List.replicate 16 (0 : Int)) 0)
set_option maxRecDepth 100000 in
theorem aria_Mix.calls (k : Nat) (Ap0 : Option Addr) (np0 cp0 : Nat) (a0 : List Int) (r : List Int × Bool) (w : World) (hr0 : Rd w (.slice Ap0 np0 cp0) (nums .u8 a0)) (h : aria_Mix.f k a0 = some r) :
    Calls Go.Proofs.Tryd.prog 11 #[(.slice Ap0 np0 cp0)] w (Ret fun v w' => ∃ A0' n0' c0', v = .tuple #[.slice A0' n0' c0', .bool r.2] ∧ Mem w w' [⟨.slice A0' n0' c0', 5, 1, nums .u8 r.1⟩]) := by
  obtain rfl : a0.length = np0 := by have h_ := hr0.1; simpa [nums_length, bools_length, strs_length] using h_
  unfold aria_Mix.f at h
  refine calls_of [.slice Ap0 a0.length cp0] (fn := Go.Proofs.Tryd.f11) Go.Proofs.Tryd.func11 (by kernel_rfl) (by kernel_rfl) ?_
  have hM := Mem.refl w
  refine RunF.go 12 [0, 10] (k' := (pl Go.Proofs.Tryd.f11 [1, 0, 1])) (L' := [(0, .slice Ap0 a0.length cp0), (10, .bool ((a0.length : Int) != 16))]) (w' := w) (by kernel_rfl) ?_
  rcases two (((a0.length : Int) != 16)) with c1 | c1
  · replace h := of_true h c1
    refine RunF.know 10 (b := true) (by kernel_rfl) c1 ?_
    refine RunF.go 6 [2, 3] (k' := (pl Go.Proofs.Tryd.f11 [1, 0, 1, 0, 1])) (L' := [(2, .slice none 0 0), (3, .bool false)]) (w' := w) (by kernel_rfl) ?_
    replace hM := hM.nil 5
    obtain rfl := Option.some.inj h
    exact RunF.ret2 2 3 (.slice none 0 0) (.bool false) (fn := Go.Proofs.Tryd.f11) Go.Proofs.Tryd.func11 (by kernel_rfl) (by kernel_rfl) (by kernel_rfl) (by kernel_rfl) ⟨_, rfl, none, 0, 0, rfl, (hM.pick [0] rfl rfl)⟩
  · replace h := of_false h c1
    refine RunF.know 10 (b := false) (by kernel_rfl) c1 ?_
    refine RunF.go 4 [0] (k' := (pin Go.Proofs.Tryd.f11 [1, 1, 0] 0)) (L' := [(0, .slice Ap0 a0.length cp0)]) (w' := w) (by kernel_rfl) ?_
    obtain ⟨W3, hD, hM', hB_⟩ := mk_does (P := Go.Proofs.Tryd.prog) (n := 35) (k := (pin Go.Proofs.Tryd.f11 [1, 1, 0] 0)) (L := [(0, .slice Ap0 a0.length cp0)]) (d := some 11) (e := 5) (z := .int .u8 0) (l := 16) (c := 16) (k2 := (pin Go.Proofs.Tryd.f11 [1, 1, 0] 1)) (by kernel_rfl) (by omega) (by omega) (by omega) hM
    rw [rep_nums] at hM'
    refine RunF.does hD ?_
    replace hM := hM'; clear hD hM'
    generalize w.heap.size = g4 at hM ⊢
    refine RunF.go 11 [0, 4, 13, 14] (k' := (pl Go.Proofs.Tryd.f11 [1, 1, 1, 0, 1, 0, 0])) (L' := [(0, .slice Ap0 a0.length cp0), (4, .slice (some ⟨g4, 0, none⟩) 16 16), (13, .int .i64 16), (14, .int .i64 0)]) (w' := W3) (by kernel_rfl) ?_
    have l0 : ∀ (k_ : Nat), k_ ≤ k → ∀ (x4_0 : List Int) (x14_0 : Int) (W : World) (hM : Mem w W [⟨.slice (some ⟨g4, 0, none⟩) 16 16, 5, 1, nums .u8 x4_0⟩]) (h : aria_Mix.l0 k_ a0 x4_0 x14_0 = some r), RunF Go.Proofs.Tryd.prog (Ret fun v w' => ∃ A0' n0' c0', v = .tuple #[.slice A0' n0' c0', .bool r.2] ∧ Mem w w' [⟨.slice A0' n0' c0', 5, 1, nums .u8 r.1⟩]) 11 (pl Go.Proofs.Tryd.f11 [1, 1, 1, 0, 1, 0, 0]) 35 [(0, .slice Ap0 a0.length cp0), (4, .slice (some ⟨g4, 0, none⟩) 16 16), (13, .int .i64 16), (14, .int .i64 x14_0)] W := by
      intro k_
      induction k_ using Nat.strongRecOn with
      | _ k_ ih0 =>
        intro hk x4_0 x14_0 W hM h
        cases k_ with
        | zero => exact absurd h (by simp [aria_Mix.l0])
        | succ k =>
          simp only [aria_Mix.l0] at h
          replace ih0 : ∀ m, m ≤ k → _ := fun m hm => ih0 m (by omega) (by omega)
          refine RunF.go 5 [0, 4, 13, 14, 15] (k' := (pl Go.Proofs.Tryd.f11 [1, 1, 1, 0, 1, 0, 0, 1, 0])) (L' := [(0, .slice Ap0 a0.length cp0), (4, .slice (some ⟨g4, 0, none⟩) 16 16), (13, .int .i64 16), (14, .int .i64 x14_0), (15, .bool (decide (x14_0 < 16)))]) (w' := W) (by kernel_rfl) ?_
          rcases two (decide (x14_0 < 16)) with c6 | c6
          · replace h := of_true h c6
            refine RunF.know 15 (b := true) (by kernel_rfl) c6 ?_
            refine RunF.go 12 [0, 4, 5, 13, 14, 17] (k' := (pin Go.Proofs.Tryd.f11 [1, 1, 1, 0, 1, 0, 0, 1, 1, 0, 0, 1, 0] 1)) (L' := [(0, .slice Ap0 a0.length cp0), (4, .slice (some ⟨g4, 0, none⟩) 16 16), (5, .int .i64 x14_0), (13, .int .i64 16), (14, .int .i64 x14_0), (17, .int .i64 x14_0)]) (w' := W) (by kernel_rfl) ?_
            obtain ⟨t8, ht8, h⟩ := Option.bind_eq_some_iff.mp h
            refine RunF.call (d := some 18) (g := 22) (args := #[.int .i64 x14_0]) (k2 := (pin Go.Proofs.Tryd.f11 [1, 1, 1, 0, 1, 0, 0, 1, 1, 0, 0, 1, 0] 2)) (by kernel_rfl) (aria_sums.calls k x14_0 t8 _ ht8) ?_
            rintro _ W7 ⟨rfl, hNt8_0, hM_⟩
            replace hM := hM.call hM_
            clear hM_ ht8
            refine RunF.go 4 [0, 4, 5, 13, 14, 18, 19] (k' := (pl Go.Proofs.Tryd.f11 [1, 1, 1, 0, 1, 0, 0, 1, 1, 0, 0, 1, 1, 0, 0])) (L' := [(0, .slice Ap0 a0.length cp0), (4, .slice (some ⟨g4, 0, none⟩) 16 16), (5, .int .i64 x14_0), (13, .int .i64 16), (14, .int .i64 x14_0), (18, .agg (nums .i64 t8).toArray), (19, .int .i64 0)]) (w' := W7) (by kernel_rfl) ?_
            have l1 : ∀ (k_ : Nat), k_ ≤ k → ∀ (x4_1 : List Int) (x19_1 : Int) (W : World) (hM : Mem w W [⟨.slice (some ⟨g4, 0, none⟩) 16 16, 5, 1, nums .u8 x4_1⟩]) (h : aria_Mix.l1 k_ a0 t8 x14_0 x4_1 x19_1 = some r), RunF Go.Proofs.Tryd.prog (Ret fun v w' => ∃ A0' n0' c0', v = .tuple #[.slice A0' n0' c0', .bool r.2] ∧ Mem w w' [⟨.slice A0' n0' c0', 5, 1, nums .u8 r.1⟩]) 11 (pl Go.Proofs.Tryd.f11 [1, 1, 1, 0, 1, 0, 0, 1, 1, 0, 0, 1, 1, 0, 0]) 35 [(0, .slice Ap0 a0.length cp0), (4, .slice (some ⟨g4, 0, none⟩) 16 16), (5, .int .i64 x14_0), (13, .int .i64 16), (14, .int .i64 x14_0), (18, .agg (nums .i64 t8).toArray), (19, .int .i64 x19_1)] W := by
              intro k_
              induction k_ using Nat.strongRecOn with
              | _ k_ ih1 =>
                intro hk x4_1 x19_1 W hM h
                cases k_ with
                | zero => exact absurd h (by simp [aria_Mix.l1])
                | succ k =>
                  simp only [aria_Mix.l1] at h
                  replace ih1 : ∀ m, m ≤ k → _ := fun m hm => ih1 m (by omega) (by omega)
                  replace ih0 : ∀ m, m ≤ k → _ := fun m hm => ih0 m (by omega)
                  refine RunF.go 5 [0, 4, 5, 13, 14, 18, 19, 20] (k' := (pl Go.Proofs.Tryd.f11 [1, 1, 1, 0, 1, 0, 0, 1, 1, 0, 0, 1, 1, 0, 0, 1, 0])) (L' := [(0, .slice Ap0 a0.length cp0), (4, .slice (some ⟨g4, 0, none⟩) 16 16), (5, .int .i64 x14_0), (13, .int .i64 16), (14, .int .i64 x14_0), (18, .agg (nums .i64 t8).toArray), (19, .int .i64 x19_1), (20, .bool (decide (x19_1 < 7)))]) (w' := W) (by kernel_rfl) ?_
                  rcases two (decide (x19_1 < 7)) with c9 | c9
                  · replace h := of_true h c9
                    refine RunF.know 20 (b := true) (by kernel_rfl) c9 ?_
                    refine RunF.go 6 [0, 4, 5, 13, 14, 18, 19] (k' := (pin Go.Proofs.Tryd.f11 [1, 1, 1, 0, 1, 0, 0, 1, 1, 0, 0, 1, 1, 0, 0, 1, 1, 0, 0, 0] 0)) (L' := [(0, .slice Ap0 a0.length cp0), (4, .slice (some ⟨g4, 0, none⟩) 16 16), (5, .int .i64 x14_0), (13, .int .i64 16), (14, .int .i64 x14_0), (18, .agg (nums .i64 t8).toArray), (19, .int .i64 x19_1)]) (w' := W) (by kernel_rfl) ?_
                    rcases two (decide (0 ≤ x19_1)) with c10 | c10
                    · replace h := of_true h c10
                      rcases two (decide (x19_1 < (7 : Int))) with c11 | c11
                      · replace h := of_true h c11
                        refine RunF.y (idxVal_y (d := some 21) (cs := (nums .i64 t8).toArray) (len := 7) (i := x19_1) (u := .int .i64 (rd t8 x19_1)) (k2 := (pin Go.Proofs.Tryd.f11 [1, 1, 1, 0, 1, 0, 0, 1, 1, 0, 0, 1, 1, 0, 0, 1, 1, 0, 0, 0] 1)) (by kernel_rfl) (of_decide_eq_true c10) (of_decide_eq_true c11) (by rw [List.getElem?_toArray]; exact nums_at (of_decide_eq_true c10) (by rw [show t8.length = 7 from hNt8_0]; exact (of_decide_eq_true c11)))) trivial ?_
                        refine RunF.go 2 [0, 4, 5, 7, 13, 14, 18, 19] (k' := (pl Go.Proofs.Tryd.f11 [1, 1, 1, 0, 1, 0, 0, 1, 1, 0, 0, 1, 1, 0, 0, 1, 1, 0, 0, 1])) (L' := [(0, .slice Ap0 a0.length cp0), (4, .slice (some ⟨g4, 0, none⟩) 16 16), (5, .int .i64 x14_0), (7, .int .i64 (rd t8 x19_1)), (13, .int .i64 16), (14, .int .i64 x14_0), (18, .agg (nums .i64 t8).toArray), (19, .int .i64 x19_1)]) (w' := W) (by kernel_rfl) ?_
                        refine RunF.draw (Still ({ W with drawn := W.drawn + 1 } : World) [.slice (some ⟨g4, 0, none⟩) 16 16]) (by kernel_rfl) (by kernel_rfl) ?_
                        have hMd13 := hM.drew
                        have hS := Still.refl ({ W with drawn := W.drawn + 1 } : World) [.slice (some ⟨g4, 0, none⟩) 16 16]
                        generalize ({ W with drawn := W.drawn + 1 } : World) = W12 at hMd13 hS ⊢
                        replace hM := hMd13
                        refine RunAny.y 0 (by kernel_rfl) (yl_pure (d := some 22) (v := .slice (some ⟨g4, 0, none⟩) 16 16) (k2 := [.inRegion (opsOf (pl Go.Proofs.Tryd.f11 [1, 1, 1, 0, 1, 0, 0, 1, 1, 0, 0, 1, 1, 0, 0, 1, 1, 0, 0, 1])) []]) fun w => by kernel_rfl) (fun _ _ => trivial) hS ?_
                        refine RunAny.y 1 (by kernel_rfl) (yl_pure (d := some 23) (v := .int .i64 x14_0) (k2 := [.inRegion (opsOf (pl Go.Proofs.Tryd.f11 [1, 1, 1, 0, 1, 0, 0, 1, 1, 0, 0, 1, 1, 0, 0, 1, 1, 0, 0, 1])) []]) fun w => by kernel_rfl) (fun _ _ => trivial) hS ?_
                        rcases two (decide (0 ≤ x14_0)) with c15 | c15
                        · replace h := of_true h c15
                          rcases two (decide (x14_0 < (16 : Int))) with c16 | c16
                          · replace h := of_true h c16
                            obtain ⟨q14, hAq14, hcq14, hfq14, hlq14⟩ := hM.num_at 0 rfl (i := x14_0) (of_decide_eq_true c15) (by have h_ := of_decide_eq_true c16; omega)
                            refine RunAny.y 2 (by kernel_rfl) (idx_own (d := some 24) (A := (some ⟨g4, 0, none⟩)) (m := 16) (i := x14_0) (k2 := [.inRegion (opsOf (pl Go.Proofs.Tryd.f11 [1, 1, 1, 0, 1, 0, 0, 1, 1, 0, 0, 1, 1, 0, 0, 1, 1, 0, 0, 1])) []]) (by kernel_rfl) (of_decide_eq_true c15) (by have h_ := of_decide_eq_true c16; omega) hAq14) (fun _ _ => trivial) hS ?_
                            refine RunAny.y 4 (by kernel_rfl) (yl_pure (d := some 26) (v := .slice Ap0 a0.length cp0) (k2 := [.inRegion (opsOf (pl Go.Proofs.Tryd.f11 [1, 1, 1, 0, 1, 0, 0, 1, 1, 0, 0, 1, 1, 0, 0, 1, 1, 0, 0, 1])) []]) fun w => by kernel_rfl) (fun _ _ => trivial) hS ?_
                            refine RunAny.y 5 (by kernel_rfl) (yl_pure (d := some 27) (v := .int .i64 (rd t8 x19_1)) (k2 := [.inRegion (opsOf (pl Go.Proofs.Tryd.f11 [1, 1, 1, 0, 1, 0, 0, 1, 1, 0, 0, 1, 1, 0, 0, 1, 1, 0, 0, 1])) []]) fun w => by kernel_rfl) (fun _ _ => trivial) hS ?_
                            rcases two (decide (0 ≤ (rd t8 x19_1))) with c18 | c18
                            · replace h := of_true h c18
                              rcases two (decide ((rd t8 x19_1) < (a0.length : Int))) with c19 | c19
                              · replace h := of_true h c19
                                obtain ⟨q17, hAq17, hiq17⟩ := Rd.num hr0 (i := rd t8 x19_1) (of_decide_eq_true c18) (by have h_ := of_decide_eq_true c19; omega)
                                have hcq17 := (hM.below.cell (World.block_lt_of_cell? _ _ hiq17)).trans hiq17
                                refine RunAny.y 6 (by kernel_rfl) (idx_y (d := some 28) (A := Ap0) (m := a0.length) (i := rd t8 x19_1) (k2 := [.inRegion (opsOf (pl Go.Proofs.Tryd.f11 [1, 1, 1, 0, 1, 0, 0, 1, 1, 0, 0, 1, 1, 0, 0, 1, 1, 0, 0, 1])) []]) (by kernel_rfl) (of_decide_eq_true c18) (by have h_ := of_decide_eq_true c19; omega) hAq17) (fun _ _ => trivial) hS ?_
                                refine RunAny.y 7 (by kernel_rfl) (ld_y (d := some 29) (p := (q17.add (rd t8 x19_1 : Int).toNat)) (k2 := [.inRegion (opsOf (pl Go.Proofs.Tryd.f11 [1, 1, 1, 0, 1, 0, 0, 1, 1, 0, 0, 1, 1, 0, 0, 1, 1, 0, 0, 1])) []]) (.int .u8 (rd a0 (rd t8 x19_1))) (by kernel_rfl)) (fun _ hs => hs.cell hcq17 (by intro v hv; simp only [List.mem_cons, List.not_mem_nil, or_false] at hv; rcases hv with rfl; exact (hM.far hiq17 0 rfl))) hS ?_
                                refine RunAny.does 3 (by kernel_rfl) ((ld_y (d := some 25) (p := ⟨q14, (x14_0 : Int).toNat, none⟩) (k2 := [.inRegion (opsOf (pl Go.Proofs.Tryd.f11 [1, 1, 1, 0, 1, 0, 0, 1, 1, 0, 0, 1, 1, 0, 0, 1, 1, 0, 0, 1])) []]) (.int .u8 (rd x4_1 x14_0)) (by kernel_rfl)).does hcq14) hS ?_
                                refine RunAny.y 8 (by kernel_rfl) (yl_pure (d := some 30) (v := .int .u8 (bxor .u8 (rd x4_1 x14_0) (rd a0 (rd t8 x19_1)))) (k2 := [.inRegion (opsOf (pl Go.Proofs.Tryd.f11 [1, 1, 1, 0, 1, 0, 0, 1, 1, 0, 0, 1, 1, 0, 0, 1, 1, 0, 0, 1])) []]) fun w => by kernel_rfl) (fun _ _ => trivial) hS ?_
                                rcases two (decide (0 ≤ x14_0)) with c21 | c21
                                · replace h := of_true h c21
                                  rcases two (decide (x14_0 < (16 : Int))) with c22 | c22
                                  · replace h := of_true h c22
                                    obtain ⟨q20, hAq20, hcq20, hfq20, hlq20⟩ := hM.num_at 0 rfl (i := x14_0) (of_decide_eq_true c21) (by have h_ := of_decide_eq_true c22; omega)
                                    refine RunAny.y 9 (by kernel_rfl) (idx_own (d := some 31) (A := (some ⟨g4, 0, none⟩)) (m := 16) (i := x14_0) (k2 := [.inRegion (opsOf (pl Go.Proofs.Tryd.f11 [1, 1, 1, 0, 1, 0, 0, 1, 1, 0, 0, 1, 1, 0, 0, 1, 1, 0, 0, 1])) []]) (by kernel_rfl) (of_decide_eq_true c21) (by have h_ := of_decide_eq_true c22; omega) hAq20) (fun _ _ => trivial) hS ?_
                                    obtain ⟨g_, hA_, hc_, hf_, hl_⟩ := hM.num_at 0 rfl (i := x14_0) (of_decide_eq_true c21) (by have h_ := of_decide_eq_true c22; omega)
                                    obtain rfl : q20 = g_ := by rw [hAq20] at hA_; injection hA_ with hA_; injection hA_
                                    have hS' := hS.set (v := .slice (some ⟨g4, 0, none⟩) 16 16) (g := q20) (i := (x14_0 : Int).toNat) (by simp) (by rw [hAq20]; rfl) (.int .u8 (bxor .u8 (rd x4_1 x14_0) (rd a0 (rd t8 x19_1))))
                                    refine RunAny.doesU 10 (by kernel_rfl) (st_u (p := (⟨q20, (x14_0 : Int).toNat, none⟩ : Addr)) (v := .int .u8 (bxor .u8 (rd x4_1 x14_0) (rd a0 (rd t8 x19_1)))) (k2 := [.inRegion (opsOf (pl Go.Proofs.Tryd.f11 [1, 1, 1, 0, 1, 0, 0, 1, 1, 0, 0, 1, 1, 0, 0, 1, 1, 0, 0, 1])) []]) (by kernel_rfl) hc_ hf_) hS' ?_
                                    replace hM : Mem w (W12.setCell (⟨q20, (x14_0 : Int).toNat, none⟩ : Addr) (.int .u8 (bxor .u8 (rd x4_1 x14_0) (rd a0 (rd t8 x19_1))))) [⟨.slice (some ⟨g4, 0, none⟩) 16 16, 5, 1, nums .u8 (x4_1.set (x14_0 : Int).toNat (bxor .u8 (rd x4_1 x14_0) (rd a0 (rd t8 x19_1))))⟩] := Mem.put_num [] [] (hM.pick [0] rfl rfl) hAq20 _ hl_ _
                                    generalize W12.setCell (⟨q20, (x14_0 : Int).toNat, none⟩ : Addr) (.int .u8 (bxor .u8 (rd x4_1 x14_0) (rd a0 (rd t8 x19_1)))) = W23 at hM hS' ⊢
                                    clear hc_ hf_ hl_ hA_ hcq20
                                    replace hS := hS'
                                    refine RunAny.rebase hS ?_
                                    replace hS := Still.refl W23 [.slice (some ⟨g4, 0, none⟩) 16 16]
                                    refine RunAny.done (by kernel_rfl) ?_
                                    clear hS
                                    refine RunF.go 6 [0, 4, 5, 13, 14, 18, 19] (k' := (pl Go.Proofs.Tryd.f11 [1, 1, 1, 0, 1, 0, 0, 1, 1, 0, 0, 1, 1, 0, 0])) (L' := [(0, .slice Ap0 a0.length cp0), (4, .slice (some ⟨g4, 0, none⟩) 16 16), (5, .int .i64 x14_0), (13, .int .i64 16), (14, .int .i64 x14_0), (18, .agg (nums .i64 t8).toArray), (19, .int .i64 (I64 (x19_1 + 1)))]) (w' := W23) (by kernel_rfl) ?_
                                    exact ih1 k (by omega) (x4_1.set (x14_0 : Int).toNat (bxor .u8 (rd x4_1 x14_0) (rd a0 (rd t8 x19_1)))) (I64 (x19_1 + 1)) _ (hM.pick [0] rfl rfl) h
                                  · replace h := of_false h c22
                                    cases h
                                · replace h := of_false h c21
                                  cases h
                              · replace h := of_false h c19
                                cases h
                            · replace h := of_false h c18
                              cases h
                          · replace h := of_false h c16
                            cases h
                        · replace h := of_false h c15
                          cases h
                      · replace h := of_false h c11
                        cases h
                    · replace h := of_false h c10
                      cases h
                  · replace h := of_false h c9
                    refine RunF.know 20 (b := false) (by kernel_rfl) c9 ?_
                    refine RunF.go 8 [0, 4, 13, 14] (k' := (pl Go.Proofs.Tryd.f11 [1, 1, 1, 0, 1, 0, 0])) (L' := [(0, .slice Ap0 a0.length cp0), (4, .slice (some ⟨g4, 0, none⟩) 16 16), (13, .int .i64 16), (14, .int .i64 (I64 (x14_0 + 1)))]) (w' := W) (by kernel_rfl) ?_
                    exact ih0 k (by omega) x4_1 (I64 (x14_0 + 1)) _ (hM.pick [0] rfl rfl) h
            exact l1 k (Nat.le_refl _) x4_0 0 _ (hM.pick [0] rfl rfl) h
          · replace h := of_false h c6
            refine RunF.know 15 (b := false) (by kernel_rfl) c6 ?_
            refine RunF.go 8 [2, 3] (k' := (pl Go.Proofs.Tryd.f11 [1, 1, 1, 1, 1])) (L' := [(2, .slice (some ⟨g4, 0, none⟩) 16 16), (3, .bool true)]) (w' := W) (by kernel_rfl) ?_
            obtain rfl := Option.some.inj h
            exact RunF.ret2 2 3 (.slice (some ⟨g4, 0, none⟩) 16 16) (.bool true) (fn := Go.Proofs.Tryd.f11) Go.Proofs.Tryd.func11 (by kernel_rfl) (by kernel_rfl) (by kernel_rfl) (by kernel_rfl) ⟨_, rfl, (some ⟨g4, 0, none⟩), 16, 16, rfl, (hM.pick [0] rfl rfl)⟩
    exact l0 k (Nat.le_refl _) (List.replicate 16 (0 : Int)) 0 _ (hM.pick [0] rfl rfl) h

/-! ### (scrim/aria.boxes).layer: function 29 -/
def aria_boxes_layer.l0 : Nat → (List (List Int)) → Int → (List Int) → (List Int) → Int → Option (List Int)
  | 0, _, _, _, _, _ => none
  | k + 1, a0, a1, a2, x7_0, x15_0 => if (decide (x15_0 < (a2.length : Int))) = true then (if (decide (0 ≤ x15_0)) = true then (if (decide (x15_0 < (a2.length : Int))) = true then ((some (Int.tmod (I64 (x15_0 + (I64 (2 * (I64 (a1 - 1)))))) 4 : Int)).bind fun y13 => (if (decide (0 ≤ y13)) = true then (if (decide (y13 < (4 : Int))) = true then (if (decide (0 ≤ (rd a2 x15_0))) = true then (if (decide ((rd a2 x15_0) < ((rdr ([] : List Int) a0 y13).length : Int))) = true then ((some (rd (rdr ([] : List Int) a0 y13) (rd a2 x15_0) : Int)).bind fun y20 => (if (decide (0 ≤ x15_0)) = true then (if (decide (x15_0 < (((a2.length : Int)).toNat : Int))) = true then (aria_boxes_layer.l0 k a0 a1 a2 (x7_0.set (x15_0 : Int).toNat y20) (I64 (x15_0 + 1))) else (none)) else (none))) else (none)) else (none)) else (none)) else (none))) else (none)) else (none)) else (some x7_0)
def aria_boxes_layer.f (k : Nat) (a0 : List (List Int)) (a1 : Int) (a2 : List Int) : Option (List Int) := if (decide (0 ≤ (a2.length : Int))) = true then (if (decide ((a2.length : Int) ≤ 1000000000)) = true then (aria_boxes_layer.l0 k a0 a1 a2 (List.replicate (((a2.length : Int)).toNat) (0 : Int)) 0) else (none)) else (none)
set_option maxRecDepth 100000 in
theorem aria_boxes_layer.calls (k : Nat) (vp0 : Value) (Zp0 : Zp) (a0 : List (List Int)) (a1 : Int) (Ap2 : Option Addr) (np2 cp2 : Nat) (a2 : List Int) (r : List Int) (w : World) (hr2 : Rd w (.slice Ap2 np2 cp2) (nums .u8 a2)) (hp0 : (rArr 4 (rNums .u8)) Zp0 vp0 a0) (hZp0 : ∀ W, Kept w W → Zp0 W) (h : aria_boxes_layer.f k a0 a1 a2 = some r) :
    Calls Go.Proofs.Tryd.prog 29 #[vp0, .int .i64 a1, (.slice Ap2 np2 cp2)] w (Ret fun v w' => ∃ A0' n0' c0', v = .slice A0' n0' c0' ∧ Mem w w' [⟨.slice A0' n0' c0', 5, 1, nums .u8 r⟩]) := by
  obtain rfl : a2.length = np2 := by have h_ := hr2.1; simpa [nums_length, bools_length, strs_length] using h_
  obtain ⟨cs0, rfl, hl0, hq0⟩ := hp0
  unfold aria_boxes_layer.f at h
  refine calls_of [.agg (cs0).toArray, .int .i64 a1, .slice Ap2 a2.length cp2] (fn := Go.Proofs.Tryd.f29) Go.Proofs.Tryd.func29 (by kernel_rfl) (by kernel_rfl) ?_
  have hM := Mem.refl w
  refine RunF.go 2 [0, 1, 2] (k' := (pin Go.Proofs.Tryd.f29 [0] 0)) (L' := [(0, .agg (cs0).toArray), (1, .int .i64 a1), (2, .slice Ap2 a2.length cp2)]) (w' := w) (by kernel_rfl) ?_
  refine RunF.newVar 51 (cs0) (d := some 3) (k2 := (pin Go.Proofs.Tryd.f29 [0] 1)) hM (by kernel_rfl) ?_
  intro g1 W2 hM
  refine RunF.go 6 [1, 2, 3, 11] (k' := (pin Go.Proofs.Tryd.f29 [1, 0] 2)) (L' := [(1, .int .i64 a1), (2, .slice Ap2 a2.length cp2), (3, .pointer (some ⟨g1, 0, none⟩)), (11, .int .i64 (a2.length : Int))]) (w' := W2) (by kernel_rfl) ?_
  rcases two (decide (0 ≤ (a2.length : Int))) with c6 | c6
  · replace h := of_true h c6
    rcases two (decide ((a2.length : Int) ≤ 1000000000)) with c7 | c7
    · replace h := of_true h c7
      have := of_decide_eq_true c6
      have := of_decide_eq_true c7
      obtain ⟨W4, hD, hM', hB_⟩ := mk_does (P := Go.Proofs.Tryd.prog) (n := 36) (k := (pin Go.Proofs.Tryd.f29 [1, 0] 2)) (L := [(1, .int .i64 a1), (2, .slice Ap2 a2.length cp2), (3, .pointer (some ⟨g1, 0, none⟩)), (11, .int .i64 (a2.length : Int))]) (d := some 12) (e := 5) (z := .int .u8 0) (l := (a2.length : Int)) (c := (a2.length : Int)) (k2 := (pin Go.Proofs.Tryd.f29 [1, 0] 3)) (by kernel_rfl) (by omega) (by omega) (by omega) hM
      rw [rep_nums] at hM'
      refine RunF.does hD ?_
      replace hM := hM'; clear hD hM'
      generalize W2.heap.size = g5 at hM ⊢
      refine RunF.go 11 [1, 3, 7, 13, 14, 15] (k' := (pl Go.Proofs.Tryd.f29 [1, 1, 0, 1, 0, 0])) (L' := [(1, .int .i64 a1), (3, .pointer (some ⟨g1, 0, none⟩)), (7, .slice (some ⟨g5, 0, none⟩) (((a2.length : Int)).toNat) (((a2.length : Int) : Int).toNat)), (13, .slice Ap2 a2.length cp2), (14, .int .i64 (a2.length : Int)), (15, .int .i64 0)]) (w' := W4) (by kernel_rfl) ?_
      have l0 : ∀ (k_ : Nat), k_ ≤ k → ∀ (x7_0 : List Int) (x15_0 : Int) (W : World) (hM : Mem w W [⟨.pointer (some ⟨g1, 0, none⟩), 51, 0, cs0⟩, ⟨.slice (some ⟨g5, 0, none⟩) (((a2.length : Int)).toNat) (((a2.length : Int) : Int).toNat), 5, 1, nums .u8 x7_0⟩]) (h : aria_boxes_layer.l0 k_ a0 a1 a2 x7_0 x15_0 = some r), RunF Go.Proofs.Tryd.prog (Ret fun v w' => ∃ A0' n0' c0', v = .slice A0' n0' c0' ∧ Mem w w' [⟨.slice A0' n0' c0', 5, 1, nums .u8 r⟩]) 29 (pl Go.Proofs.Tryd.f29 [1, 1, 0, 1, 0, 0]) 36 [(1, .int .i64 a1), (3, .pointer (some ⟨g1, 0, none⟩)), (7, .slice (some ⟨g5, 0, none⟩) (((a2.length : Int)).toNat) (((a2.length : Int) : Int).toNat)), (13, .slice Ap2 a2.length cp2), (14, .int .i64 (a2.length : Int)), (15, .int .i64 x15_0)] W := by
        intro k_
        induction k_ using Nat.strongRecOn with
        | _ k_ ih0 =>
          intro hk x7_0 x15_0 W hM h
          cases k_ with
          | zero => exact absurd h (by simp [aria_boxes_layer.l0])
          | succ k =>
            simp only [aria_boxes_layer.l0] at h
            replace ih0 : ∀ m, m ≤ k → _ := fun m hm => ih0 m (by omega) (by omega)
            refine RunF.go 5 [1, 3, 7, 13, 14, 15, 16] (k' := (pl Go.Proofs.Tryd.f29 [1, 1, 0, 1, 0, 0, 1, 0])) (L' := [(1, .int .i64 a1), (3, .pointer (some ⟨g1, 0, none⟩)), (7, .slice (some ⟨g5, 0, none⟩) (((a2.length : Int)).toNat) (((a2.length : Int) : Int).toNat)), (13, .slice Ap2 a2.length cp2), (14, .int .i64 (a2.length : Int)), (15, .int .i64 x15_0), (16, .bool (decide (x15_0 < (a2.length : Int))))]) (w' := W) (by kernel_rfl) ?_
            rcases two (decide (x15_0 < (a2.length : Int))) with c9 | c9
            · replace h := of_true h c9
              refine RunF.know 16 (b := true) (by kernel_rfl) c9 ?_
              refine RunF.go 7 [1, 3, 7, 13, 14, 15, 17] (k' := (pin Go.Proofs.Tryd.f29 [1, 1, 0, 1, 0, 0, 1, 1, 0, 0, 0] 1)) (L' := [(1, .int .i64 a1), (3, .pointer (some ⟨g1, 0, none⟩)), (7, .slice (some ⟨g5, 0, none⟩) (((a2.length : Int)).toNat) (((a2.length : Int) : Int).toNat)), (13, .slice Ap2 a2.length cp2), (14, .int .i64 (a2.length : Int)), (15, .int .i64 x15_0), (17, .int .i64 x15_0)]) (w' := W) (by kernel_rfl) ?_
              rcases two (decide (0 ≤ x15_0)) with c11 | c11
              · replace h := of_true h c11
                rcases two (decide (x15_0 < (a2.length : Int))) with c12 | c12
                · replace h := of_true h c12
                  obtain ⟨q10, hAq10, hcq10⟩ := Rd.num (hr2.mono hM.below) (i := x15_0) (of_decide_eq_true c11) (by have h_ := of_decide_eq_true c12; omega)
                  refine RunF.y (idx_y (d := some 18) (A := Ap2) (m := a2.length) (i := x15_0) (k2 := (pin Go.Proofs.Tryd.f29 [1, 1, 0, 1, 0, 0, 1, 1, 0, 0, 0] 2)) (by kernel_rfl) (of_decide_eq_true c11) (by have h_ := of_decide_eq_true c12; omega) hAq10) trivial ?_
                  refine RunF.y (ld_y (d := some 19) (p := (q10.add (x15_0 : Int).toNat)) (k2 := (pin Go.Proofs.Tryd.f29 [1, 1, 0, 1, 0, 0, 1, 1, 0, 0, 0] 3)) (.int .u8 (rd a2 x15_0)) (by kernel_rfl)) hcq10 ?_
                  refine RunF.go 12 [1, 3, 7, 9, 13, 14, 15, 20, 21, 27] (k' := (pin Go.Proofs.Tryd.f29 [1, 1, 0, 1, 0, 0, 1, 1, 0, 0, 1] 8)) (L' := [(1, .int .i64 a1), (3, .pointer (some ⟨g1, 0, none⟩)), (7, .slice (some ⟨g5, 0, none⟩) (((a2.length : Int)).toNat) (((a2.length : Int) : Int).toNat)), (9, .int .u8 (rd a2 x15_0)), (13, .slice Ap2 a2.length cp2), (14, .int .i64 (a2.length : Int)), (15, .int .i64 x15_0), (20, .slice (some ⟨g5, 0, none⟩) (((a2.length : Int)).toNat) (((a2.length : Int) : Int).toNat)), (21, .int .i64 x15_0), (27, .int .i64 (Int.tmod (I64 (x15_0 + (I64 (2 * (I64 (a1 - 1)))))) 4))]) (w' := W) (by kernel_rfl) ?_
                  obtain ⟨y13, hy, h⟩ := Option.bind_eq_some_iff.mp h
                  rw [show (Int.tmod (I64 (x15_0 + (I64 (2 * (I64 (a1 - 1)))))) 4) = y13 from Option.some.inj hy]
                  clear hy
                  rcases two (decide (0 ≤ y13)) with c15 | c15
                  · replace h := of_true h c15
                    rcases two (decide (y13 < (4 : Int))) with c16 | c16
                    · replace h := of_true h c16
                      obtain ⟨uq14, huq14, hvq14⟩ := Each2.at hq0 ([] : List Int) (i := y13) (of_decide_eq_true c15) (by rw [show a0.length = 4 from hl0]; exact (of_decide_eq_true c16))
                      obtain ⟨Aq14, cq14, rfl, hq14⟩ := hvq14
                      obtain ⟨hcq14, hfq14⟩ := hM.var_at 0 rfl huq14
                      refine RunF.y (idxArr_own (d := some 28) (g := g1) (len := 4) (i := y13) (k2 := (pin Go.Proofs.Tryd.f29 [1, 1, 0, 1, 0, 0, 1, 1, 0, 0, 1] 9)) (by kernel_rfl) (of_decide_eq_true c15) (of_decide_eq_true c16)) trivial ?_
                      refine RunF.y (ld_y (d := some 29) (p := ⟨g1, (y13 : Int).toNat, none⟩) (k2 := (pin Go.Proofs.Tryd.f29 [1, 1, 0, 1, 0, 0, 1, 1, 0, 0, 1] 10)) (.slice Aq14 ((rdr ([] : List Int) a0 y13).length) cq14) (by kernel_rfl)) hcq14 ?_
                      refine RunF.go 1 [1, 3, 7, 13, 14, 15, 20, 21, 29, 30] (k' := (pin Go.Proofs.Tryd.f29 [1, 1, 0, 1, 0, 0, 1, 1, 0, 0, 1] 11)) (L' := [(1, .int .i64 a1), (3, .pointer (some ⟨g1, 0, none⟩)), (7, .slice (some ⟨g5, 0, none⟩) (((a2.length : Int)).toNat) (((a2.length : Int) : Int).toNat)), (13, .slice Ap2 a2.length cp2), (14, .int .i64 (a2.length : Int)), (15, .int .i64 x15_0), (20, .slice (some ⟨g5, 0, none⟩) (((a2.length : Int)).toNat) (((a2.length : Int) : Int).toNat)), (21, .int .i64 x15_0), (29, .slice Aq14 ((rdr ([] : List Int) a0 y13).length) cq14), (30, .int .u8 (rd a2 x15_0))]) (w' := W) (by kernel_rfl) ?_
                      rcases two (decide (0 ≤ (rd a2 x15_0))) with c18 | c18
                      · replace h := of_true h c18
                        rcases two (decide ((rd a2 x15_0) < ((rdr ([] : List Int) a0 y13).length : Int))) with c19 | c19
                        · replace h := of_true h c19
                          obtain ⟨q17, hAq17, hcq17⟩ := Rd.num (hq14 _ (hZp0 _ hM.kept)) (i := rd a2 x15_0) (of_decide_eq_true c18) (by have h_ := of_decide_eq_true c19; omega)
                          refine RunF.y (idx_y (d := some 31) (A := Aq14) (m := (rdr ([] : List Int) a0 y13).length) (i := rd a2 x15_0) (k2 := (pin Go.Proofs.Tryd.f29 [1, 1, 0, 1, 0, 0, 1, 1, 0, 0, 1] 12)) (by kernel_rfl) (of_decide_eq_true c18) (by have h_ := of_decide_eq_true c19; omega) hAq17) trivial ?_
                          refine RunF.y (ld_y (d := some 32) (p := (q17.add (rd a2 x15_0 : Int).toNat)) (k2 := (pin Go.Proofs.Tryd.f29 [1, 1, 0, 1, 0, 0, 1, 1, 0, 0, 1] 13)) (.int .u8 (rd (rdr ([] : List Int) a0 y13) (rd a2 x15_0))) (by kernel_rfl)) hcq17 ?_
                          obtain ⟨y20, hy, h⟩ := Option.bind_eq_some_iff.mp h
                          rw [show (rd (rdr ([] : List Int) a0 y13) (rd a2 x15_0)) = y20 from Option.some.inj hy]
                          clear hy
                          rcases two (decide (0 ≤ x15_0)) with c22 | c22
                          · replace h := of_true h c22
                            rcases two (decide (x15_0 < (((a2.length : Int)).toNat : Int))) with c23 | c23
                            · replace h := of_true h c23
                              obtain ⟨q21, hAq21, hcq21, hfq21, hlq21⟩ := hM.num_at 1 rfl (i := x15_0) (of_decide_eq_true c22) (by have h_ := of_decide_eq_true c23; omega)
                              refine RunF.y (idx_own (d := some 33) (A := (some ⟨g5, 0, none⟩)) (m := ((a2.length : Int)).toNat) (i := x15_0) (k2 := (pin Go.Proofs.Tryd.f29 [1, 1, 0, 1, 0, 0, 1, 1, 0, 0, 1] 14)) (by kernel_rfl) (of_decide_eq_true c22) (by have h_ := of_decide_eq_true c23; omega) hAq21) trivial ?_
                              obtain ⟨g_, hA_, hc_, hf_, hl_⟩ := hM.num_at 1 rfl (i := x15_0) (of_decide_eq_true c22) (by have h_ := of_decide_eq_true c23; omega)
                              obtain rfl : q21 = g_ := by rw [hAq21] at hA_; injection hA_ with hA_; injection hA_
                              refine RunF.doesU (st_u (p := (⟨q21, (x15_0 : Int).toNat, none⟩ : Addr)) (v := .int .u8 y20) (k2 := (pin Go.Proofs.Tryd.f29 [1, 1, 0, 1, 0, 0, 1, 1, 0, 0, 1] 15)) (by kernel_rfl) hc_ hf_) ?_
                              replace hM : Mem w (W.setCell (⟨q21, (x15_0 : Int).toNat, none⟩ : Addr) (.int .u8 y20)) [⟨.pointer (some ⟨g1, 0, none⟩), 51, 0, cs0⟩, ⟨.slice (some ⟨g5, 0, none⟩) (((a2.length : Int)).toNat) (((a2.length : Int) : Int).toNat), 5, 1, nums .u8 (x7_0.set (x15_0 : Int).toNat y20)⟩] := Mem.put_num [⟨.pointer (some ⟨g1, 0, none⟩), 51, 0, cs0⟩] [] (hM.pick [0, 1] rfl rfl) hAq21 _ hl_ _
                              generalize W.setCell (⟨q21, (x15_0 : Int).toNat, none⟩ : Addr) (.int .u8 y20) = W24 at hM ⊢
                              clear hc_ hf_ hl_ hA_ hcq21
                              refine RunF.go 7 [1, 3, 7, 13, 14, 15] (k' := (pl Go.Proofs.Tryd.f29 [1, 1, 0, 1, 0, 0])) (L' := [(1, .int .i64 a1), (3, .pointer (some ⟨g1, 0, none⟩)), (7, .slice (some ⟨g5, 0, none⟩) (((a2.length : Int)).toNat) (((a2.length : Int) : Int).toNat)), (13, .slice Ap2 a2.length cp2), (14, .int .i64 (a2.length : Int)), (15, .int .i64 (I64 (x15_0 + 1)))]) (w' := W24) (by kernel_rfl) ?_
                              exact ih0 k (by omega) (x7_0.set (x15_0 : Int).toNat y20) (I64 (x15_0 + 1)) _ (hM.pick [0, 1] rfl rfl) h
                            · replace h := of_false h c23
                              cases h
                          · replace h := of_false h c22
                            cases h
                        · replace h := of_false h c19
                          cases h
                      · replace h := of_false h c18
                        cases h
                    · replace h := of_false h c16
                      cases h
                  · replace h := of_false h c15
                    cases h
                · replace h := of_false h c12
                  cases h
              · replace h := of_false h c11
                cases h
            · replace h := of_false h c9
              refine RunF.know 16 (b := false) (by kernel_rfl) c9 ?_
              refine RunF.go 7 [6] (k' := (pl Go.Proofs.Tryd.f29 [1, 1, 1, 1])) (L' := [(6, .slice (some ⟨g5, 0, none⟩) (((a2.length : Int)).toNat) (((a2.length : Int) : Int).toNat))]) (w' := W) (by kernel_rfl) ?_
              obtain rfl := Option.some.inj h
              exact RunF.ret1 6 (.slice (some ⟨g5, 0, none⟩) (((a2.length : Int)).toNat) (((a2.length : Int) : Int).toNat)) (fn := Go.Proofs.Tryd.f29) Go.Proofs.Tryd.func29 (by kernel_rfl) (by kernel_rfl) (by kernel_rfl) ⟨_, rfl, (some ⟨g5, 0, none⟩), ((a2.length : Int)).toNat, ((a2.length : Int) : Int).toNat, rfl, (hM.pick [1] rfl rfl)⟩
      exact l0 k (Nat.le_refl _) (List.replicate (((a2.length : Int)).toNat) (0 : Int)) 0 _ (hM.pick [1, 0] rfl rfl) h
    · replace h := of_false h c7
      cases h
  · replace h := of_false h c6
    cases h

/-! ### scrim/words.Xor: function 32 -/
def words_Xor.l0 : Nat → (List Int) → (List Int) → (List Int) → Int → Option (List Int × Bool)
  | 0, _, _, _, _ => none
  | k + 1, a0, a1, x6_0, x18_0 => if (decide (x18_0 < (a0.length : Int))) = true then (if (decide (0 ≤ x18_0)) = true then (if (decide (x18_0 < (a0.length : Int))) = true then (if (decide (0 ≤ x18_0)) = true then (if (decide (x18_0 < (a1.length : Int))) = true then (if (decide (0 ≤ x18_0)) = true then (if (decide (x18_0 < (((a0.length : Int)).toNat : Int))) = true then (words_Xor.l0 k a0 a1 (x6_0.set (x18_0 : Int).toNat (bxor .u8 (rd a0 x18_0) (rd a1 x18_0))) (I64 (x18_0 + 1))) else (none)) else (none)) else (none)) else (none)) else (none)) else (none)) else (some (x6_0, true))
def words_Xor.f (k : Nat) (a0 : List Int) (a1 : List Int) : Option (List Int × Bool) := if ((a0.length : Int) != (a1.length : Int)) = true then (some (([] : List Int), false)) else (if (decide (0 ≤ (a0.length : Int))) = true then (if (decide ((a0.length : Int) ≤ 1000000000)) = true then (words_Xor.l0 k a0 a1 (List.replicate (((a0.length : Int)).toNat) (0 : Int)) 0) else (none)) else (none))
set_option maxRecDepth 100000 in
theorem words_Xor.calls (k : Nat) (Ap0 : Option Addr) (np0 cp0 : Nat) (a0 : List Int) (Ap1 : Option Addr) (np1 cp1 : Nat) (a1 : List Int) (r : List Int × Bool) (w : World) (hr0 : Rd w (.slice Ap0 np0 cp0) (nums .u8 a0)) (hr1 : Rd w (.slice Ap1 np1 cp1) (nums .u8 a1)) (h : words_Xor.f k a0 a1 = some r) :
    Calls Go.Proofs.Tryd.prog 32 #[(.slice Ap0 np0 cp0), (.slice Ap1 np1 cp1)] w (Ret fun v w' => ∃ A0' n0' c0', v = .tuple #[.slice A0' n0' c0', .bool r.2] ∧ Mem w w' [⟨.slice A0' n0' c0', 5, 1, nums .u8 r.1⟩]) := by
  obtain rfl : a0.length = np0 := by have h_ := hr0.1; simpa [nums_length, bools_length, strs_length] using h_
  obtain rfl : a1.length = np1 := by have h_ := hr1.1; simpa [nums_length, bools_length, strs_length] using h_
  unfold words_Xor.f at h
  refine calls_of [.slice Ap0 a0.length cp0, .slice Ap1 a1.length cp1] (fn := Go.Proofs.Tryd.f32) Go.Proofs.Tryd.func32 (by kernel_rfl) (by kernel_rfl) ?_
  have hM := Mem.refl w
  refine RunF.go 14 [0, 1, 12] (k' := (pl Go.Proofs.Tryd.f32 [1, 0, 1])) (L' := [(0, .slice Ap0 a0.length cp0), (1, .slice Ap1 a1.length cp1), (12, .bool ((a0.length : Int) != (a1.length : Int)))]) (w' := w) (by kernel_rfl) ?_
  rcases two (((a0.length : Int) != (a1.length : Int))) with c1 | c1
  · replace h := of_true h c1
    refine RunF.know 12 (b := true) (by kernel_rfl) c1 ?_
    refine RunF.go 6 [4, 5] (k' := (pl Go.Proofs.Tryd.f32 [1, 0, 1, 0, 1])) (L' := [(4, .slice none 0 0), (5, .bool false)]) (w' := w) (by kernel_rfl) ?_
    replace hM := hM.nil 5
    obtain rfl := Option.some.inj h
    exact RunF.ret2 4 5 (.slice none 0 0) (.bool false) (fn := Go.Proofs.Tryd.f32) Go.Proofs.Tryd.func32 (by kernel_rfl) (by kernel_rfl) (by kernel_rfl) (by kernel_rfl) ⟨_, rfl, none, 0, 0, rfl, (hM.pick [0] rfl rfl)⟩
  · replace h := of_false h c1
    refine RunF.know 12 (b := false) (by kernel_rfl) c1 ?_
    refine RunF.go 6 [0, 1, 14] (k' := (pin Go.Proofs.Tryd.f32 [1, 1, 0] 2)) (L' := [(0, .slice Ap0 a0.length cp0), (1, .slice Ap1 a1.length cp1), (14, .int .i64 (a0.length : Int))]) (w' := w) (by kernel_rfl) ?_
    rcases two (decide (0 ≤ (a0.length : Int))) with c5 | c5
    · replace h := of_true h c5
      rcases two (decide ((a0.length : Int) ≤ 1000000000)) with c6 | c6
      · replace h := of_true h c6
        have := of_decide_eq_true c5
        have := of_decide_eq_true c6
        obtain ⟨W3, hD, hM', hB_⟩ := mk_does (P := Go.Proofs.Tryd.prog) (n := 35) (k := (pin Go.Proofs.Tryd.f32 [1, 1, 0] 2)) (L := [(0, .slice Ap0 a0.length cp0), (1, .slice Ap1 a1.length cp1), (14, .int .i64 (a0.length : Int))]) (d := some 15) (e := 5) (z := .int .u8 0) (l := (a0.length : Int)) (c := (a0.length : Int)) (k2 := (pin Go.Proofs.Tryd.f32 [1, 1, 0] 3)) (by kernel_rfl) (by omega) (by omega) (by omega) hM
        rw [rep_nums] at hM'
        refine RunF.does hD ?_
        replace hM := hM'; clear hD hM'
        generalize w.heap.size = g4 at hM ⊢
        refine RunF.go 11 [0, 1, 6, 17, 18] (k' := (pl Go.Proofs.Tryd.f32 [1, 1, 1, 0, 1, 0, 0])) (L' := [(0, .slice Ap0 a0.length cp0), (1, .slice Ap1 a1.length cp1), (6, .slice (some ⟨g4, 0, none⟩) (((a0.length : Int)).toNat) (((a0.length : Int) : Int).toNat)), (17, .int .i64 (a0.length : Int)), (18, .int .i64 0)]) (w' := W3) (by kernel_rfl) ?_
        have l0 : ∀ (k_ : Nat), k_ ≤ k → ∀ (x6_0 : List Int) (x18_0 : Int) (W : World) (hM : Mem w W [⟨.slice (some ⟨g4, 0, none⟩) (((a0.length : Int)).toNat) (((a0.length : Int) : Int).toNat), 5, 1, nums .u8 x6_0⟩]) (h : words_Xor.l0 k_ a0 a1 x6_0 x18_0 = some r), RunF Go.Proofs.Tryd.prog (Ret fun v w' => ∃ A0' n0' c0', v = .tuple #[.slice A0' n0' c0', .bool r.2] ∧ Mem w w' [⟨.slice A0' n0' c0', 5, 1, nums .u8 r.1⟩]) 32 (pl Go.Proofs.Tryd.f32 [1, 1, 1, 0, 1, 0, 0]) 35 [(0, .slice Ap0 a0.length cp0), (1, .slice Ap1 a1.length cp1), (6, .slice (some ⟨g4, 0, none⟩) (((a0.length : Int)).toNat) (((a0.length : Int) : Int).toNat)), (17, .int .i64 (a0.length : Int)), (18, .int .i64 x18_0)] W := by
          intro k_
          induction k_ using Nat.strongRecOn with
          | _ k_ ih0 =>
            intro hk x6_0 x18_0 W hM h
            cases k_ with
            | zero => exact absurd h (by simp [words_Xor.l0])
            | succ k =>
              simp only [words_Xor.l0] at h
              replace ih0 : ∀ m, m ≤ k → _ := fun m hm => ih0 m (by omega) (by omega)
              refine RunF.go 5 [0, 1, 6, 17, 18, 19] (k' := (pl Go.Proofs.Tryd.f32 [1, 1, 1, 0, 1, 0, 0, 1, 0])) (L' := [(0, .slice Ap0 a0.length cp0), (1, .slice Ap1 a1.length cp1), (6, .slice (some ⟨g4, 0, none⟩) (((a0.length : Int)).toNat) (((a0.length : Int) : Int).toNat)), (17, .int .i64 (a0.length : Int)), (18, .int .i64 x18_0), (19, .bool (decide (x18_0 < (a0.length : Int))))]) (w' := W) (by kernel_rfl) ?_
              rcases two (decide (x18_0 < (a0.length : Int))) with c8 | c8
              · replace h := of_true h c8
                refine RunF.know 19 (b := true) (by kernel_rfl) c8 ?_
                refine RunF.go 9 [0, 1, 6, 7, 17, 18] (k' := (pl Go.Proofs.Tryd.f32 [1, 1, 1, 0, 1, 0, 0, 1, 1, 0, 0, 1])) (L' := [(0, .slice Ap0 a0.length cp0), (1, .slice Ap1 a1.length cp1), (6, .slice (some ⟨g4, 0, none⟩) (((a0.length : Int)).toNat) (((a0.length : Int) : Int).toNat)), (7, .int .i64 x18_0), (17, .int .i64 (a0.length : Int)), (18, .int .i64 x18_0)]) (w' := W) (by kernel_rfl) ?_
                refine RunF.draw (Still ({ W with drawn := W.drawn + 1 } : World) [.slice (some ⟨g4, 0, none⟩) (((a0.length : Int)).toNat) (((a0.length : Int) : Int).toNat)]) (by kernel_rfl) (by kernel_rfl) ?_
                have hMd10 := hM.drew
                have hS := Still.refl ({ W with drawn := W.drawn + 1 } : World) [.slice (some ⟨g4, 0, none⟩) (((a0.length : Int)).toNat) (((a0.length : Int) : Int).toNat)]
                generalize ({ W with drawn := W.drawn + 1 } : World) = W9 at hMd10 hS ⊢
                replace hM := hMd10
                refine RunAny.y 0 (by kernel_rfl) (yl_pure (d := some 21) (v := .slice (some ⟨g4, 0, none⟩) (((a0.length : Int)).toNat) (((a0.length : Int) : Int).toNat)) (k2 := [.inRegion (opsOf (pl Go.Proofs.Tryd.f32 [1, 1, 1, 0, 1, 0, 0, 1, 1, 0, 0, 1])) []]) fun w => by kernel_rfl) (fun _ _ => trivial) hS ?_
                refine RunAny.y 1 (by kernel_rfl) (yl_pure (d := some 22) (v := .int .i64 x18_0) (k2 := [.inRegion (opsOf (pl Go.Proofs.Tryd.f32 [1, 1, 1, 0, 1, 0, 0, 1, 1, 0, 0, 1])) []]) fun w => by kernel_rfl) (fun _ _ => trivial) hS ?_
                refine RunAny.y 2 (by kernel_rfl) (yl_pure (d := some 23) (v := .slice Ap0 a0.length cp0) (k2 := [.inRegion (opsOf (pl Go.Proofs.Tryd.f32 [1, 1, 1, 0, 1, 0, 0, 1, 1, 0, 0, 1])) []]) fun w => by kernel_rfl) (fun _ _ => trivial) hS ?_
                refine RunAny.y 3 (by kernel_rfl) (yl_pure (d := some 24) (v := .int .i64 x18_0) (k2 := [.inRegion (opsOf (pl Go.Proofs.Tryd.f32 [1, 1, 1, 0, 1, 0, 0, 1, 1, 0, 0, 1])) []]) fun w => by kernel_rfl) (fun _ _ => trivial) hS ?_
                rcases two (decide (0 ≤ x18_0)) with c12 | c12
                · replace h := of_true h c12
                  rcases two (decide (x18_0 < (a0.length : Int))) with c13 | c13
                  · replace h := of_true h c13
                    obtain ⟨q11, hAq11, hiq11⟩ := Rd.num hr0 (i := x18_0) (of_decide_eq_true c12) (by have h_ := of_decide_eq_true c13; omega)
                    have hcq11 := (hM.below.cell (World.block_lt_of_cell? _ _ hiq11)).trans hiq11
                    refine RunAny.y 4 (by kernel_rfl) (idx_y (d := some 25) (A := Ap0) (m := a0.length) (i := x18_0) (k2 := [.inRegion (opsOf (pl Go.Proofs.Tryd.f32 [1, 1, 1, 0, 1, 0, 0, 1, 1, 0, 0, 1])) []]) (by kernel_rfl) (of_decide_eq_true c12) (by have h_ := of_decide_eq_true c13; omega) hAq11) (fun _ _ => trivial) hS ?_
                    refine RunAny.y 5 (by kernel_rfl) (ld_y (d := some 26) (p := (q11.add (x18_0 : Int).toNat)) (k2 := [.inRegion (opsOf (pl Go.Proofs.Tryd.f32 [1, 1, 1, 0, 1, 0, 0, 1, 1, 0, 0, 1])) []]) (.int .u8 (rd a0 x18_0)) (by kernel_rfl)) (fun _ hs => hs.cell hcq11 (by intro v hv; simp only [List.mem_cons, List.not_mem_nil, or_false] at hv; rcases hv with rfl; exact (hM.far hiq11 0 rfl))) hS ?_
                    refine RunAny.y 6 (by kernel_rfl) (yl_pure (d := some 27) (v := .slice Ap1 a1.length cp1) (k2 := [.inRegion (opsOf (pl Go.Proofs.Tryd.f32 [1, 1, 1, 0, 1, 0, 0, 1, 1, 0, 0, 1])) []]) fun w => by kernel_rfl) (fun _ _ => trivial) hS ?_
                    refine RunAny.y 7 (by kernel_rfl) (yl_pure (d := some 28) (v := .int .i64 x18_0) (k2 := [.inRegion (opsOf (pl Go.Proofs.Tryd.f32 [1, 1, 1, 0, 1, 0, 0, 1, 1, 0, 0, 1])) []]) fun w => by kernel_rfl) (fun _ _ => trivial) hS ?_
                    rcases two (decide (0 ≤ x18_0)) with c15 | c15
                    · replace h := of_true h c15
                      rcases two (decide (x18_0 < (a1.length : Int))) with c16 | c16
                      · replace h := of_true h c16
                        obtain ⟨q14, hAq14, hiq14⟩ := Rd.num hr1 (i := x18_0) (of_decide_eq_true c15) (by have h_ := of_decide_eq_true c16; omega)
                        have hcq14 := (hM.below.cell (World.block_lt_of_cell? _ _ hiq14)).trans hiq14
                        refine RunAny.y 8 (by kernel_rfl) (idx_y (d := some 29) (A := Ap1) (m := a1.length) (i := x18_0) (k2 := [.inRegion (opsOf (pl Go.Proofs.Tryd.f32 [1, 1, 1, 0, 1, 0, 0, 1, 1, 0, 0, 1])) []]) (by kernel_rfl) (of_decide_eq_true c15) (by have h_ := of_decide_eq_true c16; omega) hAq14) (fun _ _ => trivial) hS ?_
                        refine RunAny.y 9 (by kernel_rfl) (ld_y (d := some 30) (p := (q14.add (x18_0 : Int).toNat)) (k2 := [.inRegion (opsOf (pl Go.Proofs.Tryd.f32 [1, 1, 1, 0, 1, 0, 0, 1, 1, 0, 0, 1])) []]) (.int .u8 (rd a1 x18_0)) (by kernel_rfl)) (fun _ hs => hs.cell hcq14 (by intro v hv; simp only [List.mem_cons, List.not_mem_nil, or_false] at hv; rcases hv with rfl; exact (hM.far hiq14 0 rfl))) hS ?_
                        refine RunAny.y 10 (by kernel_rfl) (yl_pure (d := some 31) (v := .int .u8 (bxor .u8 (rd a0 x18_0) (rd a1 x18_0))) (k2 := [.inRegion (opsOf (pl Go.Proofs.Tryd.f32 [1, 1, 1, 0, 1, 0, 0, 1, 1, 0, 0, 1])) []]) fun w => by kernel_rfl) (fun _ _ => trivial) hS ?_
                        rcases two (decide (0 ≤ x18_0)) with c18 | c18
                        · replace h := of_true h c18
                          rcases two (decide (x18_0 < (((a0.length : Int)).toNat : Int))) with c19 | c19
                          · replace h := of_true h c19
                            obtain ⟨q17, hAq17, hcq17, hfq17, hlq17⟩ := hM.num_at 0 rfl (i := x18_0) (of_decide_eq_true c18) (by have h_ := of_decide_eq_true c19; omega)
                            refine RunAny.y 11 (by kernel_rfl) (idx_own (d := some 32) (A := (some ⟨g4, 0, none⟩)) (m := ((a0.length : Int)).toNat) (i := x18_0) (k2 := [.inRegion (opsOf (pl Go.Proofs.Tryd.f32 [1, 1, 1, 0, 1, 0, 0, 1, 1, 0, 0, 1])) []]) (by kernel_rfl) (of_decide_eq_true c18) (by have h_ := of_decide_eq_true c19; omega) hAq17) (fun _ _ => trivial) hS ?_
                            obtain ⟨g_, hA_, hc_, hf_, hl_⟩ := hM.num_at 0 rfl (i := x18_0) (of_decide_eq_true c18) (by have h_ := of_decide_eq_true c19; omega)
                            obtain rfl : q17 = g_ := by rw [hAq17] at hA_; injection hA_ with hA_; injection hA_
                            have hS' := hS.set (v := .slice (some ⟨g4, 0, none⟩) (((a0.length : Int)).toNat) (((a0.length : Int) : Int).toNat)) (g := q17) (i := (x18_0 : Int).toNat) (by simp) (by rw [hAq17]; rfl) (.int .u8 (bxor .u8 (rd a0 x18_0) (rd a1 x18_0)))
                            refine RunAny.doesU 12 (by kernel_rfl) (st_u (p := (⟨q17, (x18_0 : Int).toNat, none⟩ : Addr)) (v := .int .u8 (bxor .u8 (rd a0 x18_0) (rd a1 x18_0))) (k2 := [.inRegion (opsOf (pl Go.Proofs.Tryd.f32 [1, 1, 1, 0, 1, 0, 0, 1, 1, 0, 0, 1])) []]) (by kernel_rfl) hc_ hf_) hS' ?_
                            replace hM : Mem w (W9.setCell (⟨q17, (x18_0 : Int).toNat, none⟩ : Addr) (.int .u8 (bxor .u8 (rd a0 x18_0) (rd a1 x18_0)))) [⟨.slice (some ⟨g4, 0, none⟩) (((a0.length : Int)).toNat) (((a0.length : Int) : Int).toNat), 5, 1, nums .u8 (x6_0.set (x18_0 : Int).toNat (bxor .u8 (rd a0 x18_0) (rd a1 x18_0)))⟩] := Mem.put_num [] [] (hM.pick [0] rfl rfl) hAq17 _ hl_ _
                            generalize W9.setCell (⟨q17, (x18_0 : Int).toNat, none⟩ : Addr) (.int .u8 (bxor .u8 (rd a0 x18_0) (rd a1 x18_0))) = W20 at hM hS' ⊢
                            clear hc_ hf_ hl_ hA_ hcq17
                            replace hS := hS'
                            refine RunAny.rebase hS ?_
                            replace hS := Still.refl W20 [.slice (some ⟨g4, 0, none⟩) (((a0.length : Int)).toNat) (((a0.length : Int) : Int).toNat)]
                            refine RunAny.done (by kernel_rfl) ?_
                            clear hS
                            refine RunF.go 6 [0, 1, 6, 17, 18] (k' := (pl Go.Proofs.Tryd.f32 [1, 1, 1, 0, 1, 0, 0])) (L' := [(0, .slice Ap0 a0.length cp0), (1, .slice Ap1 a1.length cp1), (6, .slice (some ⟨g4, 0, none⟩) (((a0.length : Int)).toNat) (((a0.length : Int) : Int).toNat)), (17, .int .i64 (a0.length : Int)), (18, .int .i64 (I64 (x18_0 + 1)))]) (w' := W20) (by kernel_rfl) ?_
                            exact ih0 k (by omega) (x6_0.set (x18_0 : Int).toNat (bxor .u8 (rd a0 x18_0) (rd a1 x18_0))) (I64 (x18_0 + 1)) _ (hM.pick [0] rfl rfl) h
                          · replace h := of_false h c19
                            cases h
                        · replace h := of_false h c18
                          cases h
                      · replace h := of_false h c16
                        cases h
                    · replace h := of_false h c15
                      cases h
                  · replace h := of_false h c13
                    cases h
                · replace h := of_false h c12
                  cases h
              · replace h := of_false h c8
                refine RunF.know 19 (b := false) (by kernel_rfl) c8 ?_
                refine RunF.go 8 [4, 5] (k' := (pl Go.Proofs.Tryd.f32 [1, 1, 1, 1, 1])) (L' := [(4, .slice (some ⟨g4, 0, none⟩) (((a0.length : Int)).toNat) (((a0.length : Int) : Int).toNat)), (5, .bool true)]) (w' := W) (by kernel_rfl) ?_
                obtain rfl := Option.some.inj h
                exact RunF.ret2 4 5 (.slice (some ⟨g4, 0, none⟩) (((a0.length : Int)).toNat) (((a0.length : Int) : Int).toNat)) (.bool true) (fn := Go.Proofs.Tryd.f32) Go.Proofs.Tryd.func32 (by kernel_rfl) (by kernel_rfl) (by kernel_rfl) (by kernel_rfl) ⟨_, rfl, (some ⟨g4, 0, none⟩), ((a0.length : Int)).toNat, ((a0.length : Int) : Int).toNat, rfl, (hM.pick [0] rfl rfl)⟩
        exact l0 k (Nat.le_refl _) (List.replicate (((a0.length : Int)).toNat) (0 : Int)) 0 _ (hM.pick [0] rfl rfl) h
      · replace h := of_false h c6
        cases h
    · replace h := of_false h c5
      cases h

/-! ### (scrim/aria.boxes).turn: function 31 -/
def aria_boxes_turn.f (k : Nat) (a0 : List (List Int)) (a1 : Int) (a2 : List Int) (a3 : List Int) : Option (List Int) := (words_Xor.f k a2 a3).bind fun t5 => ((aria_boxes_layer.f k a0 a1 t5.1).bind fun t11 => ((aria_Mix.f k t11).bind fun t17 => (some t17.1)))
set_option maxRecDepth 100000 in
theorem aria_boxes_turn.calls (k : Nat) (vp0 : Value) (Zp0 : Zp) (a0 : List (List Int)) (a1 : Int) (Ap2 : Option Addr) (np2 cp2 : Nat) (a2 : List Int) (Ap3 : Option Addr) (np3 cp3 : Nat) (a3 : List Int) (r : List Int) (w : World) (hr2 : Rd w (.slice Ap2 np2 cp2) (nums .u8 a2)) (hr3 : Rd w (.slice Ap3 np3 cp3) (nums .u8 a3)) (hp0 : (rArr 4 (rNums .u8)) Zp0 vp0 a0) (hZp0 : ∀ W, Kept w W → Zp0 W) (h : aria_boxes_turn.f k a0 a1 a2 a3 = some r) :
    Calls Go.Proofs.Tryd.prog 31 #[vp0, .int .i64 a1, (.slice Ap2 np2 cp2), (.slice Ap3 np3 cp3)] w (Ret fun v w' => ∃ A0' n0' c0', v = .slice A0' n0' c0' ∧ Mem w w' [⟨.slice A0' n0' c0', 5, 1, nums .u8 r⟩]) := by
  obtain rfl : a2.length = np2 := by have h_ := hr2.1; simpa [nums_length, bools_length, strs_length] using h_
  obtain rfl : a3.length = np3 := by have h_ := hr3.1; simpa [nums_length, bools_length, strs_length] using h_
  obtain ⟨cs0, rfl, hl0, hq0⟩ := hp0
  unfold aria_boxes_turn.f at h
  refine calls_of [.agg (cs0).toArray, .int .i64 a1, .slice Ap2 a2.length cp2, .slice Ap3 a3.length cp3] (fn := Go.Proofs.Tryd.f31) Go.Proofs.Tryd.func31 (by kernel_rfl) (by kernel_rfl) ?_
  have hM := Mem.refl w
  refine RunF.go 2 [0, 1, 2, 3] (k' := (pin Go.Proofs.Tryd.f31 [0] 0)) (L' := [(0, .agg (cs0).toArray), (1, .int .i64 a1), (2, .slice Ap2 a2.length cp2), (3, .slice Ap3 a3.length cp3)]) (w' := w) (by kernel_rfl) ?_
  refine RunF.newVar 51 (cs0) (d := some 4) (k2 := (pin Go.Proofs.Tryd.f31 [0] 1)) hM (by kernel_rfl) ?_
  intro g1 W2 hM
  refine RunF.go 6 [1, 4, 10, 11] (k' := (pin Go.Proofs.Tryd.f31 [1, 0] 2)) (L' := [(1, .int .i64 a1), (4, .pointer (some ⟨g1, 0, none⟩)), (10, .slice Ap2 a2.length cp2), (11, .slice Ap3 a3.length cp3)]) (w' := W2) (by kernel_rfl) ?_
  obtain ⟨t5, ht5, h⟩ := Option.bind_eq_some_iff.mp h
  refine RunF.call (d := some 12) (g := 32) (args := #[.slice Ap2 a2.length cp2, .slice Ap3 a3.length cp3]) (k2 := (pin Go.Proofs.Tryd.f31 [1, 0] 3)) (by kernel_rfl) (words_Xor.calls k Ap2 a2.length cp2 a2 Ap3 a3.length cp3 a3 t5 _ (hr2.mono hM.below) (hr3.mono hM.below) ht5) ?_
  rintro _ W4 ⟨A6, n7, c8, rfl, hM_⟩
  obtain rfl : t5.1.length = n7 := by have h_ := (hM_.rd 0 rfl).1; simpa [nums_length, bools_length, strs_length] using h_
  replace hM := hM.call hM_
  clear hM_ ht5
  refine RunF.go 7 [1, 2, 4] (k' := (pin Go.Proofs.Tryd.f31 [1, 1, 0] 0)) (L' := [(1, .int .i64 a1), (2, .slice A6 t5.1.length c8), (4, .pointer (some ⟨g1, 0, none⟩))]) (w' := W4) (by kernel_rfl) ?_
  refine RunF.y (ldv_y (d := some 16) (g := g1) (N := 4) (ty := 51) (k2 := (pin Go.Proofs.Tryd.f31 [1, 1, 0] 1)) (cs0) (by kernel_rfl) (hq0.1.trans hl0)) (hM.block 1 rfl) ?_
  refine RunF.go 2 [16, 17, 18] (k' := (pin Go.Proofs.Tryd.f31 [1, 1, 0] 3)) (L' := [(16, .agg (cs0).toArray), (17, .int .i64 a1), (18, .slice A6 t5.1.length c8)]) (w' := W4) (by kernel_rfl) ?_
  obtain ⟨t11, ht11, h⟩ := Option.bind_eq_some_iff.mp h
  refine RunF.call (d := some 19) (g := 29) (args := #[.agg (cs0).toArray, .int .i64 a1, .slice A6 t5.1.length c8]) (k2 := (pin Go.Proofs.Tryd.f31 [1, 1, 0] 4)) (by kernel_rfl) (aria_boxes_layer.calls k (.agg (cs0).toArray) Zp0 a0 a1 A6 t5.1.length c8 t5.1 t11 _ (hM.rd 0 rfl) ⟨_, rfl, hl0, hq0⟩ (fun _ hb_ => (hZp0 _ (hM.kept.trans hb_))) ht11) ?_
  rintro _ W10 ⟨A12, n13, c14, rfl, hM_⟩
  obtain rfl : t11.length = n13 := by have h_ := (hM_.rd 0 rfl).1; simpa [nums_length, bools_length, strs_length] using h_
  replace hM := hM.call hM_
  clear hM_ ht11
  obtain ⟨t17, ht17, h⟩ := Option.bind_eq_some_iff.mp h
  refine RunF.call (d := some 20) (g := 11) (args := #[.slice A12 t11.length c14]) (k2 := (pin Go.Proofs.Tryd.f31 [1, 1, 0] 5)) (by kernel_rfl) (aria_Mix.calls k A12 t11.length c14 t11 t17 _ (hM.rd 0 rfl) ht17) ?_
  rintro _ W16 ⟨A18, n19, c20, rfl, hM_⟩
  obtain rfl : t17.1.length = n19 := by have h_ := (hM_.rd 0 rfl).1; simpa [nums_length, bools_length, strs_length] using h_
  replace hM := hM.call hM_
  clear hM_ ht17
  refine RunF.go 10 [8] (k' := (pl Go.Proofs.Tryd.f31 [1, 1, 1, 1])) (L' := [(8, .slice A18 t17.1.length c20)]) (w' := W16) (by kernel_rfl) ?_
  obtain rfl := Option.some.inj h
  exact RunF.ret1 8 (.slice A18 t17.1.length c20) (fn := Go.Proofs.Tryd.f31) Go.Proofs.Tryd.func31 (by kernel_rfl) (by kernel_rfl) (by kernel_rfl) ⟨_, rfl, A18, t17.1.length, c20, rfl, (hM.pick [0] rfl rfl)⟩

/-! ### scrim/words.store: function 56 -/
def words_store.l0 : Nat → Int → Int → (List Int) → Int → Option (List Int)
  | 0, _, _, _, _ => none
  | k + 1, a1, x0_0, x5_0, x6_0 => if (decide (x6_0 > 0)) = true then (if (decide (0 ≤ (I64 (x6_0 - 1)))) = true then (if (decide ((I64 (x6_0 - 1)) < ((a1 : Int).toNat : Int))) = true then (words_store.l0 k a1 (shr x0_0 8) (x5_0.set (I64 (x6_0 - 1) : Int).toNat (U8 (x0_0))) (I64 (x6_0 - 1))) else (none)) else (none)) else (some x5_0)
def words_store.f (k : Nat) (a0 : Int) (a1 : Int) : Option (List Int) := if (decide (0 ≤ a1)) = true then (if (decide (a1 ≤ 1000000000)) = true then (words_store.l0 k a1 a0 (List.replicate ((a1 : Int).toNat) (0 : Int)) a1) else (none)) else (none)
set_option maxRecDepth 100000 in
theorem words_store.calls (k : Nat) (a0 : Int) (a1 : Int) (r : List Int) (w : World) (h : words_store.f k a0 a1 = some r) :
    Calls Go.Proofs.Tryd.prog 56 #[.int .u64 a0, .int .i64 a1] w (Ret fun v w' => ∃ A0' n0' c0', v = .slice A0' n0' c0' ∧ Mem w w' [⟨.slice A0' n0' c0', 5, 1, nums .u8 r⟩]) := by
  unfold words_store.f at h
  refine calls_of [.int .u64 a0, .int .i64 a1] (fn := Go.Proofs.Tryd.f56) Go.Proofs.Tryd.func56 (by kernel_rfl) (by kernel_rfl) ?_
  have hM := Mem.refl w
  refine RunF.go 8 [0, 1, 7] (k' := (pin Go.Proofs.Tryd.f56 [1, 0, 0] 1)) (L' := [(0, .int .u64 a0), (1, .int .i64 a1), (7, .int .i64 a1)]) (w' := w) (by kernel_rfl) ?_
  rcases two (decide (0 ≤ a1)) with c3 | c3
  · replace h := of_true h c3
    rcases two (decide (a1 ≤ 1000000000)) with c4 | c4
    · replace h := of_true h c4
      have := of_decide_eq_true c3
      have := of_decide_eq_true c4
      obtain ⟨W1, hD, hM', hB_⟩ := mk_does (P := Go.Proofs.Tryd.prog) (n := 22) (k := (pin Go.Proofs.Tryd.f56 [1, 0, 0] 1)) (L := [(0, .int .u64 a0), (1, .int .i64 a1), (7, .int .i64 a1)]) (d := some 8) (e := 5) (z := .int .u8 0) (l := a1) (c := a1) (k2 := (pin Go.Proofs.Tryd.f56 [1, 0, 0] 2)) (by kernel_rfl) (by omega) (by omega) (by omega) hM
      rw [rep_nums] at hM'
      refine RunF.does hD ?_
      replace hM := hM'; clear hD hM'
      generalize w.heap.size = g2 at hM ⊢
      refine RunF.go 9 [0, 5, 6] (k' := (pl Go.Proofs.Tryd.f56 [1, 0, 1, 1, 1])) (L' := [(0, .int .u64 a0), (5, .slice (some ⟨g2, 0, none⟩) ((a1 : Int).toNat) ((a1 : Int).toNat)), (6, .int .i64 a1)]) (w' := W1) (by kernel_rfl) ?_
      have l0 : ∀ (k_ : Nat), k_ ≤ k → ∀ (x0_0 : Int) (x5_0 : List Int) (x6_0 : Int) (W : World) (hM : Mem w W [⟨.slice (some ⟨g2, 0, none⟩) ((a1 : Int).toNat) ((a1 : Int).toNat), 5, 1, nums .u8 x5_0⟩]) (h : words_store.l0 k_ a1 x0_0 x5_0 x6_0 = some r), RunF Go.Proofs.Tryd.prog (Ret fun v w' => ∃ A0' n0' c0', v = .slice A0' n0' c0' ∧ Mem w w' [⟨.slice A0' n0' c0', 5, 1, nums .u8 r⟩]) 56 (pl Go.Proofs.Tryd.f56 [1, 0, 1, 1, 1]) 22 [(0, .int .u64 x0_0), (5, .slice (some ⟨g2, 0, none⟩) ((a1 : Int).toNat) ((a1 : Int).toNat)), (6, .int .i64 x6_0)] W := by
        intro k_
        induction k_ using Nat.strongRecOn with
        | _ k_ ih0 =>
          intro hk x0_0 x5_0 x6_0 W hM h
          cases k_ with
          | zero => exact absurd h (by simp [words_store.l0])
          | succ k =>
            simp only [words_store.l0] at h
            replace ih0 : ∀ m, m ≤ k → _ := fun m hm => ih0 m (by omega) (by omega)
            refine RunF.go 6 [0, 5, 6, 11] (k' := (pl Go.Proofs.Tryd.f56 [1, 0, 1, 1, 1, 0, 1])) (L' := [(0, .int .u64 x0_0), (5, .slice (some ⟨g2, 0, none⟩) ((a1 : Int).toNat) ((a1 : Int).toNat)), (6, .int .i64 x6_0), (11, .bool (decide (x6_0 > 0)))]) (w' := W) (by kernel_rfl) ?_
            rcases two (decide (x6_0 > 0)) with c6 | c6
            · replace h := of_true h c6
              refine RunF.know 11 (b := true) (by kernel_rfl) c6 ?_
              refine RunF.go 13 [0, 5, 6, 14, 15, 17] (k' := (pin Go.Proofs.Tryd.f56 [1, 0, 1, 1, 1, 0, 1, 0, 1, 0] 4)) (L' := [(0, .int .u64 x0_0), (5, .slice (some ⟨g2, 0, none⟩) ((a1 : Int).toNat) ((a1 : Int).toNat)), (6, .int .i64 (I64 (x6_0 - 1))), (14, .slice (some ⟨g2, 0, none⟩) ((a1 : Int).toNat) ((a1 : Int).toNat)), (15, .int .i64 (I64 (x6_0 - 1))), (17, .int .u8 (U8 (x0_0)))]) (w' := W) (by kernel_rfl) ?_
              rcases two (decide (0 ≤ (I64 (x6_0 - 1)))) with c8 | c8
              · replace h := of_true h c8
                rcases two (decide ((I64 (x6_0 - 1)) < ((a1 : Int).toNat : Int))) with c9 | c9
                · replace h := of_true h c9
                  obtain ⟨q7, hAq7, hcq7, hfq7, hlq7⟩ := hM.num_at 0 rfl (i := I64 (x6_0 - 1)) (of_decide_eq_true c8) (by have h_ := of_decide_eq_true c9; omega)
                  refine RunF.y (idx_own (d := some 18) (A := (some ⟨g2, 0, none⟩)) (m := (a1 : Int).toNat) (i := I64 (x6_0 - 1)) (k2 := (pin Go.Proofs.Tryd.f56 [1, 0, 1, 1, 1, 0, 1, 0, 1, 0] 5)) (by kernel_rfl) (of_decide_eq_true c8) (by have h_ := of_decide_eq_true c9; omega) hAq7) trivial ?_
                  obtain ⟨g_, hA_, hc_, hf_, hl_⟩ := hM.num_at 0 rfl (i := I64 (x6_0 - 1)) (of_decide_eq_true c8) (by have h_ := of_decide_eq_true c9; omega)
                  obtain rfl : q7 = g_ := by rw [hAq7] at hA_; injection hA_ with hA_; injection hA_
                  refine RunF.doesU (st_u (p := (⟨q7, (I64 (x6_0 - 1) : Int).toNat, none⟩ : Addr)) (v := .int .u8 (U8 (x0_0))) (k2 := (pin Go.Proofs.Tryd.f56 [1, 0, 1, 1, 1, 0, 1, 0, 1, 0] 6)) (by kernel_rfl) hc_ hf_) ?_
                  replace hM : Mem w (W.setCell (⟨q7, (I64 (x6_0 - 1) : Int).toNat, none⟩ : Addr) (.int .u8 (U8 (x0_0)))) [⟨.slice (some ⟨g2, 0, none⟩) ((a1 : Int).toNat) ((a1 : Int).toNat), 5, 1, nums .u8 (x5_0.set (I64 (x6_0 - 1) : Int).toNat (U8 (x0_0)))⟩] := Mem.put_num [] [] (hM.pick [0] rfl rfl) hAq7 _ hl_ _
                  generalize W.setCell (⟨q7, (I64 (x6_0 - 1) : Int).toNat, none⟩ : Addr) (.int .u8 (U8 (x0_0))) = W10 at hM ⊢
                  clear hc_ hf_ hl_ hA_ hcq7
                  refine RunF.go 10 [0, 5, 6] (k' := (pl Go.Proofs.Tryd.f56 [1, 0, 1, 1, 1])) (L' := [(0, .int .u64 (shr x0_0 8)), (5, .slice (some ⟨g2, 0, none⟩) ((a1 : Int).toNat) ((a1 : Int).toNat)), (6, .int .i64 (I64 (x6_0 - 1)))]) (w' := W10) (by kernel_rfl) ?_
                  exact ih0 k (by omega) (shr x0_0 8) (x5_0.set (I64 (x6_0 - 1) : Int).toNat (U8 (x0_0))) (I64 (x6_0 - 1)) _ (hM.pick [0] rfl rfl) h
                · replace h := of_false h c9
                  cases h
              · replace h := of_false h c8
                cases h
            · replace h := of_false h c6
              refine RunF.know 11 (b := false) (by kernel_rfl) c6 ?_
              refine RunF.go 7 [4] (k' := (pl Go.Proofs.Tryd.f56 [1, 0, 1, 1, 1, 1, 1])) (L' := [(4, .slice (some ⟨g2, 0, none⟩) ((a1 : Int).toNat) ((a1 : Int).toNat))]) (w' := W) (by kernel_rfl) ?_
              obtain rfl := Option.some.inj h
              exact RunF.ret1 4 (.slice (some ⟨g2, 0, none⟩) ((a1 : Int).toNat) ((a1 : Int).toNat)) (fn := Go.Proofs.Tryd.f56) Go.Proofs.Tryd.func56 (by kernel_rfl) (by kernel_rfl) (by kernel_rfl) ⟨_, rfl, (some ⟨g2, 0, none⟩), (a1 : Int).toNat, (a1 : Int).toNat, rfl, (hM.pick [0] rfl rfl)⟩
      exact l0 k (Nat.le_refl _) a0 (List.replicate ((a1 : Int).toNat) (0 : Int)) a1 _ (hM.pick [0] rfl rfl) h
    · replace h := of_false h c4
      cases h
  · replace h := of_false h c3
    cases h

/-! ### scrim/words.PutBe64: function 46 -/
def words_PutBe64.f (k : Nat) (a0 : Int) : Option (List Int) := (words_store.f k a0 8).bind fun t2 => (some t2)
set_option maxRecDepth 100000 in
theorem words_PutBe64.calls (k : Nat) (a0 : Int) (r : List Int) (w : World) (h : words_PutBe64.f k a0 = some r) :
    Calls Go.Proofs.Tryd.prog 46 #[.int .u64 a0] w (Ret fun v w' => ∃ A0' n0' c0', v = .slice A0' n0' c0' ∧ Mem w w' [⟨.slice A0' n0' c0', 5, 1, nums .u8 r⟩]) := by
  unfold words_PutBe64.f at h
  refine calls_of [.int .u64 a0] (fn := Go.Proofs.Tryd.f46) Go.Proofs.Tryd.func46 (by kernel_rfl) (by kernel_rfl) ?_
  have hM := Mem.refl w
  refine RunF.go 7 [3] (k' := (pin Go.Proofs.Tryd.f46 [1, 0] 1)) (L' := [(3, .int .u64 a0)]) (w' := w) (by kernel_rfl) ?_
  obtain ⟨t2, ht2, h⟩ := Option.bind_eq_some_iff.mp h
  refine RunF.call (d := some 4) (g := 56) (args := #[.int .u64 a0, .int .i64 8]) (k2 := (pin Go.Proofs.Tryd.f46 [1, 0] 2)) (by kernel_rfl) (words_store.calls k a0 8 t2 _ ht2) ?_
  rintro _ W1 ⟨A3, n4, c5, rfl, hM_⟩
  obtain rfl : t2.length = n4 := by have h_ := (hM_.rd 0 rfl).1; simpa [nums_length, bools_length, strs_length] using h_
  replace hM := hM.call hM_
  clear hM_ ht2
  refine RunF.go 2 [2] (k' := (pl Go.Proofs.Tryd.f46 [1, 1])) (L' := [(2, .slice A3 t2.length c5)]) (w' := W1) (by kernel_rfl) ?_
  obtain rfl := Option.some.inj h
  exact RunF.ret1 2 (.slice A3 t2.length c5) (fn := Go.Proofs.Tryd.f46) Go.Proofs.Tryd.func46 (by kernel_rfl) (by kernel_rfl) (by kernel_rfl) ⟨_, rfl, A3, t2.length, c5, rfl, (hM.pick [0] rfl rfl)⟩

/-! ### scrim/aria.three: function 35 -/
def aria_three.f (k : Nat)  : Option (List (List Int)) := (words_PutBe64.f k (rd (sub ([5871781006564002452, 18308165927316385504, 7904181063698728992, 18386141011142107824, 15821769039155751280, 226472410124699918] : List Int) 0 2) 0)).bind fun t13 => ((words_PutBe64.f k (rd (sub ([5871781006564002452, 18308165927316385504, 7904181063698728992, 18386141011142107824, 15821769039155751280, 226472410124699918] : List Int) 0 2) 1)).bind fun t19 => (if (decide (t13.length + t19.length ≤ 1000000000)) = true then ((words_PutBe64.f k (rd (sub ([5871781006564002452, 18308165927316385504, 7904181063698728992, 18386141011142107824, 15821769039155751280, 226472410124699918] : List Int) 1 2) 0)).bind fun t41 => ((words_PutBe64.f k (rd (sub ([5871781006564002452, 18308165927316385504, 7904181063698728992, 18386141011142107824, 15821769039155751280, 226472410124699918] : List Int) 1 2) 1)).bind fun t47 => (if (decide (t41.length + t47.length ≤ 1000000000)) = true then ((words_PutBe64.f k (rd (sub ([5871781006564002452, 18308165927316385504, 7904181063698728992, 18386141011142107824, 15821769039155751280, 226472410124699918] : List Int) 2 2) 0)).bind fun t69 => ((words_PutBe64.f k (rd (sub ([5871781006564002452, 18308165927316385504, 7904181063698728992, 18386141011142107824, 15821769039155751280, 226472410124699918] : List Int) 2 2) 1)).bind fun t75 => (if (decide (t69.length + t75.length ≤ 1000000000)) = true then (some ([(t13 ++ t19), (t41 ++ t47), (t69 ++ t75)] : List (List Int))) else (none)))) else (none)))) else (none)))
set_option maxRecDepth 100000 in
set_option maxHeartbeats 8000000 in
theorem aria_three.calls (k : Nat)  (r : List (List Int)) (w : World) (h : aria_three.f k = some r) :
    Calls Go.Proofs.Tryd.prog 35 #[] w (Ret fun v w' => ∃ (v0' : Value) (F0' : List Ent), v = v0' ∧ (rArr 3 (rNums .u8)) (Oks F0') v0' r ∧ Mem w w' (Gs [] [F0'])) := by
  unfold aria_three.f at h
  refine calls_of [] (fn := Go.Proofs.Tryd.f35) Go.Proofs.Tryd.func35 (by kernel_rfl) (by kernel_rfl) ?_
  have hM := Mem.refl w
  refine RunF.go 2 [] (k' := (pin Go.Proofs.Tryd.f35 [0] 0)) (L' := []) (w' := w) (by kernel_rfl) ?_
  refine RunF.newVar 64 ([.slice none 0 0, .slice none 0 0, .slice none 0 0]) (d := some 0) (k2 := (pin Go.Proofs.Tryd.f35 [0] 1)) hM (by kernel_rfl) ?_
  intro g1 W2 hM
  refine RunF.go 24 [0, 6, 7, 9] (k' := (pin Go.Proofs.Tryd.f35 [1, 0, 1, 0, 0, 1, 1, 0, 0, 0] 1)) (L' := [(0, .pointer (some ⟨g1, 0, none⟩)), (6, .agg (nums .u64 ([5871781006564002452, 18308165927316385504, 7904181063698728992, 18386141011142107824, 15821769039155751280, 226472410124699918] : List Int)).toArray), (7, .int .i64 0), (9, .int .i64 0)]) (w' := W2) (by kernel_rfl) ?_
  refine RunF.y (idxValS_y (d := some 10) (kd := .u64) (xs := ([5871781006564002452, 18308165927316385504, 7904181063698728992, 18386141011142107824, 15821769039155751280, 226472410124699918] : List Int)) (len := 3) (m := 2) (i := 0) (k2 := (pin Go.Proofs.Tryd.f35 [1, 0, 1, 0, 0, 1, 1, 0, 0, 0] 2)) (by kernel_rfl) (by omega) (by decide) rfl) trivial ?_
  refine RunF.newVar 74 (nums .u64 (List.replicate 2 (0 : Int))) (d := some 2) (k2 := (pin Go.Proofs.Tryd.f35 [1, 0, 1, 0, 0, 1, 1, 0, 0, 0] 3)) hM (by kernel_rfl) ?_
  intro g4 W5 hM
  refine RunF.go 1 [0, 1, 2, 6, 7, 10] (k' := (pin Go.Proofs.Tryd.f35 [1, 0, 1, 0, 0, 1, 1, 0, 0, 0] 4)) (L' := [(0, .pointer (some ⟨g1, 0, none⟩)), (1, .int .i64 0), (2, .pointer (some ⟨g4, 0, none⟩)), (6, .agg (nums .u64 ([5871781006564002452, 18308165927316385504, 7904181063698728992, 18386141011142107824, 15821769039155751280, 226472410124699918] : List Int)).toArray), (7, .int .i64 0), (10, .agg (nums .u64 (sub ([5871781006564002452, 18308165927316385504, 7904181063698728992, 18386141011142107824, 15821769039155751280, 226472410124699918] : List Int) 0 2)).toArray)]) (w' := W5) (by kernel_rfl) ?_
  refine RunF.doesU (stv_u (N := 2) (cells := (nums .u64 (sub ([5871781006564002452, 18308165927316385504, 7904181063698728992, 18386141011142107824, 15821769039155751280, 226472410124699918] : List Int) 0 2)).toArray) (old := (nums .u64 (List.replicate 2 (0 : Int))).toArray) (ty := 74) (k2 := (pin Go.Proofs.Tryd.f35 [1, 0, 1, 0, 0, 1, 1, 0, 0, 0] 5)) (by kernel_rfl) (by rw [List.size_toArray]; simp only [nums_length, bools_length, strs_length]; exact (sub_length (N := 3) (by omega) (by decide) rfl)) (hM.block 0 rfl) (by rw [List.size_toArray]; simp only [nums_length, bools_length, strs_length]; exact List.length_replicate) (all_nums _ _)) ?_
  replace hM : Mem w (W5.setRow g4 (nums .u64 (sub ([5871781006564002452, 18308165927316385504, 7904181063698728992, 18386141011142107824, 15821769039155751280, 226472410124699918] : List Int) 0 2)).toArray) [⟨.pointer (some ⟨g4, 0, none⟩), 74, 0, nums .u64 (sub ([5871781006564002452, 18308165927316385504, 7904181063698728992, 18386141011142107824, 15821769039155751280, 226472410124699918] : List Int) 0 2)⟩, ⟨.pointer (some ⟨g1, 0, none⟩), 64, 0, [.slice none 0 0, .slice none 0 0, .slice none 0 0]⟩] := Mem.setAll [] [⟨.pointer (some ⟨g1, 0, none⟩), 64, 0, [.slice none 0 0, .slice none 0 0, .slice none 0 0]⟩] (hM.pick [0, 1] rfl rfl)
  generalize W5.setRow g4 (nums .u64 (sub ([5871781006564002452, 18308165927316385504, 7904181063698728992, 18386141011142107824, 15821769039155751280, 226472410124699918] : List Int) 0 2)).toArray = W7 at hM ⊢
  refine RunF.go 1 [0, 1, 2, 6, 7] (k' := (pl Go.Proofs.Tryd.f35 [1, 0, 1, 0, 0, 1, 1, 0, 0, 1])) (L' := [(0, .pointer (some ⟨g1, 0, none⟩)), (1, .int .i64 0), (2, .pointer (some ⟨g4, 0, none⟩)), (6, .agg (nums .u64 ([5871781006564002452, 18308165927316385504, 7904181063698728992, 18386141011142107824, 15821769039155751280, 226472410124699918] : List Int)).toArray), (7, .int .i64 0)]) (w' := W7) (by kernel_rfl) ?_
  refine RunF.draw (Still ({ W7 with drawn := W7.drawn + 1 } : World) [.pointer (some ⟨g1, 0, none⟩)]) (by kernel_rfl) (by kernel_rfl) ?_
  have hMd9 := hM.drew
  have hS := Still.refl ({ W7 with drawn := W7.drawn + 1 } : World) [.pointer (some ⟨g1, 0, none⟩)]
  generalize ({ W7 with drawn := W7.drawn + 1 } : World) = W8 at hMd9 hS ⊢
  replace hM := hMd9
  refine RunAny.y 0 (by kernel_rfl) (yl_pure (d := some 11) (v := .int .i64 0) (k2 := [.inRegion (opsOf (pl Go.Proofs.Tryd.f35 [1, 0, 1, 0, 0, 1, 1, 0, 0, 1])) []]) fun w => by kernel_rfl) (fun _ _ => trivial) hS ?_
  obtain ⟨hcq10, hfq10, hlq10⟩ := hM.arr_num 0 rfl (i := 0) (by omega) (N := 2) (sub_length (N := 3) (by omega) (by decide) rfl) (by decide)
  refine RunAny.y 1 (by kernel_rfl) (idxArr_own (d := some 12) (g := g4) (len := 2) (i := 0) (k2 := [.inRegion (opsOf (pl Go.Proofs.Tryd.f35 [1, 0, 1, 0, 0, 1, 1, 0, 0, 1])) []]) (by kernel_rfl) (by omega) (by decide)) (fun _ _ => trivial) hS ?_
  refine RunAny.y 2 (by kernel_rfl) (ld_y (d := some 13) (p := ⟨g4, (0 : Int).toNat, none⟩) (k2 := [.inRegion (opsOf (pl Go.Proofs.Tryd.f35 [1, 0, 1, 0, 0, 1, 1, 0, 0, 1])) []]) (.int .u64 (rd (sub ([5871781006564002452, 18308165927316385504, 7904181063698728992, 18386141011142107824, 15821769039155751280, 226472410124699918] : List Int) 0 2) 0)) (by kernel_rfl)) (fun _ hs => hs.cell hcq10 (by intro v hv; simp only [List.mem_cons, List.not_mem_nil, or_false] at hv; rcases hv with rfl; exact (hM.ne 0 1 rfl rfl rfl rfl))) hS ?_
  obtain ⟨hcq11, hfq11, hlq11⟩ := hM.arr_num 0 rfl (i := 1) (by omega) (N := 2) (sub_length (N := 3) (by omega) (by decide) rfl) (by decide)
  refine RunAny.y 4 (by kernel_rfl) (idxArr_own (d := some 15) (g := g4) (len := 2) (i := 1) (k2 := [.inRegion (opsOf (pl Go.Proofs.Tryd.f35 [1, 0, 1, 0, 0, 1, 1, 0, 0, 1])) []]) (by kernel_rfl) (by omega) (by decide)) (fun _ _ => trivial) hS ?_
  refine RunAny.y 5 (by kernel_rfl) (ld_y (d := some 16) (p := ⟨g4, (1 : Int).toNat, none⟩) (k2 := [.inRegion (opsOf (pl Go.Proofs.Tryd.f35 [1, 0, 1, 0, 0, 1, 1, 0, 0, 1])) []]) (.int .u64 (rd (sub ([5871781006564002452, 18308165927316385504, 7904181063698728992, 18386141011142107824, 15821769039155751280, 226472410124699918] : List Int) 0 2) 1)) (by kernel_rfl)) (fun _ hs => hs.cell hcq11 (by intro v hv; simp only [List.mem_cons, List.not_mem_nil, or_false] at hv; rcases hv with rfl; exact (hM.ne 0 1 rfl rfl rfl rfl))) hS ?_
  obtain ⟨t13, ht13, h⟩ := Option.bind_eq_some_iff.mp h
  refine RunAny.call 3 (d := some 14) (g := 46) (args := #[.int .u64 (rd (sub ([5871781006564002452, 18308165927316385504, 7904181063698728992, 18386141011142107824, 15821769039155751280, 226472410124699918] : List Int) 0 2) 0)]) (by kernel_rfl) (by kernel_rfl) (words_PutBe64.calls k (rd (sub ([5871781006564002452, 18308165927316385504, 7904181063698728992, 18386141011142107824, 15821769039155751280, 226472410124699918] : List Int) 0 2) 0) t13 _ ht13) (by rintro _ _ ⟨_, _, _, rfl, hM_⟩; exact hS.below hM_.below) ?_
  rintro _ W12 ⟨A14, n15, c16, rfl, hM_⟩
  obtain rfl : t13.length = n15 := by have h_ := (hM_.rd 0 rfl).1; simpa [nums_length, bools_length, strs_length] using h_
  have hNew_ := (hM_.ok _ (List.mem_of_getElem? (i := 0) rfl)).2
  replace hS := hS.below hM_.below
  replace hM := hM.call hM_
  clear hM_ ht13
  refine RunAny.rebase2 (G2 := [.slice A14 t13.length c16, .pointer (some ⟨g1, 0, none⟩)]) hS (by intro v_ hv_; simp only [List.mem_cons, List.not_mem_nil, or_false] at hv_; rcases hv_ with rfl | hv_; exact .inr (fun b_ hb_ => hNew_ b_ hb_); exact .inl (by simpa using hv_)) ?_
  replace hS := Still.refl W12 [.slice A14 t13.length c16, .pointer (some ⟨g1, 0, none⟩)]
  obtain ⟨t19, ht19, h⟩ := Option.bind_eq_some_iff.mp h
  refine RunAny.call 6 (d := some 17) (g := 46) (args := #[.int .u64 (rd (sub ([5871781006564002452, 18308165927316385504, 7904181063698728992, 18386141011142107824, 15821769039155751280, 226472410124699918] : List Int) 0 2) 1)]) (by kernel_rfl) (by kernel_rfl) (words_PutBe64.calls k (rd (sub ([5871781006564002452, 18308165927316385504, 7904181063698728992, 18386141011142107824, 15821769039155751280, 226472410124699918] : List Int) 0 2) 1) t19 _ ht19) (by rintro _ _ ⟨_, _, _, rfl, hM_⟩; exact hS.below hM_.below) ?_
  rintro _ W18 ⟨A20, n21, c22, rfl, hM_⟩
  obtain rfl : t19.length = n21 := by have h_ := (hM_.rd 0 rfl).1; simpa [nums_length, bools_length, strs_length] using h_
  replace hS := hS.below hM_.below
  replace hM := hM.call hM_
  clear hM_ ht19
  refine RunAny.rebase hS ?_
  replace hS := Still.refl W18 [.slice A14 t13.length c16, .pointer (some ⟨g1, 0, none⟩)]
  rcases two (decide (t13.length + t19.length ≤ 1000000000)) with c28 | c28
  · replace h := of_true h c28
    have h_ := of_decide_eq_true c28
    obtain ⟨A24, n25, c26, W27, hD, hM', hS_⟩ := app_does (P := Go.Proofs.Tryd.prog) (n := 22) (k := (one (opsOf (pl Go.Proofs.Tryd.f35 [1, 0, 1, 0, 0, 1, 1, 0, 0, 1])) 7)) (L := (upd (upd (upd (upd (upd (upd (upd [(0, .pointer (some ⟨g1, 0, none⟩)), (1, .int .i64 0), (2, .pointer (some ⟨g4, 0, none⟩)), (6, .agg (nums .u64 ([5871781006564002452, 18308165927316385504, 7904181063698728992, 18386141011142107824, 15821769039155751280, 226472410124699918] : List Int)).toArray), (7, .int .i64 0)] (some 11) (.int .i64 0)) (some 12) (.pointer (some ⟨g4, (0 : Int).toNat, none⟩))) (some 13) (.int .u64 (rd (sub ([5871781006564002452, 18308165927316385504, 7904181063698728992, 18386141011142107824, 15821769039155751280, 226472410124699918] : List Int) 0 2) 0))) (some 15) (.pointer (some ⟨g4, (1 : Int).toNat, none⟩))) (some 16) (.int .u64 (rd (sub ([5871781006564002452, 18308165927316385504, 7904181063698728992, 18386141011142107824, 15821769039155751280, 226472410124699918] : List Int) 0 2) 1))) (some 14) (.slice A14 t13.length c16)) (some 17) (.slice A20 t19.length c22))) (d := some 18) (e := 5) (A := A14) (m := t13.length) (c := c16) (A2 := A20) (m2 := t19.length) (c2 := c22) (cs := nums .u8 t13) (ys := nums .u8 t19) (k2 := [.inRegion (opsOf (pl Go.Proofs.Tryd.f35 [1, 0, 1, 0, 0, 1, 1, 0, 0, 1])) []]) [⟨.slice A20 t19.length c22, 5, 1, nums .u8 t19⟩] [⟨.pointer (some ⟨g4, 0, none⟩), 74, 0, nums .u64 (sub ([5871781006564002452, 18308165927316385504, 7904181063698728992, 18386141011142107824, 15821769039155751280, 226472410124699918] : List Int) 0 2)⟩, ⟨.pointer (some ⟨g1, 0, none⟩), 64, 0, [.slice none 0 0, .slice none 0 0, .slice none 0 0]⟩] (by kernel_rfl) (hM.pick [0, 1, 2, 3] rfl rfl) (hM.rd 0 rfl) (one_nums _ _) (by omega)
    rw [nums_append] at hM'
    replace hM := hM'; clear h_ hM'
    obtain rfl : (t13 ++ t19).length = n25 := by have h_ := (hM.rd 1 rfl).1; simpa only [nums_length, bools_length, strs_length] using h_
    refine RunAny.does 7 (by kernel_rfl) hD (hS.app hS_ (by simp)) ?_
    clear hD
    replace hS := (hS.app hS_ (by simp)); clear hS_
    refine RunAny.rebase hS ?_
    replace hS := Still.refl W27 [.slice A14 t13.length c16, .pointer (some ⟨g1, 0, none⟩)]
    obtain ⟨hcq30, hfq30⟩ := hM.var_at 3 rfl (i := (0 : Int).toNat) (u := .slice none 0 0) rfl
    refine RunAny.y 8 (by kernel_rfl) (idxArr_own (d := some 19) (g := g1) (len := 3) (i := 0) (k2 := [.inRegion (opsOf (pl Go.Proofs.Tryd.f35 [1, 0, 1, 0, 0, 1, 1, 0, 0, 1])) []]) (by kernel_rfl) (by decide) (by decide)) (fun _ _ => trivial) hS ?_
    obtain ⟨hc_, hf_⟩ := hM.var_at 3 rfl (i := (0 : Int).toNat) (u := .slice none 0 0) rfl
    have hS' := hS.set (v := .pointer (some ⟨g1, 0, none⟩)) (g := g1) (i := (0 : Int).toNat) (by simp) rfl (.slice A24 ((t13 ++ t19).length) c26)
    refine RunAny.doesU 9 (by kernel_rfl) (st_u (p := (⟨g1, (0 : Int).toNat, none⟩ : Addr)) (v := .slice A24 ((t13 ++ t19).length) c26) (k2 := [.inRegion (opsOf (pl Go.Proofs.Tryd.f35 [1, 0, 1, 0, 0, 1, 1, 0, 0, 1])) []]) (by kernel_rfl) hc_ hf_) hS' ?_
    replace hM : Mem w (W27.setCell (⟨g1, (0 : Int).toNat, none⟩ : Addr) (.slice A24 ((t13 ++ t19).length) c26)) [⟨.slice A20 t19.length c22, 5, 1, nums .u8 t19⟩, ⟨.slice A24 ((t13 ++ t19).length) c26, 5, 1, nums .u8 (t13 ++ t19)⟩, ⟨.pointer (some ⟨g4, 0, none⟩), 74, 0, nums .u64 (sub ([5871781006564002452, 18308165927316385504, 7904181063698728992, 18386141011142107824, 15821769039155751280, 226472410124699918] : List Int) 0 2)⟩, ⟨.pointer (some ⟨g1, 0, none⟩), 64, 0, [.slice A24 ((t13 ++ t19).length) c26, .slice none 0 0, .slice none 0 0]⟩] := Mem.set [⟨.slice A20 t19.length c22, 5, 1, nums .u8 t19⟩, ⟨.slice A24 ((t13 ++ t19).length) c26, 5, 1, nums .u8 (t13 ++ t19)⟩, ⟨.pointer (some ⟨g4, 0, none⟩), 74, 0, nums .u64 (sub ([5871781006564002452, 18308165927316385504, 7904181063698728992, 18386141011142107824, 15821769039155751280, 226472410124699918] : List Int) 0 2)⟩] [] (e := ⟨.pointer (some ⟨g1, 0, none⟩), 64, 0, [.slice none 0 0, .slice none 0 0, .slice none 0 0]⟩) (hM.pick [0, 1, 2, 3] rfl rfl) rfl _ (by show (0 : Int).toNat < 3; decide) _
    generalize W27.setCell (⟨g1, (0 : Int).toNat, none⟩ : Addr) (.slice A24 ((t13 ++ t19).length) c26) = W31 at hM hS' ⊢
    clear hc_ hf_ hcq30 hfq30
    replace hS := hS'
    refine RunAny.rebase hS ?_
    replace hS := Still.refl W31 [.slice A14 t13.length c16, .pointer (some ⟨g1, 0, none⟩)]
    refine RunAny.done (by kernel_rfl) ?_
    clear hS
    refine RunF.go 18 [0, 6, 7, 9] (k' := (pin Go.Proofs.Tryd.f35 [1, 0, 1, 0, 0, 1, 1, 0, 0, 0] 1)) (L' := [(0, .pointer (some ⟨g1, 0, none⟩)), (6, .agg (nums .u64 ([5871781006564002452, 18308165927316385504, 7904181063698728992, 18386141011142107824, 15821769039155751280, 226472410124699918] : List Int)).toArray), (7, .int .i64 1), (9, .int .i64 1)]) (w' := W31) (by kernel_rfl) ?_
    refine RunF.y (idxValS_y (d := some 10) (kd := .u64) (xs := ([5871781006564002452, 18308165927316385504, 7904181063698728992, 18386141011142107824, 15821769039155751280, 226472410124699918] : List Int)) (len := 3) (m := 2) (i := 1) (k2 := (pin Go.Proofs.Tryd.f35 [1, 0, 1, 0, 0, 1, 1, 0, 0, 0] 2)) (by kernel_rfl) (by omega) (by decide) rfl) trivial ?_
    refine RunF.newVar 74 (nums .u64 (List.replicate 2 (0 : Int))) (d := some 2) (k2 := (pin Go.Proofs.Tryd.f35 [1, 0, 1, 0, 0, 1, 1, 0, 0, 0] 3)) hM (by kernel_rfl) ?_
    intro g32 W33 hM
    refine RunF.go 1 [0, 1, 2, 6, 7, 10] (k' := (pin Go.Proofs.Tryd.f35 [1, 0, 1, 0, 0, 1, 1, 0, 0, 0] 4)) (L' := [(0, .pointer (some ⟨g1, 0, none⟩)), (1, .int .i64 1), (2, .pointer (some ⟨g32, 0, none⟩)), (6, .agg (nums .u64 ([5871781006564002452, 18308165927316385504, 7904181063698728992, 18386141011142107824, 15821769039155751280, 226472410124699918] : List Int)).toArray), (7, .int .i64 1), (10, .agg (nums .u64 (sub ([5871781006564002452, 18308165927316385504, 7904181063698728992, 18386141011142107824, 15821769039155751280, 226472410124699918] : List Int) 1 2)).toArray)]) (w' := W33) (by kernel_rfl) ?_
    refine RunF.doesU (stv_u (N := 2) (cells := (nums .u64 (sub ([5871781006564002452, 18308165927316385504, 7904181063698728992, 18386141011142107824, 15821769039155751280, 226472410124699918] : List Int) 1 2)).toArray) (old := (nums .u64 (List.replicate 2 (0 : Int))).toArray) (ty := 74) (k2 := (pin Go.Proofs.Tryd.f35 [1, 0, 1, 0, 0, 1, 1, 0, 0, 0] 5)) (by kernel_rfl) (by rw [List.size_toArray]; simp only [nums_length, bools_length, strs_length]; exact (sub_length (N := 3) (by omega) (by decide) rfl)) (hM.block 0 rfl) (by rw [List.size_toArray]; simp only [nums_length, bools_length, strs_length]; exact List.length_replicate) (all_nums _ _)) ?_
    replace hM : Mem w (W33.setRow g32 (nums .u64 (sub ([5871781006564002452, 18308165927316385504, 7904181063698728992, 18386141011142107824, 15821769039155751280, 226472410124699918] : List Int) 1 2)).toArray) [⟨.pointer (some ⟨g32, 0, none⟩), 74, 0, nums .u64 (sub ([5871781006564002452, 18308165927316385504, 7904181063698728992, 18386141011142107824, 15821769039155751280, 226472410124699918] : List Int) 1 2)⟩, ⟨.slice A20 t19.length c22, 5, 1, nums .u8 t19⟩, ⟨.slice A24 ((t13 ++ t19).length) c26, 5, 1, nums .u8 (t13 ++ t19)⟩, ⟨.pointer (some ⟨g4, 0, none⟩), 74, 0, nums .u64 (sub ([5871781006564002452, 18308165927316385504, 7904181063698728992, 18386141011142107824, 15821769039155751280, 226472410124699918] : List Int) 0 2)⟩, ⟨.pointer (some ⟨g1, 0, none⟩), 64, 0, [.slice A24 ((t13 ++ t19).length) c26, .slice none 0 0, .slice none 0 0]⟩] := Mem.setAll [] [⟨.slice A20 t19.length c22, 5, 1, nums .u8 t19⟩, ⟨.slice A24 ((t13 ++ t19).length) c26, 5, 1, nums .u8 (t13 ++ t19)⟩, ⟨.pointer (some ⟨g4, 0, none⟩), 74, 0, nums .u64 (sub ([5871781006564002452, 18308165927316385504, 7904181063698728992, 18386141011142107824, 15821769039155751280, 226472410124699918] : List Int) 0 2)⟩, ⟨.pointer (some ⟨g1, 0, none⟩), 64, 0, [.slice A24 ((t13 ++ t19).length) c26, .slice none 0 0, .slice none 0 0]⟩] (hM.pick [0, 1, 2, 3, 4] rfl rfl)
    generalize W33.setRow g32 (nums .u64 (sub ([5871781006564002452, 18308165927316385504, 7904181063698728992, 18386141011142107824, 15821769039155751280, 226472410124699918] : List Int) 1 2)).toArray = W35 at hM ⊢
    refine RunF.go 1 [0, 1, 2, 6, 7] (k' := (pl Go.Proofs.Tryd.f35 [1, 0, 1, 0, 0, 1, 1, 0, 0, 1])) (L' := [(0, .pointer (some ⟨g1, 0, none⟩)), (1, .int .i64 1), (2, .pointer (some ⟨g32, 0, none⟩)), (6, .agg (nums .u64 ([5871781006564002452, 18308165927316385504, 7904181063698728992, 18386141011142107824, 15821769039155751280, 226472410124699918] : List Int)).toArray), (7, .int .i64 1)]) (w' := W35) (by kernel_rfl) ?_
    refine RunF.draw (Still ({ W35 with drawn := W35.drawn + 1 } : World) [.pointer (some ⟨g1, 0, none⟩)]) (by kernel_rfl) (by kernel_rfl) ?_
    have hMd37 := hM.drew
    have hS := Still.refl ({ W35 with drawn := W35.drawn + 1 } : World) [.pointer (some ⟨g1, 0, none⟩)]
    generalize ({ W35 with drawn := W35.drawn + 1 } : World) = W36 at hMd37 hS ⊢
    replace hM := hMd37
    refine RunAny.y 0 (by kernel_rfl) (yl_pure (d := some 11) (v := .int .i64 1) (k2 := [.inRegion (opsOf (pl Go.Proofs.Tryd.f35 [1, 0, 1, 0, 0, 1, 1, 0, 0, 1])) []]) fun w => by kernel_rfl) (fun _ _ => trivial) hS ?_
    obtain ⟨hcq38, hfq38, hlq38⟩ := hM.arr_num 0 rfl (i := 0) (by omega) (N := 2) (sub_length (N := 3) (by omega) (by decide) rfl) (by decide)
    refine RunAny.y 1 (by kernel_rfl) (idxArr_own (d := some 12) (g := g32) (len := 2) (i := 0) (k2 := [.inRegion (opsOf (pl Go.Proofs.Tryd.f35 [1, 0, 1, 0, 0, 1, 1, 0, 0, 1])) []]) (by kernel_rfl) (by omega) (by decide)) (fun _ _ => trivial) hS ?_
    refine RunAny.y 2 (by kernel_rfl) (ld_y (d := some 13) (p := ⟨g32, (0 : Int).toNat, none⟩) (k2 := [.inRegion (opsOf (pl Go.Proofs.Tryd.f35 [1, 0, 1, 0, 0, 1, 1, 0, 0, 1])) []]) (.int .u64 (rd (sub ([5871781006564002452, 18308165927316385504, 7904181063698728992, 18386141011142107824, 15821769039155751280, 226472410124699918] : List Int) 1 2) 0)) (by kernel_rfl)) (fun _ hs => hs.cell hcq38 (by intro v hv; simp only [List.mem_cons, List.not_mem_nil, or_false] at hv; rcases hv with rfl; exact (hM.ne 0 4 rfl rfl rfl rfl))) hS ?_
    obtain ⟨hcq39, hfq39, hlq39⟩ := hM.arr_num 0 rfl (i := 1) (by omega) (N := 2) (sub_length (N := 3) (by omega) (by decide) rfl) (by decide)
    refine RunAny.y 4 (by kernel_rfl) (idxArr_own (d := some 15) (g := g32) (len := 2) (i := 1) (k2 := [.inRegion (opsOf (pl Go.Proofs.Tryd.f35 [1, 0, 1, 0, 0, 1, 1, 0, 0, 1])) []]) (by kernel_rfl) (by omega) (by decide)) (fun _ _ => trivial) hS ?_
    refine RunAny.y 5 (by kernel_rfl) (ld_y (d := some 16) (p := ⟨g32, (1 : Int).toNat, none⟩) (k2 := [.inRegion (opsOf (pl Go.Proofs.Tryd.f35 [1, 0, 1, 0, 0, 1, 1, 0, 0, 1])) []]) (.int .u64 (rd (sub ([5871781006564002452, 18308165927316385504, 7904181063698728992, 18386141011142107824, 15821769039155751280, 226472410124699918] : List Int) 1 2) 1)) (by kernel_rfl)) (fun _ hs => hs.cell hcq39 (by intro v hv; simp only [List.mem_cons, List.not_mem_nil, or_false] at hv; rcases hv with rfl; exact (hM.ne 0 4 rfl rfl rfl rfl))) hS ?_
    obtain ⟨t41, ht41, h⟩ := Option.bind_eq_some_iff.mp h
    refine RunAny.call 3 (d := some 14) (g := 46) (args := #[.int .u64 (rd (sub ([5871781006564002452, 18308165927316385504, 7904181063698728992, 18386141011142107824, 15821769039155751280, 226472410124699918] : List Int) 1 2) 0)]) (by kernel_rfl) (by kernel_rfl) (words_PutBe64.calls k (rd (sub ([5871781006564002452, 18308165927316385504, 7904181063698728992, 18386141011142107824, 15821769039155751280, 226472410124699918] : List Int) 1 2) 0) t41 _ ht41) (by rintro _ _ ⟨_, _, _, rfl, hM_⟩; exact hS.below hM_.below) ?_
    rintro _ W40 ⟨A42, n43, c44, rfl, hM_⟩
    obtain rfl : t41.length = n43 := by have h_ := (hM_.rd 0 rfl).1; simpa [nums_length, bools_length, strs_length] using h_
    have hNew_ := (hM_.ok _ (List.mem_of_getElem? (i := 0) rfl)).2
    replace hS := hS.below hM_.below
    replace hM := hM.call hM_
    clear hM_ ht41
    refine RunAny.rebase2 (G2 := [.slice A42 t41.length c44, .pointer (some ⟨g1, 0, none⟩)]) hS (by intro v_ hv_; simp only [List.mem_cons, List.not_mem_nil, or_false] at hv_; rcases hv_ with rfl | hv_; exact .inr (fun b_ hb_ => hNew_ b_ hb_); exact .inl (by simpa using hv_)) ?_
    replace hS := Still.refl W40 [.slice A42 t41.length c44, .pointer (some ⟨g1, 0, none⟩)]
    obtain ⟨t47, ht47, h⟩ := Option.bind_eq_some_iff.mp h
    refine RunAny.call 6 (d := some 17) (g := 46) (args := #[.int .u64 (rd (sub ([5871781006564002452, 18308165927316385504, 7904181063698728992, 18386141011142107824, 15821769039155751280, 226472410124699918] : List Int) 1 2) 1)]) (by kernel_rfl) (by kernel_rfl) (words_PutBe64.calls k (rd (sub ([5871781006564002452, 18308165927316385504, 7904181063698728992, 18386141011142107824, 15821769039155751280, 226472410124699918] : List Int) 1 2) 1) t47 _ ht47) (by rintro _ _ ⟨_, _, _, rfl, hM_⟩; exact hS.below hM_.below) ?_
    rintro _ W46 ⟨A48, n49, c50, rfl, hM_⟩
    obtain rfl : t47.length = n49 := by have h_ := (hM_.rd 0 rfl).1; simpa [nums_length, bools_length, strs_length] using h_
    replace hS := hS.below hM_.below
    replace hM := hM.call hM_
    clear hM_ ht47
    refine RunAny.rebase hS ?_
    replace hS := Still.refl W46 [.slice A42 t41.length c44, .pointer (some ⟨g1, 0, none⟩)]
    rcases two (decide (t41.length + t47.length ≤ 1000000000)) with c56 | c56
    · replace h := of_true h c56
      have h_ := of_decide_eq_true c56
      obtain ⟨A52, n53, c54, W55, hD, hM', hS_⟩ := app_does (P := Go.Proofs.Tryd.prog) (n := 22) (k := (one (opsOf (pl Go.Proofs.Tryd.f35 [1, 0, 1, 0, 0, 1, 1, 0, 0, 1])) 7)) (L := (upd (upd (upd (upd (upd (upd (upd [(0, .pointer (some ⟨g1, 0, none⟩)), (1, .int .i64 1), (2, .pointer (some ⟨g32, 0, none⟩)), (6, .agg (nums .u64 ([5871781006564002452, 18308165927316385504, 7904181063698728992, 18386141011142107824, 15821769039155751280, 226472410124699918] : List Int)).toArray), (7, .int .i64 1)] (some 11) (.int .i64 1)) (some 12) (.pointer (some ⟨g32, (0 : Int).toNat, none⟩))) (some 13) (.int .u64 (rd (sub ([5871781006564002452, 18308165927316385504, 7904181063698728992, 18386141011142107824, 15821769039155751280, 226472410124699918] : List Int) 1 2) 0))) (some 15) (.pointer (some ⟨g32, (1 : Int).toNat, none⟩))) (some 16) (.int .u64 (rd (sub ([5871781006564002452, 18308165927316385504, 7904181063698728992, 18386141011142107824, 15821769039155751280, 226472410124699918] : List Int) 1 2) 1))) (some 14) (.slice A42 t41.length c44)) (some 17) (.slice A48 t47.length c50))) (d := some 18) (e := 5) (A := A42) (m := t41.length) (c := c44) (A2 := A48) (m2 := t47.length) (c2 := c50) (cs := nums .u8 t41) (ys := nums .u8 t47) (k2 := [.inRegion (opsOf (pl Go.Proofs.Tryd.f35 [1, 0, 1, 0, 0, 1, 1, 0, 0, 1])) []]) [⟨.slice A48 t47.length c50, 5, 1, nums .u8 t47⟩] [⟨.pointer (some ⟨g32, 0, none⟩), 74, 0, nums .u64 (sub ([5871781006564002452, 18308165927316385504, 7904181063698728992, 18386141011142107824, 15821769039155751280, 226472410124699918] : List Int) 1 2)⟩, ⟨.slice A20 t19.length c22, 5, 1, nums .u8 t19⟩, ⟨.slice A24 ((t13 ++ t19).length) c26, 5, 1, nums .u8 (t13 ++ t19)⟩, ⟨.pointer (some ⟨g4, 0, none⟩), 74, 0, nums .u64 (sub ([5871781006564002452, 18308165927316385504, 7904181063698728992, 18386141011142107824, 15821769039155751280, 226472410124699918] : List Int) 0 2)⟩, ⟨.pointer (some ⟨g1, 0, none⟩), 64, 0, [.slice A24 ((t13 ++ t19).length) c26, .slice none 0 0, .slice none 0 0]⟩] (by kernel_rfl) (hM.pick [0, 1, 2, 3, 4, 5, 6] rfl rfl) (hM.rd 0 rfl) (one_nums _ _) (by omega)
      rw [nums_append] at hM'
      replace hM := hM'; clear h_ hM'
      obtain rfl : (t41 ++ t47).length = n53 := by have h_ := (hM.rd 1 rfl).1; simpa only [nums_length, bools_length, strs_length] using h_
      refine RunAny.does 7 (by kernel_rfl) hD (hS.app hS_ (by simp)) ?_
      clear hD
      replace hS := (hS.app hS_ (by simp)); clear hS_
      refine RunAny.rebase hS ?_
      replace hS := Still.refl W55 [.slice A42 t41.length c44, .pointer (some ⟨g1, 0, none⟩)]
      obtain ⟨hcq58, hfq58⟩ := hM.var_at 6 rfl (i := (1 : Int).toNat) (u := .slice none 0 0) rfl
      refine RunAny.y 8 (by kernel_rfl) (idxArr_own (d := some 19) (g := g1) (len := 3) (i := 1) (k2 := [.inRegion (opsOf (pl Go.Proofs.Tryd.f35 [1, 0, 1, 0, 0, 1, 1, 0, 0, 1])) []]) (by kernel_rfl) (by decide) (by decide)) (fun _ _ => trivial) hS ?_
      obtain ⟨hc_, hf_⟩ := hM.var_at 6 rfl (i := (1 : Int).toNat) (u := .slice none 0 0) rfl
      have hS' := hS.set (v := .pointer (some ⟨g1, 0, none⟩)) (g := g1) (i := (1 : Int).toNat) (by simp) rfl (.slice A52 ((t41 ++ t47).length) c54)
      refine RunAny.doesU 9 (by kernel_rfl) (st_u (p := (⟨g1, (1 : Int).toNat, none⟩ : Addr)) (v := .slice A52 ((t41 ++ t47).length) c54) (k2 := [.inRegion (opsOf (pl Go.Proofs.Tryd.f35 [1, 0, 1, 0, 0, 1, 1, 0, 0, 1])) []]) (by kernel_rfl) hc_ hf_) hS' ?_
      replace hM : Mem w (W55.setCell (⟨g1, (1 : Int).toNat, none⟩ : Addr) (.slice A52 ((t41 ++ t47).length) c54)) [⟨.slice A48 t47.length c50, 5, 1, nums .u8 t47⟩, ⟨.slice A52 ((t41 ++ t47).length) c54, 5, 1, nums .u8 (t41 ++ t47)⟩, ⟨.pointer (some ⟨g32, 0, none⟩), 74, 0, nums .u64 (sub ([5871781006564002452, 18308165927316385504, 7904181063698728992, 18386141011142107824, 15821769039155751280, 226472410124699918] : List Int) 1 2)⟩, ⟨.slice A20 t19.length c22, 5, 1, nums .u8 t19⟩, ⟨.slice A24 ((t13 ++ t19).length) c26, 5, 1, nums .u8 (t13 ++ t19)⟩, ⟨.pointer (some ⟨g4, 0, none⟩), 74, 0, nums .u64 (sub ([5871781006564002452, 18308165927316385504, 7904181063698728992, 18386141011142107824, 15821769039155751280, 226472410124699918] : List Int) 0 2)⟩, ⟨.pointer (some ⟨g1, 0, none⟩), 64, 0, [.slice A24 ((t13 ++ t19).length) c26, .slice A52 ((t41 ++ t47).length) c54, .slice none 0 0]⟩] := Mem.set [⟨.slice A48 t47.length c50, 5, 1, nums .u8 t47⟩, ⟨.slice A52 ((t41 ++ t47).length) c54, 5, 1, nums .u8 (t41 ++ t47)⟩, ⟨.pointer (some ⟨g32, 0, none⟩), 74, 0, nums .u64 (sub ([5871781006564002452, 18308165927316385504, 7904181063698728992, 18386141011142107824, 15821769039155751280, 226472410124699918] : List Int) 1 2)⟩, ⟨.slice A20 t19.length c22, 5, 1, nums .u8 t19⟩, ⟨.slice A24 ((t13 ++ t19).length) c26, 5, 1, nums .u8 (t13 ++ t19)⟩, ⟨.pointer (some ⟨g4, 0, none⟩), 74, 0, nums .u64 (sub ([5871781006564002452, 18308165927316385504, 7904181063698728992, 18386141011142107824, 15821769039155751280, 226472410124699918] : List Int) 0 2)⟩] [] (e := ⟨.pointer (some ⟨g1, 0, none⟩), 64, 0, [.slice A24 ((t13 ++ t19).length) c26, .slice none 0 0, .slice none 0 0]⟩) (hM.pick [0, 1, 2, 3, 4, 5, 6] rfl rfl) rfl _ (by show (1 : Int).toNat < 3; decide) _
      generalize W55.setCell (⟨g1, (1 : Int).toNat, none⟩ : Addr) (.slice A52 ((t41 ++ t47).length) c54) = W59 at hM hS' ⊢
      clear hc_ hf_ hcq58 hfq58
      replace hS := hS'
      refine RunAny.rebase hS ?_
      replace hS := Still.refl W59 [.slice A42 t41.length c44, .pointer (some ⟨g1, 0, none⟩)]
      refine RunAny.done (by kernel_rfl) ?_
      clear hS
      refine RunF.go 18 [0, 6, 7, 9] (k' := (pin Go.Proofs.Tryd.f35 [1, 0, 1, 0, 0, 1, 1, 0, 0, 0] 1)) (L' := [(0, .pointer (some ⟨g1, 0, none⟩)), (6, .agg (nums .u64 ([5871781006564002452, 18308165927316385504, 7904181063698728992, 18386141011142107824, 15821769039155751280, 226472410124699918] : List Int)).toArray), (7, .int .i64 2), (9, .int .i64 2)]) (w' := W59) (by kernel_rfl) ?_
      refine RunF.y (idxValS_y (d := some 10) (kd := .u64) (xs := ([5871781006564002452, 18308165927316385504, 7904181063698728992, 18386141011142107824, 15821769039155751280, 226472410124699918] : List Int)) (len := 3) (m := 2) (i := 2) (k2 := (pin Go.Proofs.Tryd.f35 [1, 0, 1, 0, 0, 1, 1, 0, 0, 0] 2)) (by kernel_rfl) (by omega) (by decide) rfl) trivial ?_
      refine RunF.newVar 74 (nums .u64 (List.replicate 2 (0 : Int))) (d := some 2) (k2 := (pin Go.Proofs.Tryd.f35 [1, 0, 1, 0, 0, 1, 1, 0, 0, 0] 3)) hM (by kernel_rfl) ?_
      intro g60 W61 hM
      refine RunF.go 1 [0, 1, 2, 6, 7, 10] (k' := (pin Go.Proofs.Tryd.f35 [1, 0, 1, 0, 0, 1, 1, 0, 0, 0] 4)) (L' := [(0, .pointer (some ⟨g1, 0, none⟩)), (1, .int .i64 2), (2, .pointer (some ⟨g60, 0, none⟩)), (6, .agg (nums .u64 ([5871781006564002452, 18308165927316385504, 7904181063698728992, 18386141011142107824, 15821769039155751280, 226472410124699918] : List Int)).toArray), (7, .int .i64 2), (10, .agg (nums .u64 (sub ([5871781006564002452, 18308165927316385504, 7904181063698728992, 18386141011142107824, 15821769039155751280, 226472410124699918] : List Int) 2 2)).toArray)]) (w' := W61) (by kernel_rfl) ?_
      refine RunF.doesU (stv_u (N := 2) (cells := (nums .u64 (sub ([5871781006564002452, 18308165927316385504, 7904181063698728992, 18386141011142107824, 15821769039155751280, 226472410124699918] : List Int) 2 2)).toArray) (old := (nums .u64 (List.replicate 2 (0 : Int))).toArray) (ty := 74) (k2 := (pin Go.Proofs.Tryd.f35 [1, 0, 1, 0, 0, 1, 1, 0, 0, 0] 5)) (by kernel_rfl) (by rw [List.size_toArray]; simp only [nums_length, bools_length, strs_length]; exact (sub_length (N := 3) (by omega) (by decide) rfl)) (hM.block 0 rfl) (by rw [List.size_toArray]; simp only [nums_length, bools_length, strs_length]; exact List.length_replicate) (all_nums _ _)) ?_
      replace hM : Mem w (W61.setRow g60 (nums .u64 (sub ([5871781006564002452, 18308165927316385504, 7904181063698728992, 18386141011142107824, 15821769039155751280, 226472410124699918] : List Int) 2 2)).toArray) [⟨.pointer (some ⟨g60, 0, none⟩), 74, 0, nums .u64 (sub ([5871781006564002452, 18308165927316385504, 7904181063698728992, 18386141011142107824, 15821769039155751280, 226472410124699918] : List Int) 2 2)⟩, ⟨.slice A48 t47.length c50, 5, 1, nums .u8 t47⟩, ⟨.slice A52 ((t41 ++ t47).length) c54, 5, 1, nums .u8 (t41 ++ t47)⟩, ⟨.pointer (some ⟨g32, 0, none⟩), 74, 0, nums .u64 (sub ([5871781006564002452, 18308165927316385504, 7904181063698728992, 18386141011142107824, 15821769039155751280, 226472410124699918] : List Int) 1 2)⟩, ⟨.slice A20 t19.length c22, 5, 1, nums .u8 t19⟩, ⟨.slice A24 ((t13 ++ t19).length) c26, 5, 1, nums .u8 (t13 ++ t19)⟩, ⟨.pointer (some ⟨g4, 0, none⟩), 74, 0, nums .u64 (sub ([5871781006564002452, 18308165927316385504, 7904181063698728992, 18386141011142107824, 15821769039155751280, 226472410124699918] : List Int) 0 2)⟩, ⟨.pointer (some ⟨g1, 0, none⟩), 64, 0, [.slice A24 ((t13 ++ t19).length) c26, .slice A52 ((t41 ++ t47).length) c54, .slice none 0 0]⟩] := Mem.setAll [] [⟨.slice A48 t47.length c50, 5, 1, nums .u8 t47⟩, ⟨.slice A52 ((t41 ++ t47).length) c54, 5, 1, nums .u8 (t41 ++ t47)⟩, ⟨.pointer (some ⟨g32, 0, none⟩), 74, 0, nums .u64 (sub ([5871781006564002452, 18308165927316385504, 7904181063698728992, 18386141011142107824, 15821769039155751280, 226472410124699918] : List Int) 1 2)⟩, ⟨.slice A20 t19.length c22, 5, 1, nums .u8 t19⟩, ⟨.slice A24 ((t13 ++ t19).length) c26, 5, 1, nums .u8 (t13 ++ t19)⟩, ⟨.pointer (some ⟨g4, 0, none⟩), 74, 0, nums .u64 (sub ([5871781006564002452, 18308165927316385504, 7904181063698728992, 18386141011142107824, 15821769039155751280, 226472410124699918] : List Int) 0 2)⟩, ⟨.pointer (some ⟨g1, 0, none⟩), 64, 0, [.slice A24 ((t13 ++ t19).length) c26, .slice A52 ((t41 ++ t47).length) c54, .slice none 0 0]⟩] (hM.pick [0, 1, 2, 3, 4, 5, 6, 7] rfl rfl)
      generalize W61.setRow g60 (nums .u64 (sub ([5871781006564002452, 18308165927316385504, 7904181063698728992, 18386141011142107824, 15821769039155751280, 226472410124699918] : List Int) 2 2)).toArray = W63 at hM ⊢
      refine RunF.go 1 [0, 1, 2, 6, 7] (k' := (pl Go.Proofs.Tryd.f35 [1, 0, 1, 0, 0, 1, 1, 0, 0, 1])) (L' := [(0, .pointer (some ⟨g1, 0, none⟩)), (1, .int .i64 2), (2, .pointer (some ⟨g60, 0, none⟩)), (6, .agg (nums .u64 ([5871781006564002452, 18308165927316385504, 7904181063698728992, 18386141011142107824, 15821769039155751280, 226472410124699918] : List Int)).toArray), (7, .int .i64 2)]) (w' := W63) (by kernel_rfl) ?_
      refine RunF.draw (Still ({ W63 with drawn := W63.drawn + 1 } : World) [.pointer (some ⟨g1, 0, none⟩)]) (by kernel_rfl) (by kernel_rfl) ?_
      have hMd65 := hM.drew
      have hS := Still.refl ({ W63 with drawn := W63.drawn + 1 } : World) [.pointer (some ⟨g1, 0, none⟩)]
      generalize ({ W63 with drawn := W63.drawn + 1 } : World) = W64 at hMd65 hS ⊢
      replace hM := hMd65
      refine RunAny.y 0 (by kernel_rfl) (yl_pure (d := some 11) (v := .int .i64 2) (k2 := [.inRegion (opsOf (pl Go.Proofs.Tryd.f35 [1, 0, 1, 0, 0, 1, 1, 0, 0, 1])) []]) fun w => by kernel_rfl) (fun _ _ => trivial) hS ?_
      obtain ⟨hcq66, hfq66, hlq66⟩ := hM.arr_num 0 rfl (i := 0) (by omega) (N := 2) (sub_length (N := 3) (by omega) (by decide) rfl) (by decide)
      refine RunAny.y 1 (by kernel_rfl) (idxArr_own (d := some 12) (g := g60) (len := 2) (i := 0) (k2 := [.inRegion (opsOf (pl Go.Proofs.Tryd.f35 [1, 0, 1, 0, 0, 1, 1, 0, 0, 1])) []]) (by kernel_rfl) (by omega) (by decide)) (fun _ _ => trivial) hS ?_
      refine RunAny.y 2 (by kernel_rfl) (ld_y (d := some 13) (p := ⟨g60, (0 : Int).toNat, none⟩) (k2 := [.inRegion (opsOf (pl Go.Proofs.Tryd.f35 [1, 0, 1, 0, 0, 1, 1, 0, 0, 1])) []]) (.int .u64 (rd (sub ([5871781006564002452, 18308165927316385504, 7904181063698728992, 18386141011142107824, 15821769039155751280, 226472410124699918] : List Int) 2 2) 0)) (by kernel_rfl)) (fun _ hs => hs.cell hcq66 (by intro v hv; simp only [List.mem_cons, List.not_mem_nil, or_false] at hv; rcases hv with rfl; exact (hM.ne 0 7 rfl rfl rfl rfl))) hS ?_
      obtain ⟨hcq67, hfq67, hlq67⟩ := hM.arr_num 0 rfl (i := 1) (by omega) (N := 2) (sub_length (N := 3) (by omega) (by decide) rfl) (by decide)
      refine RunAny.y 4 (by kernel_rfl) (idxArr_own (d := some 15) (g := g60) (len := 2) (i := 1) (k2 := [.inRegion (opsOf (pl Go.Proofs.Tryd.f35 [1, 0, 1, 0, 0, 1, 1, 0, 0, 1])) []]) (by kernel_rfl) (by omega) (by decide)) (fun _ _ => trivial) hS ?_
      refine RunAny.y 5 (by kernel_rfl) (ld_y (d := some 16) (p := ⟨g60, (1 : Int).toNat, none⟩) (k2 := [.inRegion (opsOf (pl Go.Proofs.Tryd.f35 [1, 0, 1, 0, 0, 1, 1, 0, 0, 1])) []]) (.int .u64 (rd (sub ([5871781006564002452, 18308165927316385504, 7904181063698728992, 18386141011142107824, 15821769039155751280, 226472410124699918] : List Int) 2 2) 1)) (by kernel_rfl)) (fun _ hs => hs.cell hcq67 (by intro v hv; simp only [List.mem_cons, List.not_mem_nil, or_false] at hv; rcases hv with rfl; exact (hM.ne 0 7 rfl rfl rfl rfl))) hS ?_
      obtain ⟨t69, ht69, h⟩ := Option.bind_eq_some_iff.mp h
      refine RunAny.call 3 (d := some 14) (g := 46) (args := #[.int .u64 (rd (sub ([5871781006564002452, 18308165927316385504, 7904181063698728992, 18386141011142107824, 15821769039155751280, 226472410124699918] : List Int) 2 2) 0)]) (by kernel_rfl) (by kernel_rfl) (words_PutBe64.calls k (rd (sub ([5871781006564002452, 18308165927316385504, 7904181063698728992, 18386141011142107824, 15821769039155751280, 226472410124699918] : List Int) 2 2) 0) t69 _ ht69) (by rintro _ _ ⟨_, _, _, rfl, hM_⟩; exact hS.below hM_.below) ?_
      rintro _ W68 ⟨A70, n71, c72, rfl, hM_⟩
      obtain rfl : t69.length = n71 := by have h_ := (hM_.rd 0 rfl).1; simpa [nums_length, bools_length, strs_length] using h_
      have hNew_ := (hM_.ok _ (List.mem_of_getElem? (i := 0) rfl)).2
      replace hS := hS.below hM_.below
      replace hM := hM.call hM_
      clear hM_ ht69
      refine RunAny.rebase2 (G2 := [.slice A70 t69.length c72, .pointer (some ⟨g1, 0, none⟩)]) hS (by intro v_ hv_; simp only [List.mem_cons, List.not_mem_nil, or_false] at hv_; rcases hv_ with rfl | hv_; exact .inr (fun b_ hb_ => hNew_ b_ hb_); exact .inl (by simpa using hv_)) ?_
      replace hS := Still.refl W68 [.slice A70 t69.length c72, .pointer (some ⟨g1, 0, none⟩)]
      obtain ⟨t75, ht75, h⟩ := Option.bind_eq_some_iff.mp h
      refine RunAny.call 6 (d := some 17) (g := 46) (args := #[.int .u64 (rd (sub ([5871781006564002452, 18308165927316385504, 7904181063698728992, 18386141011142107824, 15821769039155751280, 226472410124699918] : List Int) 2 2) 1)]) (by kernel_rfl) (by kernel_rfl) (words_PutBe64.calls k (rd (sub ([5871781006564002452, 18308165927316385504, 7904181063698728992, 18386141011142107824, 15821769039155751280, 226472410124699918] : List Int) 2 2) 1) t75 _ ht75) (by rintro _ _ ⟨_, _, _, rfl, hM_⟩; exact hS.below hM_.below) ?_
      rintro _ W74 ⟨A76, n77, c78, rfl, hM_⟩
      obtain rfl : t75.length = n77 := by have h_ := (hM_.rd 0 rfl).1; simpa [nums_length, bools_length, strs_length] using h_
      replace hS := hS.below hM_.below
      replace hM := hM.call hM_
      clear hM_ ht75
      refine RunAny.rebase hS ?_
      replace hS := Still.refl W74 [.slice A70 t69.length c72, .pointer (some ⟨g1, 0, none⟩)]
      rcases two (decide (t69.length + t75.length ≤ 1000000000)) with c84 | c84
      · replace h := of_true h c84
        have h_ := of_decide_eq_true c84
        obtain ⟨A80, n81, c82, W83, hD, hM', hS_⟩ := app_does (P := Go.Proofs.Tryd.prog) (n := 22) (k := (one (opsOf (pl Go.Proofs.Tryd.f35 [1, 0, 1, 0, 0, 1, 1, 0, 0, 1])) 7)) (L := (upd (upd (upd (upd (upd (upd (upd [(0, .pointer (some ⟨g1, 0, none⟩)), (1, .int .i64 2), (2, .pointer (some ⟨g60, 0, none⟩)), (6, .agg (nums .u64 ([5871781006564002452, 18308165927316385504, 7904181063698728992, 18386141011142107824, 15821769039155751280, 226472410124699918] : List Int)).toArray), (7, .int .i64 2)] (some 11) (.int .i64 2)) (some 12) (.pointer (some ⟨g60, (0 : Int).toNat, none⟩))) (some 13) (.int .u64 (rd (sub ([5871781006564002452, 18308165927316385504, 7904181063698728992, 18386141011142107824, 15821769039155751280, 226472410124699918] : List Int) 2 2) 0))) (some 15) (.pointer (some ⟨g60, (1 : Int).toNat, none⟩))) (some 16) (.int .u64 (rd (sub ([5871781006564002452, 18308165927316385504, 7904181063698728992, 18386141011142107824, 15821769039155751280, 226472410124699918] : List Int) 2 2) 1))) (some 14) (.slice A70 t69.length c72)) (some 17) (.slice A76 t75.length c78))) (d := some 18) (e := 5) (A := A70) (m := t69.length) (c := c72) (A2 := A76) (m2 := t75.length) (c2 := c78) (cs := nums .u8 t69) (ys := nums .u8 t75) (k2 := [.inRegion (opsOf (pl Go.Proofs.Tryd.f35 [1, 0, 1, 0, 0, 1, 1, 0, 0, 1])) []]) [⟨.slice A76 t75.length c78, 5, 1, nums .u8 t75⟩] [⟨.pointer (some ⟨g60, 0, none⟩), 74, 0, nums .u64 (sub ([5871781006564002452, 18308165927316385504, 7904181063698728992, 18386141011142107824, 15821769039155751280, 226472410124699918] : List Int) 2 2)⟩, ⟨.slice A48 t47.length c50, 5, 1, nums .u8 t47⟩, ⟨.slice A52 ((t41 ++ t47).length) c54, 5, 1, nums .u8 (t41 ++ t47)⟩, ⟨.pointer (some ⟨g32, 0, none⟩), 74, 0, nums .u64 (sub ([5871781006564002452, 18308165927316385504, 7904181063698728992, 18386141011142107824, 15821769039155751280, 226472410124699918] : List Int) 1 2)⟩, ⟨.slice A20 t19.length c22, 5, 1, nums .u8 t19⟩, ⟨.slice A24 ((t13 ++ t19).length) c26, 5, 1, nums .u8 (t13 ++ t19)⟩, ⟨.pointer (some ⟨g4, 0, none⟩), 74, 0, nums .u64 (sub ([5871781006564002452, 18308165927316385504, 7904181063698728992, 18386141011142107824, 15821769039155751280, 226472410124699918] : List Int) 0 2)⟩, ⟨.pointer (some ⟨g1, 0, none⟩), 64, 0, [.slice A24 ((t13 ++ t19).length) c26, .slice A52 ((t41 ++ t47).length) c54, .slice none 0 0]⟩] (by kernel_rfl) (hM.pick [0, 1, 2, 3, 4, 5, 6, 7, 8, 9] rfl rfl) (hM.rd 0 rfl) (one_nums _ _) (by omega)
        rw [nums_append] at hM'
        replace hM := hM'; clear h_ hM'
        obtain rfl : (t69 ++ t75).length = n81 := by have h_ := (hM.rd 1 rfl).1; simpa only [nums_length, bools_length, strs_length] using h_
        refine RunAny.does 7 (by kernel_rfl) hD (hS.app hS_ (by simp)) ?_
        clear hD
        replace hS := (hS.app hS_ (by simp)); clear hS_
        refine RunAny.rebase hS ?_
        replace hS := Still.refl W83 [.slice A70 t69.length c72, .pointer (some ⟨g1, 0, none⟩)]
        obtain ⟨hcq86, hfq86⟩ := hM.var_at 9 rfl (i := (2 : Int).toNat) (u := .slice none 0 0) rfl
        refine RunAny.y 8 (by kernel_rfl) (idxArr_own (d := some 19) (g := g1) (len := 3) (i := 2) (k2 := [.inRegion (opsOf (pl Go.Proofs.Tryd.f35 [1, 0, 1, 0, 0, 1, 1, 0, 0, 1])) []]) (by kernel_rfl) (by decide) (by decide)) (fun _ _ => trivial) hS ?_
        obtain ⟨hc_, hf_⟩ := hM.var_at 9 rfl (i := (2 : Int).toNat) (u := .slice none 0 0) rfl
        have hS' := hS.set (v := .pointer (some ⟨g1, 0, none⟩)) (g := g1) (i := (2 : Int).toNat) (by simp) rfl (.slice A80 ((t69 ++ t75).length) c82)
        refine RunAny.doesU 9 (by kernel_rfl) (st_u (p := (⟨g1, (2 : Int).toNat, none⟩ : Addr)) (v := .slice A80 ((t69 ++ t75).length) c82) (k2 := [.inRegion (opsOf (pl Go.Proofs.Tryd.f35 [1, 0, 1, 0, 0, 1, 1, 0, 0, 1])) []]) (by kernel_rfl) hc_ hf_) hS' ?_
        replace hM : Mem w (W83.setCell (⟨g1, (2 : Int).toNat, none⟩ : Addr) (.slice A80 ((t69 ++ t75).length) c82)) [⟨.slice A76 t75.length c78, 5, 1, nums .u8 t75⟩, ⟨.slice A80 ((t69 ++ t75).length) c82, 5, 1, nums .u8 (t69 ++ t75)⟩, ⟨.pointer (some ⟨g60, 0, none⟩), 74, 0, nums .u64 (sub ([5871781006564002452, 18308165927316385504, 7904181063698728992, 18386141011142107824, 15821769039155751280, 226472410124699918] : List Int) 2 2)⟩, ⟨.slice A48 t47.length c50, 5, 1, nums .u8 t47⟩, ⟨.slice A52 ((t41 ++ t47).length) c54, 5, 1, nums .u8 (t41 ++ t47)⟩, ⟨.pointer (some ⟨g32, 0, none⟩), 74, 0, nums .u64 (sub ([5871781006564002452, 18308165927316385504, 7904181063698728992, 18386141011142107824, 15821769039155751280, 226472410124699918] : List Int) 1 2)⟩, ⟨.slice A20 t19.length c22, 5, 1, nums .u8 t19⟩, ⟨.slice A24 ((t13 ++ t19).length) c26, 5, 1, nums .u8 (t13 ++ t19)⟩, ⟨.pointer (some ⟨g4, 0, none⟩), 74, 0, nums .u64 (sub ([5871781006564002452, 18308165927316385504, 7904181063698728992, 18386141011142107824, 15821769039155751280, 226472410124699918] : List Int) 0 2)⟩, ⟨.pointer (some ⟨g1, 0, none⟩), 64, 0, [.slice A24 ((t13 ++ t19).length) c26, .slice A52 ((t41 ++ t47).length) c54, .slice A80 ((t69 ++ t75).length) c82]⟩] := Mem.set [⟨.slice A76 t75.length c78, 5, 1, nums .u8 t75⟩, ⟨.slice A80 ((t69 ++ t75).length) c82, 5, 1, nums .u8 (t69 ++ t75)⟩, ⟨.pointer (some ⟨g60, 0, none⟩), 74, 0, nums .u64 (sub ([5871781006564002452, 18308165927316385504, 7904181063698728992, 18386141011142107824, 15821769039155751280, 226472410124699918] : List Int) 2 2)⟩, ⟨.slice A48 t47.length c50, 5, 1, nums .u8 t47⟩, ⟨.slice A52 ((t41 ++ t47).length) c54, 5, 1, nums .u8 (t41 ++ t47)⟩, ⟨.pointer (some ⟨g32, 0, none⟩), 74, 0, nums .u64 (sub ([5871781006564002452, 18308165927316385504, 7904181063698728992, 18386141011142107824, 15821769039155751280, 226472410124699918] : List Int) 1 2)⟩, ⟨.slice A20 t19.length c22, 5, 1, nums .u8 t19⟩, ⟨.slice A24 ((t13 ++ t19).length) c26, 5, 1, nums .u8 (t13 ++ t19)⟩, ⟨.pointer (some ⟨g4, 0, none⟩), 74, 0, nums .u64 (sub ([5871781006564002452, 18308165927316385504, 7904181063698728992, 18386141011142107824, 15821769039155751280, 226472410124699918] : List Int) 0 2)⟩] [] (e := ⟨.pointer (some ⟨g1, 0, none⟩), 64, 0, [.slice A24 ((t13 ++ t19).length) c26, .slice A52 ((t41 ++ t47).length) c54, .slice none 0 0]⟩) (hM.pick [0, 1, 2, 3, 4, 5, 6, 7, 8, 9] rfl rfl) rfl _ (by show (2 : Int).toNat < 3; decide) _
        generalize W83.setCell (⟨g1, (2 : Int).toNat, none⟩ : Addr) (.slice A80 ((t69 ++ t75).length) c82) = W87 at hM hS' ⊢
        clear hc_ hf_ hcq86 hfq86
        replace hS := hS'
        refine RunAny.rebase hS ?_
        replace hS := Still.refl W87 [.slice A70 t69.length c72, .pointer (some ⟨g1, 0, none⟩)]
        refine RunAny.done (by kernel_rfl) ?_
        clear hS
        refine RunF.go 15 [0] (k' := (pin Go.Proofs.Tryd.f35 [1, 1, 0] 0)) (L' := [(0, .pointer (some ⟨g1, 0, none⟩))]) (w' := W87) (by kernel_rfl) ?_
        refine RunF.y (ldv_y (d := some 21) (g := g1) (N := 3) (ty := 64) (k2 := (pin Go.Proofs.Tryd.f35 [1, 1, 0] 1)) ([.slice A24 ((t13 ++ t19).length) c26, .slice A52 ((t41 ++ t47).length) c54, .slice A80 ((t69 ++ t75).length) c82]) (by kernel_rfl) (by rfl)) (hM.block 9 rfl) ?_
        refine RunF.doesU (stv_u (N := 3) (cells := ([.slice A24 ((t13 ++ t19).length) c26, .slice A52 ((t41 ++ t47).length) c54, .slice A80 ((t69 ++ t75).length) c82]).toArray) (old := ([.slice A24 ((t13 ++ t19).length) c26, .slice A52 ((t41 ++ t47).length) c54, .slice A80 ((t69 ++ t75).length) c82]).toArray) (ty := 64) (k2 := (pin Go.Proofs.Tryd.f35 [1, 1, 0] 2)) (by kernel_rfl) (by rfl) (hM.block 9 rfl) (by rfl) (by simp [Value.oneCell'])) ?_
        replace hM : Mem w (W87.setRow g1 ([.slice A24 ((t13 ++ t19).length) c26, .slice A52 ((t41 ++ t47).length) c54, .slice A80 ((t69 ++ t75).length) c82]).toArray) [⟨.slice A76 t75.length c78, 5, 1, nums .u8 t75⟩, ⟨.slice A80 ((t69 ++ t75).length) c82, 5, 1, nums .u8 (t69 ++ t75)⟩, ⟨.pointer (some ⟨g60, 0, none⟩), 74, 0, nums .u64 (sub ([5871781006564002452, 18308165927316385504, 7904181063698728992, 18386141011142107824, 15821769039155751280, 226472410124699918] : List Int) 2 2)⟩, ⟨.slice A48 t47.length c50, 5, 1, nums .u8 t47⟩, ⟨.slice A52 ((t41 ++ t47).length) c54, 5, 1, nums .u8 (t41 ++ t47)⟩, ⟨.pointer (some ⟨g32, 0, none⟩), 74, 0, nums .u64 (sub ([5871781006564002452, 18308165927316385504, 7904181063698728992, 18386141011142107824, 15821769039155751280, 226472410124699918] : List Int) 1 2)⟩, ⟨.slice A20 t19.length c22, 5, 1, nums .u8 t19⟩, ⟨.slice A24 ((t13 ++ t19).length) c26, 5, 1, nums .u8 (t13 ++ t19)⟩, ⟨.pointer (some ⟨g4, 0, none⟩), 74, 0, nums .u64 (sub ([5871781006564002452, 18308165927316385504, 7904181063698728992, 18386141011142107824, 15821769039155751280, 226472410124699918] : List Int) 0 2)⟩, ⟨.pointer (some ⟨g1, 0, none⟩), 64, 0, [.slice A24 ((t13 ++ t19).length) c26, .slice A52 ((t41 ++ t47).length) c54, .slice A80 ((t69 ++ t75).length) c82]⟩] := Mem.setAll [⟨.slice A76 t75.length c78, 5, 1, nums .u8 t75⟩, ⟨.slice A80 ((t69 ++ t75).length) c82, 5, 1, nums .u8 (t69 ++ t75)⟩, ⟨.pointer (some ⟨g60, 0, none⟩), 74, 0, nums .u64 (sub ([5871781006564002452, 18308165927316385504, 7904181063698728992, 18386141011142107824, 15821769039155751280, 226472410124699918] : List Int) 2 2)⟩, ⟨.slice A48 t47.length c50, 5, 1, nums .u8 t47⟩, ⟨.slice A52 ((t41 ++ t47).length) c54, 5, 1, nums .u8 (t41 ++ t47)⟩, ⟨.pointer (some ⟨g32, 0, none⟩), 74, 0, nums .u64 (sub ([5871781006564002452, 18308165927316385504, 7904181063698728992, 18386141011142107824, 15821769039155751280, 226472410124699918] : List Int) 1 2)⟩, ⟨.slice A20 t19.length c22, 5, 1, nums .u8 t19⟩, ⟨.slice A24 ((t13 ++ t19).length) c26, 5, 1, nums .u8 (t13 ++ t19)⟩, ⟨.pointer (some ⟨g4, 0, none⟩), 74, 0, nums .u64 (sub ([5871781006564002452, 18308165927316385504, 7904181063698728992, 18386141011142107824, 15821769039155751280, 226472410124699918] : List Int) 0 2)⟩] [] (hM.pick [0, 1, 2, 3, 4, 5, 6, 7, 8, 9] rfl rfl)
        generalize W87.setRow g1 ([.slice A24 ((t13 ++ t19).length) c26, .slice A52 ((t41 ++ t47).length) c54, .slice A80 ((t69 ++ t75).length) c82]).toArray = W88 at hM ⊢
        refine RunF.go 1 [0] (k' := (pl Go.Proofs.Tryd.f35 [1, 1, 1])) (L' := [(0, .pointer (some ⟨g1, 0, none⟩))]) (w' := W88) (by kernel_rfl) ?_
        obtain ⟨Fq89, hfq89, hM⟩ := Mem.freezeS (H1 := [⟨.slice A76 t75.length c78, 5, 1, nums .u8 t75⟩, ⟨.slice A80 ((t69 ++ t75).length) c82, 5, 1, nums .u8 (t69 ++ t75)⟩, ⟨.pointer (some ⟨g60, 0, none⟩), 74, 0, nums .u64 (sub ([5871781006564002452, 18308165927316385504, 7904181063698728992, 18386141011142107824, 15821769039155751280, 226472410124699918] : List Int) 2 2)⟩, ⟨.slice A48 t47.length c50, 5, 1, nums .u8 t47⟩, ⟨.slice A52 ((t41 ++ t47).length) c54, 5, 1, nums .u8 (t41 ++ t47)⟩, ⟨.pointer (some ⟨g32, 0, none⟩), 74, 0, nums .u64 (sub ([5871781006564002452, 18308165927316385504, 7904181063698728992, 18386141011142107824, 15821769039155751280, 226472410124699918] : List Int) 1 2)⟩, ⟨.slice A20 t19.length c22, 5, 1, nums .u8 t19⟩]) (H2 := [⟨.pointer (some ⟨g4, 0, none⟩), 74, 0, nums .u64 (sub ([5871781006564002452, 18308165927316385504, 7904181063698728992, 18386141011142107824, 15821769039155751280, 226472410124699918] : List Int) 0 2)⟩, ⟨.pointer (some ⟨g1, 0, none⟩), 64, 0, [.slice A24 ((t13 ++ t19).length) c26, .slice A52 ((t41 ++ t47).length) c54, .slice A80 ((t69 ++ t75).length) c82]⟩]) (Fs := []) (A := A24) (n := (t13 ++ t19).length) (c := c26) (ty := 5) (cs := nums .u8 (t13 ++ t19)) (hM.as rfl)
        obtain ⟨Fq90, hfq90, hM⟩ := Mem.freezeS (H1 := [⟨.slice A76 t75.length c78, 5, 1, nums .u8 t75⟩, ⟨.slice A80 ((t69 ++ t75).length) c82, 5, 1, nums .u8 (t69 ++ t75)⟩, ⟨.pointer (some ⟨g60, 0, none⟩), 74, 0, nums .u64 (sub ([5871781006564002452, 18308165927316385504, 7904181063698728992, 18386141011142107824, 15821769039155751280, 226472410124699918] : List Int) 2 2)⟩, ⟨.slice A48 t47.length c50, 5, 1, nums .u8 t47⟩]) (H2 := [⟨.pointer (some ⟨g32, 0, none⟩), 74, 0, nums .u64 (sub ([5871781006564002452, 18308165927316385504, 7904181063698728992, 18386141011142107824, 15821769039155751280, 226472410124699918] : List Int) 1 2)⟩, ⟨.slice A20 t19.length c22, 5, 1, nums .u8 t19⟩, ⟨.pointer (some ⟨g4, 0, none⟩), 74, 0, nums .u64 (sub ([5871781006564002452, 18308165927316385504, 7904181063698728992, 18386141011142107824, 15821769039155751280, 226472410124699918] : List Int) 0 2)⟩, ⟨.pointer (some ⟨g1, 0, none⟩), 64, 0, [.slice A24 ((t13 ++ t19).length) c26, .slice A52 ((t41 ++ t47).length) c54, .slice A80 ((t69 ++ t75).length) c82]⟩]) (Fs := [Fq89]) (A := A52) (n := (t41 ++ t47).length) (c := c54) (ty := 5) (cs := nums .u8 (t41 ++ t47)) (hM.as rfl)
        obtain ⟨Fq91, hfq91, hM⟩ := Mem.freezeS (H1 := [⟨.slice A76 t75.length c78, 5, 1, nums .u8 t75⟩]) (H2 := [⟨.pointer (some ⟨g60, 0, none⟩), 74, 0, nums .u64 (sub ([5871781006564002452, 18308165927316385504, 7904181063698728992, 18386141011142107824, 15821769039155751280, 226472410124699918] : List Int) 2 2)⟩, ⟨.slice A48 t47.length c50, 5, 1, nums .u8 t47⟩, ⟨.pointer (some ⟨g32, 0, none⟩), 74, 0, nums .u64 (sub ([5871781006564002452, 18308165927316385504, 7904181063698728992, 18386141011142107824, 15821769039155751280, 226472410124699918] : List Int) 1 2)⟩, ⟨.slice A20 t19.length c22, 5, 1, nums .u8 t19⟩, ⟨.pointer (some ⟨g4, 0, none⟩), 74, 0, nums .u64 (sub ([5871781006564002452, 18308165927316385504, 7904181063698728992, 18386141011142107824, 15821769039155751280, 226472410124699918] : List Int) 0 2)⟩, ⟨.pointer (some ⟨g1, 0, none⟩), 64, 0, [.slice A24 ((t13 ++ t19).length) c26, .slice A52 ((t41 ++ t47).length) c54, .slice A80 ((t69 ++ t75).length) c82]⟩]) (Fs := [Fq90, Fq89]) (A := A80) (n := (t69 ++ t75).length) (c := c82) (ty := 5) (cs := nums .u8 (t69 ++ t75)) (hM.as rfl)
        have hqq92 : Each2 ((rNums .u8) (andZ (Oks Fq89) (andZ (Oks Fq90) (Oks Fq91)))) [.slice A24 ((t13 ++ t19).length) c26, .slice A52 ((t41 ++ t47).length) c54, .slice A80 ((t69 ++ t75).length) c82] ([(t13 ++ t19), (t41 ++ t47), (t69 ++ t75)] : List (List Int)) := (.cons (rnums_of (RdF.up hfq89 (fun _ hz_ => hz_.1)) (And.intro (Mem.oks (hM.as (H' := Gs [⟨.slice A76 t75.length c78, 5, 1, nums .u8 t75⟩, ⟨.pointer (some ⟨g60, 0, none⟩), 74, 0, nums .u64 (sub ([5871781006564002452, 18308165927316385504, 7904181063698728992, 18386141011142107824, 15821769039155751280, 226472410124699918] : List Int) 2 2)⟩, ⟨.slice A48 t47.length c50, 5, 1, nums .u8 t47⟩, ⟨.pointer (some ⟨g32, 0, none⟩), 74, 0, nums .u64 (sub ([5871781006564002452, 18308165927316385504, 7904181063698728992, 18386141011142107824, 15821769039155751280, 226472410124699918] : List Int) 1 2)⟩, ⟨.slice A20 t19.length c22, 5, 1, nums .u8 t19⟩, ⟨.pointer (some ⟨g4, 0, none⟩), 74, 0, nums .u64 (sub ([5871781006564002452, 18308165927316385504, 7904181063698728992, 18386141011142107824, 15821769039155751280, 226472410124699918] : List Int) 0 2)⟩, ⟨.pointer (some ⟨g1, 0, none⟩), 64, 0, [.slice A24 ((t13 ++ t19).length) c26, .slice A52 ((t41 ++ t47).length) c54, .slice A80 ((t69 ++ t75).length) c82]⟩] [Fq91, Fq90, Fq89]) rfl) 2 rfl) (And.intro (Mem.oks (hM.as (H' := Gs [⟨.slice A76 t75.length c78, 5, 1, nums .u8 t75⟩, ⟨.pointer (some ⟨g60, 0, none⟩), 74, 0, nums .u64 (sub ([5871781006564002452, 18308165927316385504, 7904181063698728992, 18386141011142107824, 15821769039155751280, 226472410124699918] : List Int) 2 2)⟩, ⟨.slice A48 t47.length c50, 5, 1, nums .u8 t47⟩, ⟨.pointer (some ⟨g32, 0, none⟩), 74, 0, nums .u64 (sub ([5871781006564002452, 18308165927316385504, 7904181063698728992, 18386141011142107824, 15821769039155751280, 226472410124699918] : List Int) 1 2)⟩, ⟨.slice A20 t19.length c22, 5, 1, nums .u8 t19⟩, ⟨.pointer (some ⟨g4, 0, none⟩), 74, 0, nums .u64 (sub ([5871781006564002452, 18308165927316385504, 7904181063698728992, 18386141011142107824, 15821769039155751280, 226472410124699918] : List Int) 0 2)⟩, ⟨.pointer (some ⟨g1, 0, none⟩), 64, 0, [.slice A24 ((t13 ++ t19).length) c26, .slice A52 ((t41 ++ t47).length) c54, .slice A80 ((t69 ++ t75).length) c82]⟩] [Fq91, Fq90, Fq89]) rfl) 1 rfl) (Mem.oks (hM.as (H' := Gs [⟨.slice A76 t75.length c78, 5, 1, nums .u8 t75⟩, ⟨.pointer (some ⟨g60, 0, none⟩), 74, 0, nums .u64 (sub ([5871781006564002452, 18308165927316385504, 7904181063698728992, 18386141011142107824, 15821769039155751280, 226472410124699918] : List Int) 2 2)⟩, ⟨.slice A48 t47.length c50, 5, 1, nums .u8 t47⟩, ⟨.pointer (some ⟨g32, 0, none⟩), 74, 0, nums .u64 (sub ([5871781006564002452, 18308165927316385504, 7904181063698728992, 18386141011142107824, 15821769039155751280, 226472410124699918] : List Int) 1 2)⟩, ⟨.slice A20 t19.length c22, 5, 1, nums .u8 t19⟩, ⟨.pointer (some ⟨g4, 0, none⟩), 74, 0, nums .u64 (sub ([5871781006564002452, 18308165927316385504, 7904181063698728992, 18386141011142107824, 15821769039155751280, 226472410124699918] : List Int) 0 2)⟩, ⟨.pointer (some ⟨g1, 0, none⟩), 64, 0, [.slice A24 ((t13 ++ t19).length) c26, .slice A52 ((t41 ++ t47).length) c54, .slice A80 ((t69 ++ t75).length) c82]⟩] [Fq91, Fq90, Fq89]) rfl) 0 rfl)))) (.cons (rnums_of (RdF.up hfq90 (fun _ hz_ => hz_.2.1)) (And.intro (Mem.oks (hM.as (H' := Gs [⟨.slice A76 t75.length c78, 5, 1, nums .u8 t75⟩, ⟨.pointer (some ⟨g60, 0, none⟩), 74, 0, nums .u64 (sub ([5871781006564002452, 18308165927316385504, 7904181063698728992, 18386141011142107824, 15821769039155751280, 226472410124699918] : List Int) 2 2)⟩, ⟨.slice A48 t47.length c50, 5, 1, nums .u8 t47⟩, ⟨.pointer (some ⟨g32, 0, none⟩), 74, 0, nums .u64 (sub ([5871781006564002452, 18308165927316385504, 7904181063698728992, 18386141011142107824, 15821769039155751280, 226472410124699918] : List Int) 1 2)⟩, ⟨.slice A20 t19.length c22, 5, 1, nums .u8 t19⟩, ⟨.pointer (some ⟨g4, 0, none⟩), 74, 0, nums .u64 (sub ([5871781006564002452, 18308165927316385504, 7904181063698728992, 18386141011142107824, 15821769039155751280, 226472410124699918] : List Int) 0 2)⟩, ⟨.pointer (some ⟨g1, 0, none⟩), 64, 0, [.slice A24 ((t13 ++ t19).length) c26, .slice A52 ((t41 ++ t47).length) c54, .slice A80 ((t69 ++ t75).length) c82]⟩] [Fq91, Fq90, Fq89]) rfl) 2 rfl) (And.intro (Mem.oks (hM.as (H' := Gs [⟨.slice A76 t75.length c78, 5, 1, nums .u8 t75⟩, ⟨.pointer (some ⟨g60, 0, none⟩), 74, 0, nums .u64 (sub ([5871781006564002452, 18308165927316385504, 7904181063698728992, 18386141011142107824, 15821769039155751280, 226472410124699918] : List Int) 2 2)⟩, ⟨.slice A48 t47.length c50, 5, 1, nums .u8 t47⟩, ⟨.pointer (some ⟨g32, 0, none⟩), 74, 0, nums .u64 (sub ([5871781006564002452, 18308165927316385504, 7904181063698728992, 18386141011142107824, 15821769039155751280, 226472410124699918] : List Int) 1 2)⟩, ⟨.slice A20 t19.length c22, 5, 1, nums .u8 t19⟩, ⟨.pointer (some ⟨g4, 0, none⟩), 74, 0, nums .u64 (sub ([5871781006564002452, 18308165927316385504, 7904181063698728992, 18386141011142107824, 15821769039155751280, 226472410124699918] : List Int) 0 2)⟩, ⟨.pointer (some ⟨g1, 0, none⟩), 64, 0, [.slice A24 ((t13 ++ t19).length) c26, .slice A52 ((t41 ++ t47).length) c54, .slice A80 ((t69 ++ t75).length) c82]⟩] [Fq91, Fq90, Fq89]) rfl) 1 rfl) (Mem.oks (hM.as (H' := Gs [⟨.slice A76 t75.length c78, 5, 1, nums .u8 t75⟩, ⟨.pointer (some ⟨g60, 0, none⟩), 74, 0, nums .u64 (sub ([5871781006564002452, 18308165927316385504, 7904181063698728992, 18386141011142107824, 15821769039155751280, 226472410124699918] : List Int) 2 2)⟩, ⟨.slice A48 t47.length c50, 5, 1, nums .u8 t47⟩, ⟨.pointer (some ⟨g32, 0, none⟩), 74, 0, nums .u64 (sub ([5871781006564002452, 18308165927316385504, 7904181063698728992, 18386141011142107824, 15821769039155751280, 226472410124699918] : List Int) 1 2)⟩, ⟨.slice A20 t19.length c22, 5, 1, nums .u8 t19⟩, ⟨.pointer (some ⟨g4, 0, none⟩), 74, 0, nums .u64 (sub ([5871781006564002452, 18308165927316385504, 7904181063698728992, 18386141011142107824, 15821769039155751280, 226472410124699918] : List Int) 0 2)⟩, ⟨.pointer (some ⟨g1, 0, none⟩), 64, 0, [.slice A24 ((t13 ++ t19).length) c26, .slice A52 ((t41 ++ t47).length) c54, .slice A80 ((t69 ++ t75).length) c82]⟩] [Fq91, Fq90, Fq89]) rfl) 0 rfl)))) (.cons (rnums_of (RdF.up hfq91 (fun _ hz_ => hz_.2.2)) (And.intro (Mem.oks (hM.as (H' := Gs [⟨.slice A76 t75.length c78, 5, 1, nums .u8 t75⟩, ⟨.pointer (some ⟨g60, 0, none⟩), 74, 0, nums .u64 (sub ([5871781006564002452, 18308165927316385504, 7904181063698728992, 18386141011142107824, 15821769039155751280, 226472410124699918] : List Int) 2 2)⟩, ⟨.slice A48 t47.length c50, 5, 1, nums .u8 t47⟩, ⟨.pointer (some ⟨g32, 0, none⟩), 74, 0, nums .u64 (sub ([5871781006564002452, 18308165927316385504, 7904181063698728992, 18386141011142107824, 15821769039155751280, 226472410124699918] : List Int) 1 2)⟩, ⟨.slice A20 t19.length c22, 5, 1, nums .u8 t19⟩, ⟨.pointer (some ⟨g4, 0, none⟩), 74, 0, nums .u64 (sub ([5871781006564002452, 18308165927316385504, 7904181063698728992, 18386141011142107824, 15821769039155751280, 226472410124699918] : List Int) 0 2)⟩, ⟨.pointer (some ⟨g1, 0, none⟩), 64, 0, [.slice A24 ((t13 ++ t19).length) c26, .slice A52 ((t41 ++ t47).length) c54, .slice A80 ((t69 ++ t75).length) c82]⟩] [Fq91, Fq90, Fq89]) rfl) 2 rfl) (And.intro (Mem.oks (hM.as (H' := Gs [⟨.slice A76 t75.length c78, 5, 1, nums .u8 t75⟩, ⟨.pointer (some ⟨g60, 0, none⟩), 74, 0, nums .u64 (sub ([5871781006564002452, 18308165927316385504, 7904181063698728992, 18386141011142107824, 15821769039155751280, 226472410124699918] : List Int) 2 2)⟩, ⟨.slice A48 t47.length c50, 5, 1, nums .u8 t47⟩, ⟨.pointer (some ⟨g32, 0, none⟩), 74, 0, nums .u64 (sub ([5871781006564002452, 18308165927316385504, 7904181063698728992, 18386141011142107824, 15821769039155751280, 226472410124699918] : List Int) 1 2)⟩, ⟨.slice A20 t19.length c22, 5, 1, nums .u8 t19⟩, ⟨.pointer (some ⟨g4, 0, none⟩), 74, 0, nums .u64 (sub ([5871781006564002452, 18308165927316385504, 7904181063698728992, 18386141011142107824, 15821769039155751280, 226472410124699918] : List Int) 0 2)⟩, ⟨.pointer (some ⟨g1, 0, none⟩), 64, 0, [.slice A24 ((t13 ++ t19).length) c26, .slice A52 ((t41 ++ t47).length) c54, .slice A80 ((t69 ++ t75).length) c82]⟩] [Fq91, Fq90, Fq89]) rfl) 1 rfl) (Mem.oks (hM.as (H' := Gs [⟨.slice A76 t75.length c78, 5, 1, nums .u8 t75⟩, ⟨.pointer (some ⟨g60, 0, none⟩), 74, 0, nums .u64 (sub ([5871781006564002452, 18308165927316385504, 7904181063698728992, 18386141011142107824, 15821769039155751280, 226472410124699918] : List Int) 2 2)⟩, ⟨.slice A48 t47.length c50, 5, 1, nums .u8 t47⟩, ⟨.pointer (some ⟨g32, 0, none⟩), 74, 0, nums .u64 (sub ([5871781006564002452, 18308165927316385504, 7904181063698728992, 18386141011142107824, 15821769039155751280, 226472410124699918] : List Int) 1 2)⟩, ⟨.slice A20 t19.length c22, 5, 1, nums .u8 t19⟩, ⟨.pointer (some ⟨g4, 0, none⟩), 74, 0, nums .u64 (sub ([5871781006564002452, 18308165927316385504, 7904181063698728992, 18386141011142107824, 15821769039155751280, 226472410124699918] : List Int) 0 2)⟩, ⟨.pointer (some ⟨g1, 0, none⟩), 64, 0, [.slice A24 ((t13 ++ t19).length) c26, .slice A52 ((t41 ++ t47).length) c54, .slice A80 ((t69 ++ t75).length) c82]⟩] [Fq91, Fq90, Fq89]) rfl) 0 rfl)))) (Each2.nil _))))
        obtain rfl := Option.some.inj h
        exact RunF.retc (t := 0) (ty := 64) (N := 3) (g := g1) ([.slice A24 ((t13 ++ t19).length) c26, .slice A52 ((t41 ++ t47).length) c54, .slice A80 ((t69 ++ t75).length) c82]) (fn := Go.Proofs.Tryd.f35) Go.Proofs.Tryd.func35 (by kernel_rfl) (by kernel_rfl) (by kernel_rfl) (by kernel_rfl) (hqq92.1.trans (rfl : ([(t13 ++ t19), (t41 ++ t47), (t69 ++ t75)] : List (List Int)).length = 3)) (hM.block 6 rfl) ⟨_, rfl, _, (Fq89 ++ (Fq90 ++ Fq91)), rfl, (up_arr (up_nums .u8)) _ _ _ _ (fun _ (hz_ : Oks _ _) => (And.intro hz_.left (And.intro hz_.right.left hz_.right.right))) ⟨_, rfl, (rfl : ([(t13 ++ t19), (t41 ++ t47), (t69 ++ t75)] : List (List Int)).length = 3), hqq92⟩, (Mem.pickF (hM.as (H' := Gs [⟨.slice A76 t75.length c78, 5, 1, nums .u8 t75⟩, ⟨.pointer (some ⟨g60, 0, none⟩), 74, 0, nums .u64 (sub ([5871781006564002452, 18308165927316385504, 7904181063698728992, 18386141011142107824, 15821769039155751280, 226472410124699918] : List Int) 2 2)⟩, ⟨.slice A48 t47.length c50, 5, 1, nums .u8 t47⟩, ⟨.pointer (some ⟨g32, 0, none⟩), 74, 0, nums .u64 (sub ([5871781006564002452, 18308165927316385504, 7904181063698728992, 18386141011142107824, 15821769039155751280, 226472410124699918] : List Int) 1 2)⟩, ⟨.slice A20 t19.length c22, 5, 1, nums .u8 t19⟩, ⟨.pointer (some ⟨g4, 0, none⟩), 74, 0, nums .u64 (sub ([5871781006564002452, 18308165927316385504, 7904181063698728992, 18386141011142107824, 15821769039155751280, 226472410124699918] : List Int) 0 2)⟩, ⟨.pointer (some ⟨g1, 0, none⟩), 64, 0, [.slice A24 ((t13 ++ t19).length) c26, .slice A52 ((t41 ++ t47).length) c54, .slice A80 ((t69 ++ t75).length) c82]⟩] [Fq91, Fq90, Fq89]) rfl) [9, 8, 7] rfl rfl (by simp [Gs]))⟩
      · replace h := of_false h c84
        cases h
    · replace h := of_false h c56
      cases h
  · replace h := of_false h c28
    cases h

/-! ### scrim/words.rest: function 47 -/
def words_rest.f (k : Nat) (a0 : Int) (a1 : Int) : Option (Int) := if (decide (a1 = 0)) = true then (none) else (if (decide (a1 = 0)) = true then (none) else (some (Int.tmod (I64 ((Int.tmod a0 a1) + a1)) a1)))
set_option maxRecDepth 100000 in
theorem words_rest.calls (k : Nat) (a0 : Int) (a1 : Int) (r : Int) (w : World) (h : words_rest.f k a0 a1 = some r) :
    Calls Go.Proofs.Tryd.prog 47 #[.int .i64 a0, .int .i64 a1] w (Ret fun v w' => v = .int .i64 r ∧ Mem w w' []) := by
  unfold words_rest.f at h
  refine calls_of [.int .i64 a0, .int .i64 a1] (fn := Go.Proofs.Tryd.f47) Go.Proofs.Tryd.func47 (by kernel_rfl) (by kernel_rfl) ?_
  have hM := Mem.refl w
  refine RunF.go 8 [1, 5, 6] (k' := (pin Go.Proofs.Tryd.f47 [1, 0] 2)) (L' := [(1, .int .i64 a1), (5, .int .i64 a0), (6, .int .i64 a1)]) (w' := w) (by kernel_rfl) ?_
  rcases two (decide (a1 = 0)) with c1 | c1
  · replace h := of_true h c1
    cases h
  · replace h := of_false h c1
    refine RunF.y (div_y (d := some 7) (b := false) (kd := .i64) (x := a0) (y := a1) (k2 := (pin Go.Proofs.Tryd.f47 [1, 0] 3)) (by kernel_rfl) c1) trivial ?_
    refine RunF.go 3 [9, 10] (k' := (pin Go.Proofs.Tryd.f47 [1, 0] 6)) (L' := [(9, .int .i64 (I64 ((Int.tmod a0 a1) + a1))), (10, .int .i64 a1)]) (w' := w) (by kernel_rfl) ?_
    rcases two (decide (a1 = 0)) with c2 | c2
    · replace h := of_true h c2
      cases h
    · replace h := of_false h c2
      refine RunF.y (div_y (d := some 11) (b := false) (kd := .i64) (x := I64 ((Int.tmod a0 a1) + a1)) (y := a1) (k2 := (pin Go.Proofs.Tryd.f47 [1, 0] 7)) (by kernel_rfl) c2) trivial ?_
      refine RunF.go 2 [4] (k' := (pl Go.Proofs.Tryd.f47 [1, 1])) (L' := [(4, .int .i64 (Int.tmod (I64 ((Int.tmod a0 a1) + a1)) a1))]) (w' := w) (by kernel_rfl) ?_
      obtain rfl := Option.some.inj h
      exact RunF.ret1 4 (.int .i64 (Int.tmod (I64 ((Int.tmod a0 a1) + a1)) a1)) (fn := Go.Proofs.Tryd.f47) Go.Proofs.Tryd.func47 (by kernel_rfl) (by kernel_rfl) (by kernel_rfl) ⟨_, rfl, rfl, (hM.pick [] rfl rfl)⟩


end Go.Scr.S
