/- The functions that the law TwofishH reaches, as plain functions, and that each call answers so. -/
import Derived.Test.YtngagagokcnnaaaProg
import Derived.Test.YtngagagokcnnaaaXDeep3
set_option linter.unusedVariables false
set_option linter.unusedSimpArgs false
set_option linter.unnecessarySimpa false
namespace Go.Scr.S
open Go.RowKit (Below)
def Rs_twofish_Twofish (Z : Zp) (cs : List Value) (x : ((List Int) × (List Int))) : Prop := ∃ (u0 : Value) (u1 : Value), cs = [u0, u1] ∧ (rNums .u32) Z u0 x.1 ∧ (rNums .u32) Z u1 x.2
theorem up_Rs_twofish_Twofish (Z Y : Zp) (cs : List Value) (x : ((List Int) × (List Int))) (hs : ∀ W, Y W → Z W) : Rs_twofish_Twofish Z cs x → Rs_twofish_Twofish Y cs x := fun ⟨u0, u1, e, h0, h1⟩ => ⟨u0, u1, e, (up_nums .u32) _ _ _ _ hs h0, (up_nums .u32) _ _ _ _ hs h1⟩
/-! ### scrim/twofish.rows: function 30 -/
def twofish_rows.f (k : Nat) (a0 : Int) : Option (List ByteArray) := if (a0 == 0) = true then (some ([(⟨#[56, 49, 55, 68, 54, 70, 51, 50, 48, 66, 53, 57, 69, 67, 65, 52]⟩ : ByteArray), (⟨#[69, 67, 66, 56, 49, 50, 51, 53, 70, 52, 65, 54, 55, 48, 57, 68]⟩ : ByteArray), (⟨#[66, 65, 53, 69, 54, 68, 57, 48, 67, 56, 70, 51, 50, 52, 55, 49]⟩ : ByteArray), (⟨#[68, 55, 70, 52, 49, 50, 54, 69, 57, 66, 51, 48, 56, 53, 67, 65]⟩ : ByteArray)] : List ByteArray)) else (some ([(⟨#[50, 56, 66, 68, 70, 55, 54, 69, 51, 49, 57, 52, 48, 65, 67, 53]⟩ : ByteArray), (⟨#[49, 69, 50, 66, 52, 67, 51, 55, 54, 68, 65, 53, 70, 57, 48, 56]⟩ : ByteArray), (⟨#[52, 67, 55, 53, 49, 54, 57, 65, 48, 69, 68, 56, 50, 66, 51, 70]⟩ : ByteArray), (⟨#[66, 57, 53, 49, 67, 51, 68, 69, 54, 52, 55, 70, 50, 48, 56, 65]⟩ : ByteArray)] : List ByteArray))
set_option maxRecDepth 100000 in
theorem twofish_rows.calls (k : Nat) (a0 : Int) (r : List ByteArray) (w : World) (h : twofish_rows.f k a0 = some r) :
    Calls Go.Proofs.Try.prog 30 #[.int .i64 a0] w (Ret fun v w' => v = .agg (strs r).toArray ∧ r.length = 4 ∧ Mem w w' []) := by
  unfold twofish_rows.f at h
  refine calls_of [.int .i64 a0] (fn := Go.Proofs.Try.f30) Go.Proofs.Try.func30 (by kernel_rfl) (by kernel_rfl) ?_
  have hM := Mem.refl w
  refine RunF.go 2 [0] (k' := (pin Go.Proofs.Try.f30 [0] 0)) (L' := [(0, .int .i64 a0)]) (w' := w) (by kernel_rfl) ?_
  refine RunF.newVar 58 (strs (List.replicate 4 ByteArray.empty)) (d := some 2) (k2 := (pin Go.Proofs.Try.f30 [0] 1)) hM (by kernel_rfl) ?_
  intro g1 W2 hM
  refine RunF.go 7 [2, 4] (k' := (pl Go.Proofs.Try.f30 [1, 0, 1])) (L' := [(2, .pointer (some ⟨g1, 0, none⟩)), (4, .bool (a0 == 0))]) (w' := W2) (by kernel_rfl) ?_
  rcases two ((a0 == 0)) with c4 | c4
  · replace h := of_true h c4
    refine RunF.know 4 (b := true) (by kernel_rfl) c4 ?_
    refine RunF.go 4 [2, 5] (k' := (pin Go.Proofs.Try.f30 [1, 0, 1, 0, 0] 1)) (L' := [(2, .pointer (some ⟨g1, 0, none⟩)), (5, .agg (strs ([(⟨#[56, 49, 55, 68, 54, 70, 51, 50, 48, 66, 53, 57, 69, 67, 65, 52]⟩ : ByteArray), (⟨#[69, 67, 66, 56, 49, 50, 51, 53, 70, 52, 65, 54, 55, 48, 57, 68]⟩ : ByteArray), (⟨#[66, 65, 53, 69, 54, 68, 57, 48, 67, 56, 70, 51, 50, 52, 55, 49]⟩ : ByteArray), (⟨#[68, 55, 70, 52, 49, 50, 54, 69, 57, 66, 51, 48, 56, 53, 67, 65]⟩ : ByteArray)] : List ByteArray)).toArray)]) (w' := W2) (by kernel_rfl) ?_
    refine RunF.doesU (stv_u (N := 4) (cells := (strs ([(⟨#[56, 49, 55, 68, 54, 70, 51, 50, 48, 66, 53, 57, 69, 67, 65, 52]⟩ : ByteArray), (⟨#[69, 67, 66, 56, 49, 50, 51, 53, 70, 52, 65, 54, 55, 48, 57, 68]⟩ : ByteArray), (⟨#[66, 65, 53, 69, 54, 68, 57, 48, 67, 56, 70, 51, 50, 52, 55, 49]⟩ : ByteArray), (⟨#[68, 55, 70, 52, 49, 50, 54, 69, 57, 66, 51, 48, 56, 53, 67, 65]⟩ : ByteArray)] : List ByteArray)).toArray) (old := (strs (List.replicate 4 ByteArray.empty)).toArray) (ty := 58) (k2 := (pin Go.Proofs.Try.f30 [1, 0, 1, 0, 0] 2)) (by kernel_rfl) (by rw [List.size_toArray]; simp only [nums_length, bools_length, strs_length]; exact rfl) (hM.block 0 rfl) (by rw [List.size_toArray]; simp only [nums_length, bools_length, strs_length]; exact List.length_replicate) (all_strs _)) ?_
    replace hM : Mem w (W2.setRow g1 (strs ([(⟨#[56, 49, 55, 68, 54, 70, 51, 50, 48, 66, 53, 57, 69, 67, 65, 52]⟩ : ByteArray), (⟨#[69, 67, 66, 56, 49, 50, 51, 53, 70, 52, 65, 54, 55, 48, 57, 68]⟩ : ByteArray), (⟨#[66, 65, 53, 69, 54, 68, 57, 48, 67, 56, 70, 51, 50, 52, 55, 49]⟩ : ByteArray), (⟨#[68, 55, 70, 52, 49, 50, 54, 69, 57, 66, 51, 48, 56, 53, 67, 65]⟩ : ByteArray)] : List ByteArray)).toArray) [⟨.pointer (some ⟨g1, 0, none⟩), 58, 0, strs ([(⟨#[56, 49, 55, 68, 54, 70, 51, 50, 48, 66, 53, 57, 69, 67, 65, 52]⟩ : ByteArray), (⟨#[69, 67, 66, 56, 49, 50, 51, 53, 70, 52, 65, 54, 55, 48, 57, 68]⟩ : ByteArray), (⟨#[66, 65, 53, 69, 54, 68, 57, 48, 67, 56, 70, 51, 50, 52, 55, 49]⟩ : ByteArray), (⟨#[68, 55, 70, 52, 49, 50, 54, 69, 57, 66, 51, 48, 56, 53, 67, 65]⟩ : ByteArray)] : List ByteArray)⟩] := Mem.setAll [] [] (hM.pick [0] rfl rfl)
    generalize W2.setRow g1 (strs ([(⟨#[56, 49, 55, 68, 54, 70, 51, 50, 48, 66, 53, 57, 69, 67, 65, 52]⟩ : ByteArray), (⟨#[69, 67, 66, 56, 49, 50, 51, 53, 70, 52, 65, 54, 55, 48, 57, 68]⟩ : ByteArray), (⟨#[66, 65, 53, 69, 54, 68, 57, 48, 67, 56, 70, 51, 50, 52, 55, 49]⟩ : ByteArray), (⟨#[68, 55, 70, 52, 49, 50, 54, 69, 57, 66, 51, 48, 56, 53, 67, 65]⟩ : ByteArray)] : List ByteArray)).toArray = W5 at hM ⊢
    refine RunF.go 1 [2] (k' := (pl Go.Proofs.Try.f30 [1, 0, 1, 0, 1])) (L' := [(2, .pointer (some ⟨g1, 0, none⟩))]) (w' := W5) (by kernel_rfl) ?_
    obtain rfl := Option.some.inj h
    exact RunF.retc (t := 2) (ty := 58) (N := 4) (g := g1) (strs ([(⟨#[56, 49, 55, 68, 54, 70, 51, 50, 48, 66, 53, 57, 69, 67, 65, 52]⟩ : ByteArray), (⟨#[69, 67, 66, 56, 49, 50, 51, 53, 70, 52, 65, 54, 55, 48, 57, 68]⟩ : ByteArray), (⟨#[66, 65, 53, 69, 54, 68, 57, 48, 67, 56, 70, 51, 50, 52, 55, 49]⟩ : ByteArray), (⟨#[68, 55, 70, 52, 49, 50, 54, 69, 57, 66, 51, 48, 56, 53, 67, 65]⟩ : ByteArray)] : List ByteArray)) (fn := Go.Proofs.Try.f30) Go.Proofs.Try.func30 (by kernel_rfl) (by kernel_rfl) (by kernel_rfl) (by kernel_rfl) (by simp only [nums_length, bools_length, strs_length]; exact rfl) (hM.block 0 rfl) ⟨_, rfl, rfl, rfl, (hM.pick [] rfl rfl)⟩
  · replace h := of_false h c4
    refine RunF.know 4 (b := false) (by kernel_rfl) c4 ?_
    refine RunF.go 5 [2, 6] (k' := (pin Go.Proofs.Try.f30 [1, 1, 0] 1)) (L' := [(2, .pointer (some ⟨g1, 0, none⟩)), (6, .agg (strs ([(⟨#[50, 56, 66, 68, 70, 55, 54, 69, 51, 49, 57, 52, 48, 65, 67, 53]⟩ : ByteArray), (⟨#[49, 69, 50, 66, 52, 67, 51, 55, 54, 68, 65, 53, 70, 57, 48, 56]⟩ : ByteArray), (⟨#[52, 67, 55, 53, 49, 54, 57, 65, 48, 69, 68, 56, 50, 66, 51, 70]⟩ : ByteArray), (⟨#[66, 57, 53, 49, 67, 51, 68, 69, 54, 52, 55, 70, 50, 48, 56, 65]⟩ : ByteArray)] : List ByteArray)).toArray)]) (w' := W2) (by kernel_rfl) ?_
    refine RunF.doesU (stv_u (N := 4) (cells := (strs ([(⟨#[50, 56, 66, 68, 70, 55, 54, 69, 51, 49, 57, 52, 48, 65, 67, 53]⟩ : ByteArray), (⟨#[49, 69, 50, 66, 52, 67, 51, 55, 54, 68, 65, 53, 70, 57, 48, 56]⟩ : ByteArray), (⟨#[52, 67, 55, 53, 49, 54, 57, 65, 48, 69, 68, 56, 50, 66, 51, 70]⟩ : ByteArray), (⟨#[66, 57, 53, 49, 67, 51, 68, 69, 54, 52, 55, 70, 50, 48, 56, 65]⟩ : ByteArray)] : List ByteArray)).toArray) (old := (strs (List.replicate 4 ByteArray.empty)).toArray) (ty := 58) (k2 := (pin Go.Proofs.Try.f30 [1, 1, 0] 2)) (by kernel_rfl) (by rw [List.size_toArray]; simp only [nums_length, bools_length, strs_length]; exact rfl) (hM.block 0 rfl) (by rw [List.size_toArray]; simp only [nums_length, bools_length, strs_length]; exact List.length_replicate) (all_strs _)) ?_
    replace hM : Mem w (W2.setRow g1 (strs ([(⟨#[50, 56, 66, 68, 70, 55, 54, 69, 51, 49, 57, 52, 48, 65, 67, 53]⟩ : ByteArray), (⟨#[49, 69, 50, 66, 52, 67, 51, 55, 54, 68, 65, 53, 70, 57, 48, 56]⟩ : ByteArray), (⟨#[52, 67, 55, 53, 49, 54, 57, 65, 48, 69, 68, 56, 50, 66, 51, 70]⟩ : ByteArray), (⟨#[66, 57, 53, 49, 67, 51, 68, 69, 54, 52, 55, 70, 50, 48, 56, 65]⟩ : ByteArray)] : List ByteArray)).toArray) [⟨.pointer (some ⟨g1, 0, none⟩), 58, 0, strs ([(⟨#[50, 56, 66, 68, 70, 55, 54, 69, 51, 49, 57, 52, 48, 65, 67, 53]⟩ : ByteArray), (⟨#[49, 69, 50, 66, 52, 67, 51, 55, 54, 68, 65, 53, 70, 57, 48, 56]⟩ : ByteArray), (⟨#[52, 67, 55, 53, 49, 54, 57, 65, 48, 69, 68, 56, 50, 66, 51, 70]⟩ : ByteArray), (⟨#[66, 57, 53, 49, 67, 51, 68, 69, 54, 52, 55, 70, 50, 48, 56, 65]⟩ : ByteArray)] : List ByteArray)⟩] := Mem.setAll [] [] (hM.pick [0] rfl rfl)
    generalize W2.setRow g1 (strs ([(⟨#[50, 56, 66, 68, 70, 55, 54, 69, 51, 49, 57, 52, 48, 65, 67, 53]⟩ : ByteArray), (⟨#[49, 69, 50, 66, 52, 67, 51, 55, 54, 68, 65, 53, 70, 57, 48, 56]⟩ : ByteArray), (⟨#[52, 67, 55, 53, 49, 54, 57, 65, 48, 69, 68, 56, 50, 66, 51, 70]⟩ : ByteArray), (⟨#[66, 57, 53, 49, 67, 51, 68, 69, 54, 52, 55, 70, 50, 48, 56, 65]⟩ : ByteArray)] : List ByteArray)).toArray = W6 at hM ⊢
    refine RunF.go 1 [2] (k' := (pl Go.Proofs.Try.f30 [1, 1, 1])) (L' := [(2, .pointer (some ⟨g1, 0, none⟩))]) (w' := W6) (by kernel_rfl) ?_
    obtain rfl := Option.some.inj h
    exact RunF.retc (t := 2) (ty := 58) (N := 4) (g := g1) (strs ([(⟨#[50, 56, 66, 68, 70, 55, 54, 69, 51, 49, 57, 52, 48, 65, 67, 53]⟩ : ByteArray), (⟨#[49, 69, 50, 66, 52, 67, 51, 55, 54, 68, 65, 53, 70, 57, 48, 56]⟩ : ByteArray), (⟨#[52, 67, 55, 53, 49, 54, 57, 65, 48, 69, 68, 56, 50, 66, 51, 70]⟩ : ByteArray), (⟨#[66, 57, 53, 49, 67, 51, 68, 69, 54, 52, 55, 70, 50, 48, 56, 65]⟩ : ByteArray)] : List ByteArray)) (fn := Go.Proofs.Try.f30) Go.Proofs.Try.func30 (by kernel_rfl) (by kernel_rfl) (by kernel_rfl) (by kernel_rfl) (by simp only [nums_length, bools_length, strs_length]; exact rfl) (hM.block 0 rfl) ⟨_, rfl, rfl, rfl, (hM.pick [] rfl rfl)⟩

/-! ### scrim/twofish.sign: function 31 -/
def twofish_sign.f (k : Nat) (a0 : Int) : Option (Int) := if (decide (a0 ≥ 65)) = true then (some (U8 ((U8 (a0 - 65)) + 10))) else (some (U8 (a0 - 48)))
set_option maxRecDepth 100000 in
theorem twofish_sign.calls (k : Nat) (a0 : Int) (r : Int) (w : World) (h : twofish_sign.f k a0 = some r) :
    Calls Go.Proofs.Try.prog 31 #[.int .u8 a0] w (Ret fun v w' => v = .int .u8 r ∧ Mem w w' []) := by
  unfold twofish_sign.f at h
  refine calls_of [.int .u8 a0] (fn := Go.Proofs.Try.f31) Go.Proofs.Try.func31 (by kernel_rfl) (by kernel_rfl) ?_
  have hM := Mem.refl w
  refine RunF.go 10 [0, 4] (k' := (pl Go.Proofs.Try.f31 [1, 0, 1])) (L' := [(0, .int .u8 a0), (4, .bool (decide (a0 ≥ 65)))]) (w' := w) (by kernel_rfl) ?_
  rcases two (decide (a0 ≥ 65)) with c1 | c1
  · replace h := of_true h c1
    refine RunF.know 4 (b := true) (by kernel_rfl) c1 ?_
    refine RunF.go 8 [2] (k' := (pl Go.Proofs.Try.f31 [1, 0, 1, 0, 1])) (L' := [(2, .int .u8 (U8 ((U8 (a0 - 65)) + 10)))]) (w' := w) (by kernel_rfl) ?_
    obtain rfl := Option.some.inj h
    exact RunF.ret1 2 (.int .u8 (U8 ((U8 (a0 - 65)) + 10))) (fn := Go.Proofs.Try.f31) Go.Proofs.Try.func31 (by kernel_rfl) (by kernel_rfl) (by kernel_rfl) ⟨_, rfl, rfl, (hM.pick [] rfl rfl)⟩
  · replace h := of_false h c1
    refine RunF.know 4 (b := false) (by kernel_rfl) c1 ?_
    refine RunF.go 8 [2] (k' := (pl Go.Proofs.Try.f31 [1, 1, 1])) (L' := [(2, .int .u8 (U8 (a0 - 48)))]) (w' := w) (by kernel_rfl) ?_
    obtain rfl := Option.some.inj h
    exact RunF.ret1 2 (.int .u8 (U8 (a0 - 48))) (fn := Go.Proofs.Try.f31) Go.Proofs.Try.func31 (by kernel_rfl) (by kernel_rfl) (by kernel_rfl) ⟨_, rfl, rfl, (hM.pick [] rfl rfl)⟩

/-! ### scrim/twofish.Q: function 14 -/
def twofish_Q.l0 : Nat → (List ByteArray) → Int → Int → Int → Option (Int)
  | 0, _, _, _, _ => none
  | k + 1, t2, x6_0, x7_0, x8_0 => if (decide (x8_0 < 4)) = true then ((some (bxor .u8 (bxor .u8 x6_0 (bor .u8 (shr x7_0 1) (band .u8 (shl .u8 x7_0 3) 15))) (band .u8 (shl .u8 x6_0 3) 15) : Int)).bind fun y8 => (if (decide (0 ≤ x8_0)) = true then (if (decide (x8_0 < (4 : Int))) = true then (if (decide (0 ≤ (bxor .u8 x6_0 x7_0))) = true then (if (decide ((bxor .u8 x6_0 x7_0) < ((rds t2 x8_0).size : Int))) = true then (if (decide (0 ≤ (I64 (x8_0 + 1)))) = true then (if (decide ((I64 (x8_0 + 1)) < (4 : Int))) = true then (if (decide (0 ≤ y8)) = true then (if (decide (y8 < ((rds t2 (I64 (x8_0 + 1))).size : Int))) = true then ((twofish_sign.f k (sb (rds t2 x8_0) (bxor .u8 x6_0 x7_0))).bind fun t22 => ((twofish_sign.f k (sb (rds t2 (I64 (x8_0 + 1))) y8)).bind fun t24 => (twofish_Q.l0 k t2 t22 t24 (I64 (x8_0 + 2))))) else (none)) else (none)) else (none)) else (none)) else (none)) else (none)) else (none)) else (none))) else (some (bor .u8 (shl .u8 x7_0 4) x6_0))
def twofish_Q.f (k : Nat) (a0 : Int) (a1 : Int) : Option (Int) := (twofish_rows.f k a0).bind fun t2 => (twofish_Q.l0 k t2 (shr a1 4) (band .u8 a1 15) 0)
set_option maxRecDepth 100000 in
theorem twofish_Q.calls (k : Nat) (a0 : Int) (a1 : Int) (r : Int) (w : World) (h : twofish_Q.f k a0 a1 = some r) :
    Calls Go.Proofs.Try.prog 14 #[.int .i64 a0, .int .u8 a1] w (Ret fun v w' => v = .int .u8 r ∧ Mem w w' []) := by
  unfold twofish_Q.f at h
  refine calls_of [.int .i64 a0, .int .u8 a1] (fn := Go.Proofs.Try.f14) Go.Proofs.Try.func14 (by kernel_rfl) (by kernel_rfl) ?_
  have hM := Mem.refl w
  refine RunF.go 7 [1, 11] (k' := (pin Go.Proofs.Try.f14 [1, 0] 1)) (L' := [(1, .int .u8 a1), (11, .int .i64 a0)]) (w' := w) (by kernel_rfl) ?_
  obtain ⟨t2, ht2, h⟩ := Option.bind_eq_some_iff.mp h
  refine RunF.call (d := some 12) (g := 30) (args := #[.int .i64 a0]) (k2 := (pin Go.Proofs.Try.f14 [1, 0] 2)) (by kernel_rfl) (twofish_rows.calls k a0 t2 _ ht2) ?_
  rintro _ W1 ⟨rfl, hNt2_0, hM_⟩
  replace hM := hM.call hM_
  clear hM_ ht2
  refine RunF.newVar 58 (strs (List.replicate 4 ByteArray.empty)) (d := some 5) (k2 := (pin Go.Proofs.Try.f14 [1, 0] 3)) hM (by kernel_rfl) ?_
  intro g3 W4 hM
  refine RunF.doesU (stv_u (N := 4) (cells := (strs t2).toArray) (old := (strs (List.replicate 4 ByteArray.empty)).toArray) (ty := 58) (k2 := (pin Go.Proofs.Try.f14 [1, 0] 4)) (by kernel_rfl) (by rw [List.size_toArray]; simp only [nums_length, bools_length, strs_length]; exact hNt2_0) (hM.block 0 rfl) (by rw [List.size_toArray]; simp only [nums_length, bools_length, strs_length]; exact List.length_replicate) (all_strs _)) ?_
  replace hM : Mem w (W4.setRow g3 (strs t2).toArray) [⟨.pointer (some ⟨g3, 0, none⟩), 58, 0, strs t2⟩] := Mem.setAll [] [] (hM.pick [0] rfl rfl)
  generalize W4.setRow g3 (strs t2).toArray = W6 at hM ⊢
  refine RunF.go 17 [5, 6, 7, 8] (k' := (pl Go.Proofs.Try.f14 [1, 1, 1, 0, 1, 0, 0])) (L' := [(5, .pointer (some ⟨g3, 0, none⟩)), (6, .int .u8 (shr a1 4)), (7, .int .u8 (band .u8 a1 15)), (8, .int .i64 0)]) (w' := W6) (by kernel_rfl) ?_
  have l0 : ∀ (k_ : Nat), k_ ≤ k → ∀ (x6_0 : Int) (x7_0 : Int) (x8_0 : Int) (W : World) (hM : Mem w W [⟨.pointer (some ⟨g3, 0, none⟩), 58, 0, strs t2⟩]) (h : twofish_Q.l0 k_ t2 x6_0 x7_0 x8_0 = some r), RunF Go.Proofs.Try.prog (Ret fun v w' => v = .int .u8 r ∧ Mem w w' []) 14 (pl Go.Proofs.Try.f14 [1, 1, 1, 0, 1, 0, 0]) 53 [(5, .pointer (some ⟨g3, 0, none⟩)), (6, .int .u8 x6_0), (7, .int .u8 x7_0), (8, .int .i64 x8_0)] W := by
    intro k_
    induction k_ using Nat.strongRecOn with
    | _ k_ ih0 =>
      intro hk x6_0 x7_0 x8_0 W hM h
      cases k_ with
      | zero => exact absurd h (by simp [twofish_Q.l0])
      | succ k =>
        simp only [twofish_Q.l0] at h
        replace ih0 : ∀ m, m ≤ k → _ := fun m hm => ih0 m (by omega) (by omega)
        refine RunF.go 6 [5, 6, 7, 8, 18] (k' := (pl Go.Proofs.Try.f14 [1, 1, 1, 0, 1, 0, 0, 0, 1])) (L' := [(5, .pointer (some ⟨g3, 0, none⟩)), (6, .int .u8 x6_0), (7, .int .u8 x7_0), (8, .int .i64 x8_0), (18, .bool (decide (x8_0 < 4)))]) (w' := W) (by kernel_rfl) ?_
        rcases two (decide (x8_0 < 4)) with c7 | c7
        · replace h := of_true h c7
          refine RunF.know 18 (b := true) (by kernel_rfl) c7 ?_
          refine RunF.go 24 [5, 8, 9, 10] (k' := (pl Go.Proofs.Try.f14 [1, 1, 1, 0, 1, 0, 0, 1, 0, 0, 1])) (L' := [(5, .pointer (some ⟨g3, 0, none⟩)), (8, .int .i64 x8_0), (9, .int .u8 (bxor .u8 x6_0 x7_0)), (10, .int .u8 (bxor .u8 (bxor .u8 x6_0 (bor .u8 (shr x7_0 1) (band .u8 (shl .u8 x7_0 3) 15))) (band .u8 (shl .u8 x6_0 3) 15)))]) (w' := W) (by kernel_rfl) ?_
          obtain ⟨y8, hy, h⟩ := Option.bind_eq_some_iff.mp h
          rw [show (bxor .u8 (bxor .u8 x6_0 (bor .u8 (shr x7_0 1) (band .u8 (shl .u8 x7_0 3) 15))) (band .u8 (shl .u8 x6_0 3) 15)) = y8 from Option.some.inj hy]
          clear hy
          refine RunF.draw (Still ({ W with drawn := W.drawn + 1 } : World) []) (by kernel_rfl) (by kernel_rfl) ?_
          have hMd10 := hM.drew
          have hS := Still.refl ({ W with drawn := W.drawn + 1 } : World) []
          generalize ({ W with drawn := W.drawn + 1 } : World) = W9 at hMd10 hS ⊢
          replace hM := hMd10
          refine RunAny.y 0 (by kernel_rfl) (yl_pure (d := some 36) (v := .int .i64 x8_0) (k2 := [.inRegion (opsOf (pl Go.Proofs.Try.f14 [1, 1, 1, 0, 1, 0, 0, 1, 0, 0, 1])) []]) fun w => by kernel_rfl) (fun _ _ => trivial) hS ?_
          rcases two (decide (0 ≤ x8_0)) with c12 | c12
          · replace h := of_true h c12
            rcases two (decide (x8_0 < (4 : Int))) with c13 | c13
            · replace h := of_true h c13
              obtain ⟨hcq11, hfq11, hlq11⟩ := hM.arr_str 0 rfl (i := x8_0) (of_decide_eq_true c12) (N := 4) hNt2_0 (of_decide_eq_true c13)
              refine RunAny.y 1 (by kernel_rfl) (idxArr_own (d := some 37) (g := g3) (len := 4) (i := x8_0) (k2 := [.inRegion (opsOf (pl Go.Proofs.Try.f14 [1, 1, 1, 0, 1, 0, 0, 1, 0, 0, 1])) []]) (by kernel_rfl) (of_decide_eq_true c12) (of_decide_eq_true c13)) (fun _ _ => trivial) hS ?_
              refine RunAny.y 2 (by kernel_rfl) (ld_y (d := some 38) (p := ⟨g3, (x8_0 : Int).toNat, none⟩) (k2 := [.inRegion (opsOf (pl Go.Proofs.Try.f14 [1, 1, 1, 0, 1, 0, 0, 1, 0, 0, 1])) []]) (.string (rds t2 x8_0)) (by kernel_rfl)) (fun _ hs => hs.cell hcq11 (by simp)) hS ?_
              refine RunAny.y 3 (by kernel_rfl) (yl_pure (d := some 39) (v := .int .u8 (bxor .u8 x6_0 x7_0)) (k2 := [.inRegion (opsOf (pl Go.Proofs.Try.f14 [1, 1, 1, 0, 1, 0, 0, 1, 0, 0, 1])) []]) fun w => by kernel_rfl) (fun _ _ => trivial) hS ?_
              rcases two (decide (0 ≤ (bxor .u8 x6_0 x7_0))) with c14 | c14
              · replace h := of_true h c14
                rcases two (decide ((bxor .u8 x6_0 x7_0) < ((rds t2 x8_0).size : Int))) with c15 | c15
                · replace h := of_true h c15
                  refine RunAny.y 4 (by kernel_rfl) (idxStr_y (d := some 40) (s := rds t2 x8_0) (i := bxor .u8 x6_0 x7_0) (k2 := [.inRegion (opsOf (pl Go.Proofs.Try.f14 [1, 1, 1, 0, 1, 0, 0, 1, 0, 0, 1])) []]) (by kernel_rfl) (of_decide_eq_true c14) (of_decide_eq_true c15)) (fun _ _ => trivial) hS ?_
                  refine RunAny.y 6 (by kernel_rfl) (yl_pure (d := some 42) (v := .int .i64 x8_0) (k2 := [.inRegion (opsOf (pl Go.Proofs.Try.f14 [1, 1, 1, 0, 1, 0, 0, 1, 0, 0, 1])) []]) fun w => by kernel_rfl) (fun _ _ => trivial) hS ?_
                  refine RunAny.y 7 (by kernel_rfl) (yl_pure (d := some 43) (v := .int .i64 (I64 (x8_0 + 1))) (k2 := [.inRegion (opsOf (pl Go.Proofs.Try.f14 [1, 1, 1, 0, 1, 0, 0, 1, 0, 0, 1])) []]) fun w => by kernel_rfl) (fun _ _ => trivial) hS ?_
                  rcases two (decide (0 ≤ (I64 (x8_0 + 1)))) with c17 | c17
                  · replace h := of_true h c17
                    rcases two (decide ((I64 (x8_0 + 1)) < (4 : Int))) with c18 | c18
                    · replace h := of_true h c18
                      obtain ⟨hcq16, hfq16, hlq16⟩ := hM.arr_str 0 rfl (i := I64 (x8_0 + 1)) (of_decide_eq_true c17) (N := 4) hNt2_0 (of_decide_eq_true c18)
                      refine RunAny.y 8 (by kernel_rfl) (idxArr_own (d := some 44) (g := g3) (len := 4) (i := I64 (x8_0 + 1)) (k2 := [.inRegion (opsOf (pl Go.Proofs.Try.f14 [1, 1, 1, 0, 1, 0, 0, 1, 0, 0, 1])) []]) (by kernel_rfl) (of_decide_eq_true c17) (of_decide_eq_true c18)) (fun _ _ => trivial) hS ?_
                      refine RunAny.y 9 (by kernel_rfl) (ld_y (d := some 45) (p := ⟨g3, (I64 (x8_0 + 1) : Int).toNat, none⟩) (k2 := [.inRegion (opsOf (pl Go.Proofs.Try.f14 [1, 1, 1, 0, 1, 0, 0, 1, 0, 0, 1])) []]) (.string (rds t2 (I64 (x8_0 + 1)))) (by kernel_rfl)) (fun _ hs => hs.cell hcq16 (by simp)) hS ?_
                      refine RunAny.y 10 (by kernel_rfl) (yl_pure (d := some 46) (v := .int .u8 y8) (k2 := [.inRegion (opsOf (pl Go.Proofs.Try.f14 [1, 1, 1, 0, 1, 0, 0, 1, 0, 0, 1])) []]) fun w => by kernel_rfl) (fun _ _ => trivial) hS ?_
                      rcases two (decide (0 ≤ y8)) with c19 | c19
                      · replace h := of_true h c19
                        rcases two (decide (y8 < ((rds t2 (I64 (x8_0 + 1))).size : Int))) with c20 | c20
                        · replace h := of_true h c20
                          refine RunAny.y 11 (by kernel_rfl) (idxStr_y (d := some 47) (s := rds t2 (I64 (x8_0 + 1))) (i := y8) (k2 := [.inRegion (opsOf (pl Go.Proofs.Try.f14 [1, 1, 1, 0, 1, 0, 0, 1, 0, 0, 1])) []]) (by kernel_rfl) (of_decide_eq_true c19) (of_decide_eq_true c20)) (fun _ _ => trivial) hS ?_
                          obtain ⟨t22, ht22, h⟩ := Option.bind_eq_some_iff.mp h
                          refine RunAny.call 5 (d := some 41) (g := 31) (args := #[.int .u8 (sb (rds t2 x8_0) (bxor .u8 x6_0 x7_0))]) (by kernel_rfl) (by kernel_rfl) (twofish_sign.calls k (sb (rds t2 x8_0) (bxor .u8 x6_0 x7_0)) t22 _ ht22) (by rintro _ _ ⟨rfl, hM_⟩; exact hS.below hM_.below) ?_
                          rintro _ W21 ⟨rfl, hM_⟩
                          replace hS := hS.below hM_.below
                          replace hM := hM.call hM_
                          clear hM_ ht22
                          refine RunAny.rebase hS ?_
                          replace hS := Still.refl W21 []
                          obtain ⟨t24, ht24, h⟩ := Option.bind_eq_some_iff.mp h
                          refine RunAny.call 12 (d := some 48) (g := 31) (args := #[.int .u8 (sb (rds t2 (I64 (x8_0 + 1))) y8)]) (by kernel_rfl) (by kernel_rfl) (twofish_sign.calls k (sb (rds t2 (I64 (x8_0 + 1))) y8) t24 _ ht24) (by rintro _ _ ⟨rfl, hM_⟩; exact hS.below hM_.below) ?_
                          rintro _ W23 ⟨rfl, hM_⟩
                          replace hS := hS.below hM_.below
                          replace hM := hM.call hM_
                          clear hM_ ht24
                          refine RunAny.rebase hS ?_
                          replace hS := Still.refl W23 []
                          refine RunAny.y 13 (by kernel_rfl) (yl_pure (d := some 6) (v := .int .u8 t22) (k2 := [.inRegion (opsOf (pl Go.Proofs.Try.f14 [1, 1, 1, 0, 1, 0, 0, 1, 0, 0, 1])) []]) fun w => by kernel_rfl) (fun _ _ => trivial) hS ?_
                          refine RunAny.y 14 (by kernel_rfl) (yl_pure (d := some 7) (v := .int .u8 t24) (k2 := [.inRegion (opsOf (pl Go.Proofs.Try.f14 [1, 1, 1, 0, 1, 0, 0, 1, 0, 0, 1])) []]) fun w => by kernel_rfl) (fun _ _ => trivial) hS ?_
                          refine RunAny.done (by kernel_rfl) ?_
                          clear hS
                          refine RunF.go 7 [5, 6, 7, 8] (k' := (pl Go.Proofs.Try.f14 [1, 1, 1, 0, 1, 0, 0])) (L' := [(5, .pointer (some ⟨g3, 0, none⟩)), (6, .int .u8 t22), (7, .int .u8 t24), (8, .int .i64 (I64 (x8_0 + 2)))]) (w' := W23) (by kernel_rfl) ?_
                          exact ih0 k (by omega) t22 t24 (I64 (x8_0 + 2)) _ (hM.pick [0] rfl rfl) h
                        · replace h := of_false h c20
                          cases h
                      · replace h := of_false h c19
                        cases h
                    · replace h := of_false h c18
                      cases h
                  · replace h := of_false h c17
                    cases h
                · replace h := of_false h c15
                  cases h
              · replace h := of_false h c14
                cases h
            · replace h := of_false h c13
              cases h
          · replace h := of_false h c12
            cases h
        · replace h := of_false h c7
          refine RunF.know 18 (b := false) (by kernel_rfl) c7 ?_
          refine RunF.go 10 [4] (k' := (pl Go.Proofs.Try.f14 [1, 1, 1, 1, 1])) (L' := [(4, .int .u8 (bor .u8 (shl .u8 x7_0 4) x6_0))]) (w' := W) (by kernel_rfl) ?_
          obtain rfl := Option.some.inj h
          exact RunF.ret1 4 (.int .u8 (bor .u8 (shl .u8 x7_0 4) x6_0)) (fn := Go.Proofs.Try.f14) Go.Proofs.Try.func14 (by kernel_rfl) (by kernel_rfl) (by kernel_rfl) ⟨_, rfl, rfl, (hM.pick [] rfl rfl)⟩
  exact l0 k (Nat.le_refl _) (shr a1 4) (band .u8 a1 15) 0 _ (hM.pick [0] rfl rfl) h

/-! ### scrim/words.load: function 50 -/
def words_load.l0 : Nat → (List Int) → Int → Int → Option (Int)
  | 0, _, _, _ => none
  | k + 1, a0, x3_0, x4_0 => if (decide (x4_0 < (a0.length : Int))) = true then (if (decide (0 ≤ x4_0)) = true then (if (decide (x4_0 < (a0.length : Int))) = true then ((some (bor .u64 (shl .u64 x3_0 8) (U64 (rd a0 x4_0)) : Int)).bind fun y5 => (words_load.l0 k a0 y5 (I64 (x4_0 + 1)))) else (none)) else (none)) else (some x3_0)
def words_load.f (k : Nat) (a0 : List Int) : Option (Int) := words_load.l0 k a0 0 0
set_option maxRecDepth 100000 in
theorem words_load.calls (k : Nat) (Ap0 : Option Addr) (np0 cp0 : Nat) (a0 : List Int) (r : Int) (w : World) (hr0 : Rd w (.slice Ap0 np0 cp0) (nums .u8 a0)) (h : words_load.f k a0 = some r) :
    Calls Go.Proofs.Try.prog 50 #[(.slice Ap0 np0 cp0)] w (Ret fun v w' => v = .int .u64 r ∧ Mem w w' []) := by
  obtain rfl : a0.length = np0 := by have h_ := hr0.1; simpa [nums_length, bools_length, strs_length] using h_
  unfold words_load.f at h
  refine calls_of [.slice Ap0 a0.length cp0] (fn := Go.Proofs.Try.f50) Go.Proofs.Try.func50 (by kernel_rfl) (by kernel_rfl) ?_
  have hM := Mem.refl w
  refine RunF.go 12 [0, 3, 4] (k' := (pl Go.Proofs.Try.f50 [1, 0, 1, 1])) (L' := [(0, .slice Ap0 a0.length cp0), (3, .int .u64 0), (4, .int .i64 0)]) (w' := w) (by kernel_rfl) ?_
  have l0 : ∀ (k_ : Nat), k_ ≤ k → ∀ (x3_0 : Int) (x4_0 : Int) (W : World) (hM : Mem w W []) (h : words_load.l0 k_ a0 x3_0 x4_0 = some r), RunF Go.Proofs.Try.prog (Ret fun v w' => v = .int .u64 r ∧ Mem w w' []) 50 (pl Go.Proofs.Try.f50 [1, 0, 1, 1]) 20 [(0, .slice Ap0 a0.length cp0), (3, .int .u64 x3_0), (4, .int .i64 x4_0)] W := by
    intro k_
    induction k_ using Nat.strongRecOn with
    | _ k_ ih0 =>
      intro hk x3_0 x4_0 W hM h
      cases k_ with
      | zero => exact absurd h (by simp [words_load.l0])
      | succ k =>
        simp only [words_load.l0] at h
        replace ih0 : ∀ m, m ≤ k → _ := fun m hm => ih0 m (by omega) (by omega)
        refine RunF.go 8 [0, 3, 4, 8] (k' := (pl Go.Proofs.Try.f50 [1, 0, 1, 1, 0, 1])) (L' := [(0, .slice Ap0 a0.length cp0), (3, .int .u64 x3_0), (4, .int .i64 x4_0), (8, .bool (decide (x4_0 < (a0.length : Int))))]) (w' := W) (by kernel_rfl) ?_
        rcases two (decide (x4_0 < (a0.length : Int))) with c1 | c1
        · replace h := of_true h c1
          refine RunF.know 8 (b := true) (by kernel_rfl) c1 ?_
          refine RunF.go 7 [0, 4, 10, 11, 12] (k' := (pin Go.Proofs.Try.f50 [1, 0, 1, 1, 0, 1, 0, 0] 4)) (L' := [(0, .slice Ap0 a0.length cp0), (4, .int .i64 x4_0), (10, .int .u64 (shl .u64 x3_0 8)), (11, .slice Ap0 a0.length cp0), (12, .int .i64 x4_0)]) (w' := W) (by kernel_rfl) ?_
          rcases two (decide (0 ≤ x4_0)) with c3 | c3
          · replace h := of_true h c3
            rcases two (decide (x4_0 < (a0.length : Int))) with c4 | c4
            · replace h := of_true h c4
              obtain ⟨q2, hAq2, hcq2⟩ := Rd.num (hr0.mono hM.below) (i := x4_0) (of_decide_eq_true c3) (by have h_ := of_decide_eq_true c4; omega)
              refine RunF.y (idx_y (d := some 13) (A := Ap0) (m := a0.length) (i := x4_0) (k2 := (pin Go.Proofs.Try.f50 [1, 0, 1, 1, 0, 1, 0, 0] 5)) (by kernel_rfl) (of_decide_eq_true c3) (by have h_ := of_decide_eq_true c4; omega) hAq2) trivial ?_
              refine RunF.y (ld_y (d := some 14) (p := (q2.add (x4_0 : Int).toNat)) (k2 := (pin Go.Proofs.Try.f50 [1, 0, 1, 1, 0, 1, 0, 0] 6)) (.int .u8 (rd a0 x4_0)) (by kernel_rfl)) hcq2 ?_
              refine RunF.go 13 [0, 3, 4] (k' := (pl Go.Proofs.Try.f50 [1, 0, 1, 1])) (L' := [(0, .slice Ap0 a0.length cp0), (3, .int .u64 (bor .u64 (shl .u64 x3_0 8) (U64 (rd a0 x4_0)))), (4, .int .i64 (I64 (x4_0 + 1)))]) (w' := W) (by kernel_rfl) ?_
              obtain ⟨y5, hy, h⟩ := Option.bind_eq_some_iff.mp h
              rw [show (bor .u64 (shl .u64 x3_0 8) (U64 (rd a0 x4_0))) = y5 from Option.some.inj hy]
              clear hy
              exact ih0 k (by omega) y5 (I64 (x4_0 + 1)) _ (hM.pick [] rfl rfl) h
            · replace h := of_false h c4
              cases h
          · replace h := of_false h c3
            cases h
        · replace h := of_false h c1
          refine RunF.know 8 (b := false) (by kernel_rfl) c1 ?_
          refine RunF.go 7 [2] (k' := (pl Go.Proofs.Try.f50 [1, 0, 1, 1, 1, 1])) (L' := [(2, .int .u64 x3_0)]) (w' := W) (by kernel_rfl) ?_
          obtain rfl := Option.some.inj h
          exact RunF.ret1 2 (.int .u64 x3_0) (fn := Go.Proofs.Try.f50) Go.Proofs.Try.func50 (by kernel_rfl) (by kernel_rfl) (by kernel_rfl) ⟨_, rfl, rfl, (hM.pick [] rfl rfl)⟩
  exact l0 k (Nat.le_refl _) 0 0 _ (hM.pick [] rfl rfl) h

/-! ### scrim/words.Be32: function 45 -/
def words_Be32.f (k : Nat) (a0 : List Int) : Option (Int × Bool) := if ((a0.length : Int) != 4) = true then (some (0, false)) else ((words_load.f k a0).bind fun t3 => (some (U32 (t3), true)))
set_option maxRecDepth 100000 in
theorem words_Be32.calls (k : Nat) (Ap0 : Option Addr) (np0 cp0 : Nat) (a0 : List Int) (r : Int × Bool) (w : World) (hr0 : Rd w (.slice Ap0 np0 cp0) (nums .u8 a0)) (h : words_Be32.f k a0 = some r) :
    Calls Go.Proofs.Try.prog 45 #[(.slice Ap0 np0 cp0)] w (Ret fun v w' => v = .tuple #[.int .u32 r.1, .bool r.2] ∧ Mem w w' []) := by
  obtain rfl : a0.length = np0 := by have h_ := hr0.1; simpa [nums_length, bools_length, strs_length] using h_
  unfold words_Be32.f at h
  refine calls_of [.slice Ap0 a0.length cp0] (fn := Go.Proofs.Try.f45) Go.Proofs.Try.func45 (by kernel_rfl) (by kernel_rfl) ?_
  have hM := Mem.refl w
  refine RunF.go 12 [0, 6] (k' := (pl Go.Proofs.Try.f45 [1, 0, 1])) (L' := [(0, .slice Ap0 a0.length cp0), (6, .bool ((a0.length : Int) != 4))]) (w' := w) (by kernel_rfl) ?_
  rcases two (((a0.length : Int) != 4)) with c1 | c1
  · replace h := of_true h c1
    refine RunF.know 6 (b := true) (by kernel_rfl) c1 ?_
    refine RunF.go 6 [2, 3] (k' := (pl Go.Proofs.Try.f45 [1, 0, 1, 0, 1])) (L' := [(2, .int .u32 0), (3, .bool false)]) (w' := w) (by kernel_rfl) ?_
    obtain rfl := Option.some.inj h
    exact RunF.ret2 2 3 (.int .u32 0) (.bool false) (fn := Go.Proofs.Try.f45) Go.Proofs.Try.func45 (by kernel_rfl) (by kernel_rfl) (by kernel_rfl) (by kernel_rfl) ⟨_, rfl, rfl, (hM.pick [] rfl rfl)⟩
  · replace h := of_false h c1
    refine RunF.know 6 (b := false) (by kernel_rfl) c1 ?_
    refine RunF.go 5 [7] (k' := (pin Go.Proofs.Try.f45 [1, 1, 0] 1)) (L' := [(7, .slice Ap0 a0.length cp0)]) (w' := w) (by kernel_rfl) ?_
    obtain ⟨t3, ht3, h⟩ := Option.bind_eq_some_iff.mp h
    refine RunF.call (d := some 8) (g := 50) (args := #[.slice Ap0 a0.length cp0]) (k2 := (pin Go.Proofs.Try.f45 [1, 1, 0] 2)) (by kernel_rfl) (words_load.calls k Ap0 a0.length cp0 a0 t3 _ (hr0.mono hM.below) ht3) ?_
    rintro _ W2 ⟨rfl, hM_⟩
    replace hM := hM.call hM_
    clear hM_ ht3
    refine RunF.go 4 [2, 3] (k' := (pl Go.Proofs.Try.f45 [1, 1, 1])) (L' := [(2, .int .u32 (U32 (t3))), (3, .bool true)]) (w' := W2) (by kernel_rfl) ?_
    obtain rfl := Option.some.inj h
    exact RunF.ret2 2 3 (.int .u32 (U32 (t3))) (.bool true) (fn := Go.Proofs.Try.f45) Go.Proofs.Try.func45 (by kernel_rfl) (by kernel_rfl) (by kernel_rfl) (by kernel_rfl) ⟨_, rfl, rfl, (hM.pick [] rfl rfl)⟩

/-! ### scrim/words.turned: function 46 -/
def words_turned.l0 : Nat → (List Int) → (List Int) → Int → Option (List Int)
  | 0, _, _, _ => none
  | k + 1, a0, x3_0, x4_0 => if (decide (x4_0 ≥ 0)) = true then (if (decide (0 ≤ x4_0)) = true then (if (decide (x4_0 < (a0.length : Int))) = true then (if (decide (x3_0.length + ([rd a0 x4_0] : List Int).length ≤ 1000000000)) = true then (words_turned.l0 k a0 (x3_0 ++ ([rd a0 x4_0] : List Int)) (I64 (x4_0 - 1))) else (none)) else (none)) else (none)) else (some x3_0)
def words_turned.f (k : Nat) (a0 : List Int) : Option (List Int) := if (decide (0 ≤ (a0.length : Int))) = true then (if (decide ((a0.length : Int) ≤ 1000000000)) = true then (words_turned.l0 k a0 (List.replicate 0 (0 : Int)) (I64 ((a0.length : Int) - 1))) else (none)) else (none)
set_option maxRecDepth 100000 in
theorem words_turned.calls (k : Nat) (Ap0 : Option Addr) (np0 cp0 : Nat) (a0 : List Int) (r : List Int) (w : World) (hr0 : Rd w (.slice Ap0 np0 cp0) (nums .u8 a0)) (h : words_turned.f k a0 = some r) :
    Calls Go.Proofs.Try.prog 46 #[(.slice Ap0 np0 cp0)] w (Ret fun v w' => ∃ A0' n0' c0', v = .slice A0' n0' c0' ∧ Mem w w' [⟨.slice A0' n0' c0', 5, 1, nums .u8 r⟩]) := by
  obtain rfl : a0.length = np0 := by have h_ := hr0.1; simpa [nums_length, bools_length, strs_length] using h_
  unfold words_turned.f at h
  refine calls_of [.slice Ap0 a0.length cp0] (fn := Go.Proofs.Try.f46) Go.Proofs.Try.func46 (by kernel_rfl) (by kernel_rfl) ?_
  have hM := Mem.refl w
  refine RunF.go 8 [0, 6] (k' := (pin Go.Proofs.Try.f46 [1, 0] 2)) (L' := [(0, .slice Ap0 a0.length cp0), (6, .int .i64 (a0.length : Int))]) (w' := w) (by kernel_rfl) ?_
  rcases two (decide (0 ≤ (a0.length : Int))) with c3 | c3
  · replace h := of_true h c3
    rcases two (decide ((a0.length : Int) ≤ 1000000000)) with c4 | c4
    · replace h := of_true h c4
      have := of_decide_eq_true c3
      have := of_decide_eq_true c4
      obtain ⟨W1, hD, hM', hB_⟩ := mk_does (P := Go.Proofs.Try.prog) (n := 23) (k := (pin Go.Proofs.Try.f46 [1, 0] 2)) (L := [(0, .slice Ap0 a0.length cp0), (6, .int .i64 (a0.length : Int))]) (d := some 7) (e := 5) (z := .int .u8 0) (l := 0) (c := (a0.length : Int)) (k2 := (pin Go.Proofs.Try.f46 [1, 0] 3)) (by kernel_rfl) (by omega) (by omega) (by omega) hM
      rw [rep_nums] at hM'
      refine RunF.does hD ?_
      replace hM := hM'; clear hD hM'
      generalize w.heap.size = g2 at hM ⊢
      refine RunF.go 12 [0, 3, 4] (k' := (pl Go.Proofs.Try.f46 [1, 1, 0, 1, 0, 0])) (L' := [(0, .slice Ap0 a0.length cp0), (3, .slice (some ⟨g2, 0, none⟩) 0 (((a0.length : Int) : Int).toNat)), (4, .int .i64 (I64 ((a0.length : Int) - 1)))]) (w' := W1) (by kernel_rfl) ?_
      have l0 : ∀ (k_ : Nat), k_ ≤ k → ∀ (A3_0 : Option Addr) (c3_0 : Nat) (x3_0 : List Int) (x4_0 : Int) (W : World) (hM : Mem w W [⟨.slice A3_0 x3_0.length c3_0, 5, 1, nums .u8 x3_0⟩]) (h : words_turned.l0 k_ a0 x3_0 x4_0 = some r), RunF Go.Proofs.Try.prog (Ret fun v w' => ∃ A0' n0' c0', v = .slice A0' n0' c0' ∧ Mem w w' [⟨.slice A0' n0' c0', 5, 1, nums .u8 r⟩]) 46 (pl Go.Proofs.Try.f46 [1, 1, 0, 1, 0, 0]) 23 [(0, .slice Ap0 a0.length cp0), (3, .slice A3_0 x3_0.length c3_0), (4, .int .i64 x4_0)] W := by
        intro k_
        induction k_ using Nat.strongRecOn with
        | _ k_ ih0 =>
          intro hk A3_0 c3_0 x3_0 x4_0 W hM h
          cases k_ with
          | zero => exact absurd h (by simp [words_turned.l0])
          | succ k =>
            simp only [words_turned.l0] at h
            replace ih0 : ∀ m, m ≤ k → _ := fun m hm => ih0 m (by omega) (by omega)
            refine RunF.go 6 [0, 3, 4, 12] (k' := (pl Go.Proofs.Try.f46 [1, 1, 0, 1, 0, 0, 0, 1])) (L' := [(0, .slice Ap0 a0.length cp0), (3, .slice A3_0 x3_0.length c3_0), (4, .int .i64 x4_0), (12, .bool (decide (x4_0 ≥ 0)))]) (w' := W) (by kernel_rfl) ?_
            rcases two (decide (x4_0 ≥ 0)) with c7 | c7
            · replace h := of_true h c7
              refine RunF.know 12 (b := true) (by kernel_rfl) c7 ?_
              refine RunF.go 8 [0, 4, 15, 16, 17] (k' := (pin Go.Proofs.Try.f46 [1, 1, 0, 1, 0, 0, 1, 0, 0] 3)) (L' := [(0, .slice Ap0 a0.length cp0), (4, .int .i64 x4_0), (15, .slice A3_0 x3_0.length c3_0), (16, .slice Ap0 a0.length cp0), (17, .int .i64 x4_0)]) (w' := W) (by kernel_rfl) ?_
              rcases two (decide (0 ≤ x4_0)) with c9 | c9
              · replace h := of_true h c9
                rcases two (decide (x4_0 < (a0.length : Int))) with c10 | c10
                · replace h := of_true h c10
                  obtain ⟨q8, hAq8, hcq8⟩ := Rd.num (hr0.mono hM.below) (i := x4_0) (of_decide_eq_true c9) (by have h_ := of_decide_eq_true c10; omega)
                  refine RunF.y (idx_y (d := some 18) (A := Ap0) (m := a0.length) (i := x4_0) (k2 := (pin Go.Proofs.Try.f46 [1, 1, 0, 1, 0, 0, 1, 0, 0] 4)) (by kernel_rfl) (of_decide_eq_true c9) (by have h_ := of_decide_eq_true c10; omega) hAq8) trivial ?_
                  refine RunF.y (ld_y (d := some 19) (p := (q8.add (x4_0 : Int).toNat)) (k2 := (pin Go.Proofs.Try.f46 [1, 1, 0, 1, 0, 0, 1, 0, 0] 5)) (.int .u8 (rd a0 x4_0)) (by kernel_rfl)) hcq8 ?_
                  refine RunF.new 5 1 1 (nums .u8 [rd a0 x4_0]) (d := some 20) (k2 := (pin Go.Proofs.Try.f46 [1, 1, 0, 1, 0, 0, 1, 0, 0] 6)) hM (by simp [nums, bools, strs]) (by kernel_rfl) (by kernel_rfl) ?_
                  replace hM := hM
                  intro g11 W12 hM
                  rcases two (decide (x3_0.length + ([rd a0 x4_0] : List Int).length ≤ 1000000000)) with c18 | c18
                  · replace h := of_true h c18
                    have h_ := of_decide_eq_true c18
                    obtain ⟨A14, n15, c16, W17, hD, hM', hS_⟩ := app_does (P := Go.Proofs.Try.prog) (n := 23) (k := (pin Go.Proofs.Try.f46 [1, 1, 0, 1, 0, 0, 1, 0, 0] 6)) (L := (upd (upd (upd [(0, .slice Ap0 a0.length cp0), (4, .int .i64 x4_0), (15, .slice A3_0 x3_0.length c3_0), (16, .slice Ap0 a0.length cp0), (17, .int .i64 x4_0)] (some 18) (.pointer (some (q8.add (x4_0 : Int).toNat)))) (some 19) (.int .u8 (rd a0 x4_0))) (some 20) (.slice (some ⟨g11, 0, none⟩) 1 1))) (d := some 21) (e := 5) (A := A3_0) (m := x3_0.length) (c := c3_0) (A2 := (some ⟨g11, 0, none⟩)) (m2 := 1) (c2 := 1) (cs := nums .u8 x3_0) (ys := nums .u8 ([rd a0 x4_0] : List Int)) (k2 := (pin Go.Proofs.Try.f46 [1, 1, 0, 1, 0, 0, 1, 0, 0] 7)) [⟨.slice (some ⟨g11, 0, none⟩) 1 1, 5, 1, nums .u8 [rd a0 x4_0]⟩] [] (by kernel_rfl) (hM.pick [0, 1] rfl rfl) (hM.rd 0 rfl) (one_nums _ _) (by omega)
                    rw [nums_append] at hM'
                    replace hM := hM'; clear h_ hM'
                    obtain rfl : (x3_0 ++ ([rd a0 x4_0] : List Int)).length = n15 := by have h_ := (hM.rd 1 rfl).1; simpa only [nums_length, bools_length, strs_length] using h_
                    refine RunF.does hD ?_
                    clear hD hS_
                    refine RunF.go 9 [0, 3, 4] (k' := (pl Go.Proofs.Try.f46 [1, 1, 0, 1, 0, 0])) (L' := [(0, .slice Ap0 a0.length cp0), (3, .slice A14 ((x3_0 ++ ([rd a0 x4_0] : List Int)).length) c16), (4, .int .i64 (I64 (x4_0 - 1)))]) (w' := W17) (by kernel_rfl) ?_
                    exact ih0 k (by omega) A14 c16 (x3_0 ++ ([rd a0 x4_0] : List Int)) (I64 (x4_0 - 1)) _ (hM.pick [1] rfl rfl) h
                  · replace h := of_false h c18
                    cases h
                · replace h := of_false h c10
                  cases h
              · replace h := of_false h c9
                cases h
            · replace h := of_false h c7
              refine RunF.know 12 (b := false) (by kernel_rfl) c7 ?_
              refine RunF.go 7 [2] (k' := (pl Go.Proofs.Try.f46 [1, 1, 1, 1])) (L' := [(2, .slice A3_0 x3_0.length c3_0)]) (w' := W) (by kernel_rfl) ?_
              obtain rfl := Option.some.inj h
              exact RunF.ret1 2 (.slice A3_0 x3_0.length c3_0) (fn := Go.Proofs.Try.f46) Go.Proofs.Try.func46 (by kernel_rfl) (by kernel_rfl) (by kernel_rfl) ⟨_, rfl, A3_0, x3_0.length, c3_0, rfl, (hM.pick [0] rfl rfl)⟩
      exact l0 k (Nat.le_refl _) (some ⟨g2, 0, none⟩) (((a0.length : Int) : Int).toNat) (List.replicate 0 (0 : Int)) (I64 ((a0.length : Int) - 1)) _ (hM.pick [0] rfl rfl) h
    · replace h := of_false h c4
      cases h
  · replace h := of_false h c3
    cases h

/-! ### scrim/words.Le32: function 24 -/
def words_Le32.f (k : Nat) (a0 : List Int) : Option (Int × Bool) := (words_turned.f k a0).bind fun t2 => ((words_Be32.f k t2).bind fun t8 => (some (t8.1, t8.2)))
set_option maxRecDepth 100000 in
theorem words_Le32.calls (k : Nat) (Ap0 : Option Addr) (np0 cp0 : Nat) (a0 : List Int) (r : Int × Bool) (w : World) (hr0 : Rd w (.slice Ap0 np0 cp0) (nums .u8 a0)) (h : words_Le32.f k a0 = some r) :
    Calls Go.Proofs.Try.prog 24 #[(.slice Ap0 np0 cp0)] w (Ret fun v w' => v = .tuple #[.int .u32 r.1, .bool r.2] ∧ Mem w w' []) := by
  obtain rfl : a0.length = np0 := by have h_ := hr0.1; simpa [nums_length, bools_length, strs_length] using h_
  unfold words_Le32.f at h
  refine calls_of [.slice Ap0 a0.length cp0] (fn := Go.Proofs.Try.f24) Go.Proofs.Try.func24 (by kernel_rfl) (by kernel_rfl) ?_
  have hM := Mem.refl w
  refine RunF.go 8 [4] (k' := (pin Go.Proofs.Try.f24 [1, 0] 1)) (L' := [(4, .slice Ap0 a0.length cp0)]) (w' := w) (by kernel_rfl) ?_
  obtain ⟨t2, ht2, h⟩ := Option.bind_eq_some_iff.mp h
  refine RunF.call (d := some 5) (g := 46) (args := #[.slice Ap0 a0.length cp0]) (k2 := (pin Go.Proofs.Try.f24 [1, 0] 2)) (by kernel_rfl) (words_turned.calls k Ap0 a0.length cp0 a0 t2 _ (hr0.mono hM.below) ht2) ?_
  rintro _ W1 ⟨A3, n4, c5, rfl, hM_⟩
  obtain rfl : t2.length = n4 := by have h_ := (hM_.rd 0 rfl).1; simpa [nums_length, bools_length, strs_length] using h_
  replace hM := hM.call hM_
  clear hM_ ht2
  obtain ⟨t8, ht8, h⟩ := Option.bind_eq_some_iff.mp h
  refine RunF.call (d := some 6) (g := 45) (args := #[.slice A3 t2.length c5]) (k2 := (pin Go.Proofs.Try.f24 [1, 0] 3)) (by kernel_rfl) (words_Be32.calls k A3 t2.length c5 t2 t8 _ (hM.rd 0 rfl) ht8) ?_
  rintro _ W7 ⟨rfl, hM_⟩
  replace hM := hM.call hM_
  clear hM_ ht8
  refine RunF.go 5 [2, 3] (k' := (pl Go.Proofs.Try.f24 [1, 1])) (L' := [(2, .int .u32 t8.1), (3, .bool t8.2)]) (w' := W7) (by kernel_rfl) ?_
  obtain rfl := Option.some.inj h
  exact RunF.ret2 2 3 (.int .u32 t8.1) (.bool t8.2) (fn := Go.Proofs.Try.f24) Go.Proofs.Try.func24 (by kernel_rfl) (by kernel_rfl) (by kernel_rfl) (by kernel_rfl) ⟨_, rfl, rfl, (hM.pick [] rfl rfl)⟩

/-! ### scrim/words.store: function 51 -/
def words_store.l0 : Nat → Int → Int → (List Int) → Int → Option (List Int)
  | 0, _, _, _, _ => none
  | k + 1, a1, x0_0, x5_0, x6_0 => if (decide (x6_0 > 0)) = true then (if (decide (0 ≤ (I64 (x6_0 - 1)))) = true then (if (decide ((I64 (x6_0 - 1)) < ((a1 : Int).toNat : Int))) = true then (words_store.l0 k a1 (shr x0_0 8) (x5_0.set (I64 (x6_0 - 1) : Int).toNat (U8 (x0_0))) (I64 (x6_0 - 1))) else (none)) else (none)) else (some x5_0)
def words_store.f (k : Nat) (a0 : Int) (a1 : Int) : Option (List Int) := if (decide (0 ≤ a1)) = true then (if (decide (a1 ≤ 1000000000)) = true then (words_store.l0 k a1 a0 (List.replicate ((a1 : Int).toNat) (0 : Int)) a1) else (none)) else (none)
set_option maxRecDepth 100000 in
theorem words_store.calls (k : Nat) (a0 : Int) (a1 : Int) (r : List Int) (w : World) (h : words_store.f k a0 a1 = some r) :
    Calls Go.Proofs.Try.prog 51 #[.int .u64 a0, .int .i64 a1] w (Ret fun v w' => ∃ A0' n0' c0', v = .slice A0' n0' c0' ∧ Mem w w' [⟨.slice A0' n0' c0', 5, 1, nums .u8 r⟩]) := by
  unfold words_store.f at h
  refine calls_of [.int .u64 a0, .int .i64 a1] (fn := Go.Proofs.Try.f51) Go.Proofs.Try.func51 (by kernel_rfl) (by kernel_rfl) ?_
  have hM := Mem.refl w
  refine RunF.go 8 [0, 1, 7] (k' := (pin Go.Proofs.Try.f51 [1, 0, 0] 1)) (L' := [(0, .int .u64 a0), (1, .int .i64 a1), (7, .int .i64 a1)]) (w' := w) (by kernel_rfl) ?_
  rcases two (decide (0 ≤ a1)) with c3 | c3
  · replace h := of_true h c3
    rcases two (decide (a1 ≤ 1000000000)) with c4 | c4
    · replace h := of_true h c4
      have := of_decide_eq_true c3
      have := of_decide_eq_true c4
      obtain ⟨W1, hD, hM', hB_⟩ := mk_does (P := Go.Proofs.Try.prog) (n := 22) (k := (pin Go.Proofs.Try.f51 [1, 0, 0] 1)) (L := [(0, .int .u64 a0), (1, .int .i64 a1), (7, .int .i64 a1)]) (d := some 8) (e := 5) (z := .int .u8 0) (l := a1) (c := a1) (k2 := (pin Go.Proofs.Try.f51 [1, 0, 0] 2)) (by kernel_rfl) (by omega) (by omega) (by omega) hM
      rw [rep_nums] at hM'
      refine RunF.does hD ?_
      replace hM := hM'; clear hD hM'
      generalize w.heap.size = g2 at hM ⊢
      refine RunF.go 9 [0, 5, 6] (k' := (pl Go.Proofs.Try.f51 [1, 0, 1, 1, 1])) (L' := [(0, .int .u64 a0), (5, .slice (some ⟨g2, 0, none⟩) ((a1 : Int).toNat) ((a1 : Int).toNat)), (6, .int .i64 a1)]) (w' := W1) (by kernel_rfl) ?_
      have l0 : ∀ (k_ : Nat), k_ ≤ k → ∀ (x0_0 : Int) (x5_0 : List Int) (x6_0 : Int) (W : World) (hM : Mem w W [⟨.slice (some ⟨g2, 0, none⟩) ((a1 : Int).toNat) ((a1 : Int).toNat), 5, 1, nums .u8 x5_0⟩]) (h : words_store.l0 k_ a1 x0_0 x5_0 x6_0 = some r), RunF Go.Proofs.Try.prog (Ret fun v w' => ∃ A0' n0' c0', v = .slice A0' n0' c0' ∧ Mem w w' [⟨.slice A0' n0' c0', 5, 1, nums .u8 r⟩]) 51 (pl Go.Proofs.Try.f51 [1, 0, 1, 1, 1]) 22 [(0, .int .u64 x0_0), (5, .slice (some ⟨g2, 0, none⟩) ((a1 : Int).toNat) ((a1 : Int).toNat)), (6, .int .i64 x6_0)] W := by
        intro k_
        induction k_ using Nat.strongRecOn with
        | _ k_ ih0 =>
          intro hk x0_0 x5_0 x6_0 W hM h
          cases k_ with
          | zero => exact absurd h (by simp [words_store.l0])
          | succ k =>
            simp only [words_store.l0] at h
            replace ih0 : ∀ m, m ≤ k → _ := fun m hm => ih0 m (by omega) (by omega)
            refine RunF.go 6 [0, 5, 6, 11] (k' := (pl Go.Proofs.Try.f51 [1, 0, 1, 1, 1, 0, 1])) (L' := [(0, .int .u64 x0_0), (5, .slice (some ⟨g2, 0, none⟩) ((a1 : Int).toNat) ((a1 : Int).toNat)), (6, .int .i64 x6_0), (11, .bool (decide (x6_0 > 0)))]) (w' := W) (by kernel_rfl) ?_
            rcases two (decide (x6_0 > 0)) with c6 | c6
            · replace h := of_true h c6
              refine RunF.know 11 (b := true) (by kernel_rfl) c6 ?_
              refine RunF.go 13 [0, 5, 6, 14, 15, 17] (k' := (pin Go.Proofs.Try.f51 [1, 0, 1, 1, 1, 0, 1, 0, 1, 0] 4)) (L' := [(0, .int .u64 x0_0), (5, .slice (some ⟨g2, 0, none⟩) ((a1 : Int).toNat) ((a1 : Int).toNat)), (6, .int .i64 (I64 (x6_0 - 1))), (14, .slice (some ⟨g2, 0, none⟩) ((a1 : Int).toNat) ((a1 : Int).toNat)), (15, .int .i64 (I64 (x6_0 - 1))), (17, .int .u8 (U8 (x0_0)))]) (w' := W) (by kernel_rfl) ?_
              rcases two (decide (0 ≤ (I64 (x6_0 - 1)))) with c8 | c8
              · replace h := of_true h c8
                rcases two (decide ((I64 (x6_0 - 1)) < ((a1 : Int).toNat : Int))) with c9 | c9
                · replace h := of_true h c9
                  obtain ⟨q7, hAq7, hcq7, hfq7, hlq7⟩ := hM.num_at 0 rfl (i := I64 (x6_0 - 1)) (of_decide_eq_true c8) (by have h_ := of_decide_eq_true c9; omega)
                  refine RunF.y (idx_own (d := some 18) (A := (some ⟨g2, 0, none⟩)) (m := (a1 : Int).toNat) (i := I64 (x6_0 - 1)) (k2 := (pin Go.Proofs.Try.f51 [1, 0, 1, 1, 1, 0, 1, 0, 1, 0] 5)) (by kernel_rfl) (of_decide_eq_true c8) (by have h_ := of_decide_eq_true c9; omega) hAq7) trivial ?_
                  obtain ⟨g_, hA_, hc_, hf_, hl_⟩ := hM.num_at 0 rfl (i := I64 (x6_0 - 1)) (of_decide_eq_true c8) (by have h_ := of_decide_eq_true c9; omega)
                  obtain rfl : q7 = g_ := by rw [hAq7] at hA_; injection hA_ with hA_; injection hA_
                  refine RunF.doesU (st_u (p := (⟨q7, (I64 (x6_0 - 1) : Int).toNat, none⟩ : Addr)) (v := .int .u8 (U8 (x0_0))) (k2 := (pin Go.Proofs.Try.f51 [1, 0, 1, 1, 1, 0, 1, 0, 1, 0] 6)) (by kernel_rfl) hc_ hf_) ?_
                  replace hM : Mem w (W.setCell (⟨q7, (I64 (x6_0 - 1) : Int).toNat, none⟩ : Addr) (.int .u8 (U8 (x0_0)))) [⟨.slice (some ⟨g2, 0, none⟩) ((a1 : Int).toNat) ((a1 : Int).toNat), 5, 1, nums .u8 (x5_0.set (I64 (x6_0 - 1) : Int).toNat (U8 (x0_0)))⟩] := Mem.put_num [] [] (hM.pick [0] rfl rfl) hAq7 _ hl_ _
                  generalize W.setCell (⟨q7, (I64 (x6_0 - 1) : Int).toNat, none⟩ : Addr) (.int .u8 (U8 (x0_0))) = W10 at hM ⊢
                  clear hc_ hf_ hl_ hA_ hcq7
                  refine RunF.go 10 [0, 5, 6] (k' := (pl Go.Proofs.Try.f51 [1, 0, 1, 1, 1])) (L' := [(0, .int .u64 (shr x0_0 8)), (5, .slice (some ⟨g2, 0, none⟩) ((a1 : Int).toNat) ((a1 : Int).toNat)), (6, .int .i64 (I64 (x6_0 - 1)))]) (w' := W10) (by kernel_rfl) ?_
                  exact ih0 k (by omega) (shr x0_0 8) (x5_0.set (I64 (x6_0 - 1) : Int).toNat (U8 (x0_0))) (I64 (x6_0 - 1)) _ (hM.pick [0] rfl rfl) h
                · replace h := of_false h c9
                  cases h
              · replace h := of_false h c8
                cases h
            · replace h := of_false h c6
              refine RunF.know 11 (b := false) (by kernel_rfl) c6 ?_
              refine RunF.go 7 [4] (k' := (pl Go.Proofs.Try.f51 [1, 0, 1, 1, 1, 1, 1])) (L' := [(4, .slice (some ⟨g2, 0, none⟩) ((a1 : Int).toNat) ((a1 : Int).toNat))]) (w' := W) (by kernel_rfl) ?_
              obtain rfl := Option.some.inj h
              exact RunF.ret1 4 (.slice (some ⟨g2, 0, none⟩) ((a1 : Int).toNat) ((a1 : Int).toNat)) (fn := Go.Proofs.Try.f51) Go.Proofs.Try.func51 (by kernel_rfl) (by kernel_rfl) (by kernel_rfl) ⟨_, rfl, (some ⟨g2, 0, none⟩), (a1 : Int).toNat, (a1 : Int).toNat, rfl, (hM.pick [0] rfl rfl)⟩
      exact l0 k (Nat.le_refl _) a0 (List.replicate ((a1 : Int).toNat) (0 : Int)) a1 _ (hM.pick [0] rfl rfl) h
    · replace h := of_false h c4
      cases h
  · replace h := of_false h c3
    cases h

/-! ### scrim/words.PutBe32: function 49 -/
def words_PutBe32.f (k : Nat) (a0 : Int) : Option (List Int) := (words_store.f k (U64 (a0)) 4).bind fun t2 => (some t2)
set_option maxRecDepth 100000 in
theorem words_PutBe32.calls (k : Nat) (a0 : Int) (r : List Int) (w : World) (h : words_PutBe32.f k a0 = some r) :
    Calls Go.Proofs.Try.prog 49 #[.int .u32 a0] w (Ret fun v w' => ∃ A0' n0' c0', v = .slice A0' n0' c0' ∧ Mem w w' [⟨.slice A0' n0' c0', 5, 1, nums .u8 r⟩]) := by
  unfold words_PutBe32.f at h
  refine calls_of [.int .u32 a0] (fn := Go.Proofs.Try.f49) Go.Proofs.Try.func49 (by kernel_rfl) (by kernel_rfl) ?_
  have hM := Mem.refl w
  refine RunF.go 8 [4] (k' := (pin Go.Proofs.Try.f49 [1, 0] 2)) (L' := [(4, .int .u64 (U64 (a0)))]) (w' := w) (by kernel_rfl) ?_
  obtain ⟨t2, ht2, h⟩ := Option.bind_eq_some_iff.mp h
  refine RunF.call (d := some 5) (g := 51) (args := #[.int .u64 (U64 (a0)), .int .i64 4]) (k2 := (pin Go.Proofs.Try.f49 [1, 0] 3)) (by kernel_rfl) (words_store.calls k (U64 (a0)) 4 t2 _ ht2) ?_
  rintro _ W1 ⟨A3, n4, c5, rfl, hM_⟩
  obtain rfl : t2.length = n4 := by have h_ := (hM_.rd 0 rfl).1; simpa [nums_length, bools_length, strs_length] using h_
  replace hM := hM.call hM_
  clear hM_ ht2
  refine RunF.go 2 [2] (k' := (pl Go.Proofs.Try.f49 [1, 1])) (L' := [(2, .slice A3 t2.length c5)]) (w' := W1) (by kernel_rfl) ?_
  obtain rfl := Option.some.inj h
  exact RunF.ret1 2 (.slice A3 t2.length c5) (fn := Go.Proofs.Try.f49) Go.Proofs.Try.func49 (by kernel_rfl) (by kernel_rfl) (by kernel_rfl) ⟨_, rfl, A3, t2.length, c5, rfl, (hM.pick [0] rfl rfl)⟩

/-! ### scrim/words.PutLe32: function 34 -/
def words_PutLe32.f (k : Nat) (a0 : Int) : Option (List Int) := (words_PutBe32.f k a0).bind fun t2 => ((words_turned.f k t2).bind fun t8 => (some t8))
set_option maxRecDepth 100000 in
theorem words_PutLe32.calls (k : Nat) (a0 : Int) (r : List Int) (w : World) (h : words_PutLe32.f k a0 = some r) :
    Calls Go.Proofs.Try.prog 34 #[.int .u32 a0] w (Ret fun v w' => ∃ A0' n0' c0', v = .slice A0' n0' c0' ∧ Mem w w' [⟨.slice A0' n0' c0', 5, 1, nums .u8 r⟩]) := by
  unfold words_PutLe32.f at h
  refine calls_of [.int .u32 a0] (fn := Go.Proofs.Try.f34) Go.Proofs.Try.func34 (by kernel_rfl) (by kernel_rfl) ?_
  have hM := Mem.refl w
  refine RunF.go 7 [3] (k' := (pin Go.Proofs.Try.f34 [1, 0] 1)) (L' := [(3, .int .u32 a0)]) (w' := w) (by kernel_rfl) ?_
  obtain ⟨t2, ht2, h⟩ := Option.bind_eq_some_iff.mp h
  refine RunF.call (d := some 4) (g := 49) (args := #[.int .u32 a0]) (k2 := (pin Go.Proofs.Try.f34 [1, 0] 2)) (by kernel_rfl) (words_PutBe32.calls k a0 t2 _ ht2) ?_
  rintro _ W1 ⟨A3, n4, c5, rfl, hM_⟩
  obtain rfl : t2.length = n4 := by have h_ := (hM_.rd 0 rfl).1; simpa [nums_length, bools_length, strs_length] using h_
  replace hM := hM.call hM_
  clear hM_ ht2
  obtain ⟨t8, ht8, h⟩ := Option.bind_eq_some_iff.mp h
  refine RunF.call (d := some 5) (g := 46) (args := #[.slice A3 t2.length c5]) (k2 := (pin Go.Proofs.Try.f34 [1, 0] 3)) (by kernel_rfl) (words_turned.calls k A3 t2.length c5 t2 t8 _ (hM.rd 0 rfl) ht8) ?_
  rintro _ W7 ⟨A9, n10, c11, rfl, hM_⟩
  obtain rfl : t8.length = n10 := by have h_ := (hM_.rd 0 rfl).1; simpa [nums_length, bools_length, strs_length] using h_
  replace hM := hM.call hM_
  clear hM_ ht8
  refine RunF.go 2 [2] (k' := (pl Go.Proofs.Try.f34 [1, 1])) (L' := [(2, .slice A9 t8.length c11)]) (w' := W7) (by kernel_rfl) ?_
  obtain rfl := Option.some.inj h
  exact RunF.ret1 2 (.slice A9 t8.length c11) (fn := Go.Proofs.Try.f34) Go.Proofs.Try.func34 (by kernel_rfl) (by kernel_rfl) (by kernel_rfl) ⟨_, rfl, A9, t8.length, c11, rfl, (hM.pick [0] rfl rfl)⟩

/-! ### scrim/twofish.order: function 35 -/
def twofish_order.f (k : Nat) (a0 : Int) : Option (List Int) := if (a0 == 4) = true then (some ([1, 0, 0, 1] : List Int)) else (if (a0 == 3) = true then (some ([1, 1, 0, 0] : List Int)) else (if (a0 == 2) = true then (some ([0, 1, 0, 1] : List Int)) else (if (a0 == 1) = true then (some ([0, 0, 1, 1] : List Int)) else (some ([1, 0, 1, 0] : List Int)))))
set_option maxRecDepth 100000 in
theorem twofish_order.calls (k : Nat) (a0 : Int) (r : List Int) (w : World) (h : twofish_order.f k a0 = some r) :
    Calls Go.Proofs.Try.prog 35 #[.int .i64 a0] w (Ret fun v w' => v = .agg (nums .i64 r).toArray ∧ r.length = 4 ∧ Mem w w' []) := by
  unfold twofish_order.f at h
  refine calls_of [.int .i64 a0] (fn := Go.Proofs.Try.f35) Go.Proofs.Try.func35 (by kernel_rfl) (by kernel_rfl) ?_
  have hM := Mem.refl w
  refine RunF.go 2 [0] (k' := (pin Go.Proofs.Try.f35 [0] 0)) (L' := [(0, .int .i64 a0)]) (w' := w) (by kernel_rfl) ?_
  refine RunF.newVar 65 (nums .i64 (List.replicate 4 (0 : Int))) (d := some 2) (k2 := (pin Go.Proofs.Try.f35 [0] 1)) hM (by kernel_rfl) ?_
  intro g1 W2 hM
  refine RunF.go 12 [2, 3, 4] (k' := (pl Go.Proofs.Try.f35 [1, 0, 1, 0, 1])) (L' := [(2, .pointer (some ⟨g1, 0, none⟩)), (3, .int .i64 a0), (4, .bool (a0 == 4))]) (w' := W2) (by kernel_rfl) ?_
  rcases two ((a0 == 4)) with c4 | c4
  · replace h := of_true h c4
    refine RunF.know 4 (b := true) (by kernel_rfl) c4 ?_
    refine RunF.go 4 [2, 6] (k' := (pin Go.Proofs.Try.f35 [1, 0, 1, 0, 1, 0, 0] 1)) (L' := [(2, .pointer (some ⟨g1, 0, none⟩)), (6, .agg (nums .i64 ([1, 0, 0, 1] : List Int)).toArray)]) (w' := W2) (by kernel_rfl) ?_
    refine RunF.doesU (stv_u (N := 4) (cells := (nums .i64 ([1, 0, 0, 1] : List Int)).toArray) (old := (nums .i64 (List.replicate 4 (0 : Int))).toArray) (ty := 65) (k2 := (pin Go.Proofs.Try.f35 [1, 0, 1, 0, 1, 0, 0] 2)) (by kernel_rfl) (by rw [List.size_toArray]; simp only [nums_length, bools_length, strs_length]; exact rfl) (hM.block 0 rfl) (by rw [List.size_toArray]; simp only [nums_length, bools_length, strs_length]; exact List.length_replicate) (all_nums _ _)) ?_
    replace hM : Mem w (W2.setRow g1 (nums .i64 ([1, 0, 0, 1] : List Int)).toArray) [⟨.pointer (some ⟨g1, 0, none⟩), 65, 0, nums .i64 ([1, 0, 0, 1] : List Int)⟩] := Mem.setAll [] [] (hM.pick [0] rfl rfl)
    generalize W2.setRow g1 (nums .i64 ([1, 0, 0, 1] : List Int)).toArray = W5 at hM ⊢
    refine RunF.go 1 [2] (k' := (pl Go.Proofs.Try.f35 [1, 0, 1, 0, 1, 0, 1])) (L' := [(2, .pointer (some ⟨g1, 0, none⟩))]) (w' := W5) (by kernel_rfl) ?_
    obtain rfl := Option.some.inj h
    exact RunF.retc (t := 2) (ty := 65) (N := 4) (g := g1) (nums .i64 ([1, 0, 0, 1] : List Int)) (fn := Go.Proofs.Try.f35) Go.Proofs.Try.func35 (by kernel_rfl) (by kernel_rfl) (by kernel_rfl) (by kernel_rfl) (by simp only [nums_length, bools_length, strs_length]; exact rfl) (hM.block 0 rfl) ⟨_, rfl, rfl, rfl, (hM.pick [] rfl rfl)⟩
  · replace h := of_false h c4
    refine RunF.know 4 (b := false) (by kernel_rfl) c4 ?_
    refine RunF.go 6 [2, 3, 7] (k' := (pl Go.Proofs.Try.f35 [1, 0, 1, 0, 1, 1, 1])) (L' := [(2, .pointer (some ⟨g1, 0, none⟩)), (3, .int .i64 a0), (7, .bool (a0 == 3))]) (w' := W2) (by kernel_rfl) ?_
    rcases two ((a0 == 3)) with c6 | c6
    · replace h := of_true h c6
      refine RunF.know 7 (b := true) (by kernel_rfl) c6 ?_
      refine RunF.go 4 [2, 9] (k' := (pin Go.Proofs.Try.f35 [1, 0, 1, 0, 1, 1, 1, 0, 0] 1)) (L' := [(2, .pointer (some ⟨g1, 0, none⟩)), (9, .agg (nums .i64 ([1, 1, 0, 0] : List Int)).toArray)]) (w' := W2) (by kernel_rfl) ?_
      refine RunF.doesU (stv_u (N := 4) (cells := (nums .i64 ([1, 1, 0, 0] : List Int)).toArray) (old := (nums .i64 (List.replicate 4 (0 : Int))).toArray) (ty := 65) (k2 := (pin Go.Proofs.Try.f35 [1, 0, 1, 0, 1, 1, 1, 0, 0] 2)) (by kernel_rfl) (by rw [List.size_toArray]; simp only [nums_length, bools_length, strs_length]; exact rfl) (hM.block 0 rfl) (by rw [List.size_toArray]; simp only [nums_length, bools_length, strs_length]; exact List.length_replicate) (all_nums _ _)) ?_
      replace hM : Mem w (W2.setRow g1 (nums .i64 ([1, 1, 0, 0] : List Int)).toArray) [⟨.pointer (some ⟨g1, 0, none⟩), 65, 0, nums .i64 ([1, 1, 0, 0] : List Int)⟩] := Mem.setAll [] [] (hM.pick [0] rfl rfl)
      generalize W2.setRow g1 (nums .i64 ([1, 1, 0, 0] : List Int)).toArray = W7 at hM ⊢
      refine RunF.go 1 [2] (k' := (pl Go.Proofs.Try.f35 [1, 0, 1, 0, 1, 1, 1, 0, 1])) (L' := [(2, .pointer (some ⟨g1, 0, none⟩))]) (w' := W7) (by kernel_rfl) ?_
      obtain rfl := Option.some.inj h
      exact RunF.retc (t := 2) (ty := 65) (N := 4) (g := g1) (nums .i64 ([1, 1, 0, 0] : List Int)) (fn := Go.Proofs.Try.f35) Go.Proofs.Try.func35 (by kernel_rfl) (by kernel_rfl) (by kernel_rfl) (by kernel_rfl) (by simp only [nums_length, bools_length, strs_length]; exact rfl) (hM.block 0 rfl) ⟨_, rfl, rfl, rfl, (hM.pick [] rfl rfl)⟩
    · replace h := of_false h c6
      refine RunF.know 7 (b := false) (by kernel_rfl) c6 ?_
      refine RunF.go 6 [2, 3, 10] (k' := (pl Go.Proofs.Try.f35 [1, 0, 1, 0, 1, 1, 1, 1, 1])) (L' := [(2, .pointer (some ⟨g1, 0, none⟩)), (3, .int .i64 a0), (10, .bool (a0 == 2))]) (w' := W2) (by kernel_rfl) ?_
      rcases two ((a0 == 2)) with c8 | c8
      · replace h := of_true h c8
        refine RunF.know 10 (b := true) (by kernel_rfl) c8 ?_
        refine RunF.go 4 [2, 12] (k' := (pin Go.Proofs.Try.f35 [1, 0, 1, 0, 1, 1, 1, 1, 1, 0, 0] 1)) (L' := [(2, .pointer (some ⟨g1, 0, none⟩)), (12, .agg (nums .i64 ([0, 1, 0, 1] : List Int)).toArray)]) (w' := W2) (by kernel_rfl) ?_
        refine RunF.doesU (stv_u (N := 4) (cells := (nums .i64 ([0, 1, 0, 1] : List Int)).toArray) (old := (nums .i64 (List.replicate 4 (0 : Int))).toArray) (ty := 65) (k2 := (pin Go.Proofs.Try.f35 [1, 0, 1, 0, 1, 1, 1, 1, 1, 0, 0] 2)) (by kernel_rfl) (by rw [List.size_toArray]; simp only [nums_length, bools_length, strs_length]; exact rfl) (hM.block 0 rfl) (by rw [List.size_toArray]; simp only [nums_length, bools_length, strs_length]; exact List.length_replicate) (all_nums _ _)) ?_
        replace hM : Mem w (W2.setRow g1 (nums .i64 ([0, 1, 0, 1] : List Int)).toArray) [⟨.pointer (some ⟨g1, 0, none⟩), 65, 0, nums .i64 ([0, 1, 0, 1] : List Int)⟩] := Mem.setAll [] [] (hM.pick [0] rfl rfl)
        generalize W2.setRow g1 (nums .i64 ([0, 1, 0, 1] : List Int)).toArray = W9 at hM ⊢
        refine RunF.go 1 [2] (k' := (pl Go.Proofs.Try.f35 [1, 0, 1, 0, 1, 1, 1, 1, 1, 0, 1])) (L' := [(2, .pointer (some ⟨g1, 0, none⟩))]) (w' := W9) (by kernel_rfl) ?_
        obtain rfl := Option.some.inj h
        exact RunF.retc (t := 2) (ty := 65) (N := 4) (g := g1) (nums .i64 ([0, 1, 0, 1] : List Int)) (fn := Go.Proofs.Try.f35) Go.Proofs.Try.func35 (by kernel_rfl) (by kernel_rfl) (by kernel_rfl) (by kernel_rfl) (by simp only [nums_length, bools_length, strs_length]; exact rfl) (hM.block 0 rfl) ⟨_, rfl, rfl, rfl, (hM.pick [] rfl rfl)⟩
      · replace h := of_false h c8
        refine RunF.know 10 (b := false) (by kernel_rfl) c8 ?_
        refine RunF.go 6 [2, 13] (k' := (pl Go.Proofs.Try.f35 [1, 0, 1, 0, 1, 1, 1, 1, 1, 1, 1])) (L' := [(2, .pointer (some ⟨g1, 0, none⟩)), (13, .bool (a0 == 1))]) (w' := W2) (by kernel_rfl) ?_
        rcases two ((a0 == 1)) with c10 | c10
        · replace h := of_true h c10
          refine RunF.know 13 (b := true) (by kernel_rfl) c10 ?_
          refine RunF.go 4 [2, 15] (k' := (pin Go.Proofs.Try.f35 [1, 0, 1, 0, 1, 1, 1, 1, 1, 1, 1, 0, 0] 1)) (L' := [(2, .pointer (some ⟨g1, 0, none⟩)), (15, .agg (nums .i64 ([0, 0, 1, 1] : List Int)).toArray)]) (w' := W2) (by kernel_rfl) ?_
          refine RunF.doesU (stv_u (N := 4) (cells := (nums .i64 ([0, 0, 1, 1] : List Int)).toArray) (old := (nums .i64 (List.replicate 4 (0 : Int))).toArray) (ty := 65) (k2 := (pin Go.Proofs.Try.f35 [1, 0, 1, 0, 1, 1, 1, 1, 1, 1, 1, 0, 0] 2)) (by kernel_rfl) (by rw [List.size_toArray]; simp only [nums_length, bools_length, strs_length]; exact rfl) (hM.block 0 rfl) (by rw [List.size_toArray]; simp only [nums_length, bools_length, strs_length]; exact List.length_replicate) (all_nums _ _)) ?_
          replace hM : Mem w (W2.setRow g1 (nums .i64 ([0, 0, 1, 1] : List Int)).toArray) [⟨.pointer (some ⟨g1, 0, none⟩), 65, 0, nums .i64 ([0, 0, 1, 1] : List Int)⟩] := Mem.setAll [] [] (hM.pick [0] rfl rfl)
          generalize W2.setRow g1 (nums .i64 ([0, 0, 1, 1] : List Int)).toArray = W11 at hM ⊢
          refine RunF.go 1 [2] (k' := (pl Go.Proofs.Try.f35 [1, 0, 1, 0, 1, 1, 1, 1, 1, 1, 1, 0, 1])) (L' := [(2, .pointer (some ⟨g1, 0, none⟩))]) (w' := W11) (by kernel_rfl) ?_
          obtain rfl := Option.some.inj h
          exact RunF.retc (t := 2) (ty := 65) (N := 4) (g := g1) (nums .i64 ([0, 0, 1, 1] : List Int)) (fn := Go.Proofs.Try.f35) Go.Proofs.Try.func35 (by kernel_rfl) (by kernel_rfl) (by kernel_rfl) (by kernel_rfl) (by simp only [nums_length, bools_length, strs_length]; exact rfl) (hM.block 0 rfl) ⟨_, rfl, rfl, rfl, (hM.pick [] rfl rfl)⟩
        · replace h := of_false h c10
          refine RunF.know 13 (b := false) (by kernel_rfl) c10 ?_
          refine RunF.go 6 [2, 16] (k' := (pin Go.Proofs.Try.f35 [1, 1, 0] 1)) (L' := [(2, .pointer (some ⟨g1, 0, none⟩)), (16, .agg (nums .i64 ([1, 0, 1, 0] : List Int)).toArray)]) (w' := W2) (by kernel_rfl) ?_
          refine RunF.doesU (stv_u (N := 4) (cells := (nums .i64 ([1, 0, 1, 0] : List Int)).toArray) (old := (nums .i64 (List.replicate 4 (0 : Int))).toArray) (ty := 65) (k2 := (pin Go.Proofs.Try.f35 [1, 1, 0] 2)) (by kernel_rfl) (by rw [List.size_toArray]; simp only [nums_length, bools_length, strs_length]; exact rfl) (hM.block 0 rfl) (by rw [List.size_toArray]; simp only [nums_length, bools_length, strs_length]; exact List.length_replicate) (all_nums _ _)) ?_
          replace hM : Mem w (W2.setRow g1 (nums .i64 ([1, 0, 1, 0] : List Int)).toArray) [⟨.pointer (some ⟨g1, 0, none⟩), 65, 0, nums .i64 ([1, 0, 1, 0] : List Int)⟩] := Mem.setAll [] [] (hM.pick [0] rfl rfl)
          generalize W2.setRow g1 (nums .i64 ([1, 0, 1, 0] : List Int)).toArray = W12 at hM ⊢
          refine RunF.go 1 [2] (k' := (pl Go.Proofs.Try.f35 [1, 1, 1])) (L' := [(2, .pointer (some ⟨g1, 0, none⟩))]) (w' := W12) (by kernel_rfl) ?_
          obtain rfl := Option.some.inj h
          exact RunF.retc (t := 2) (ty := 65) (N := 4) (g := g1) (nums .i64 ([1, 0, 1, 0] : List Int)) (fn := Go.Proofs.Try.f35) Go.Proofs.Try.func35 (by kernel_rfl) (by kernel_rfl) (by kernel_rfl) (by kernel_rfl) (by simp only [nums_length, bools_length, strs_length]; exact rfl) (hM.block 0 rfl) ⟨_, rfl, rfl, rfl, (hM.pick [] rfl rfl)⟩

/-! ### scrim/words.Xor: function 36 -/
def words_Xor.l0 : Nat → (List Int) → (List Int) → (List Int) → Int → Option (List Int × Bool)
  | 0, _, _, _, _ => none
  | k + 1, a0, a1, x6_0, x18_0 => if (decide (x18_0 < (a0.length : Int))) = true then (if (decide (0 ≤ x18_0)) = true then (if (decide (x18_0 < (a0.length : Int))) = true then (if (decide (0 ≤ x18_0)) = true then (if (decide (x18_0 < (a1.length : Int))) = true then (if (decide (0 ≤ x18_0)) = true then (if (decide (x18_0 < (((a0.length : Int)).toNat : Int))) = true then (words_Xor.l0 k a0 a1 (x6_0.set (x18_0 : Int).toNat (bxor .u8 (rd a0 x18_0) (rd a1 x18_0))) (I64 (x18_0 + 1))) else (none)) else (none)) else (none)) else (none)) else (none)) else (none)) else (some (x6_0, true))
def words_Xor.f (k : Nat) (a0 : List Int) (a1 : List Int) : Option (List Int × Bool) := if ((a0.length : Int) != (a1.length : Int)) = true then (some (([] : List Int), false)) else (if (decide (0 ≤ (a0.length : Int))) = true then (if (decide ((a0.length : Int) ≤ 1000000000)) = true then (words_Xor.l0 k a0 a1 (List.replicate (((a0.length : Int)).toNat) (0 : Int)) 0) else (none)) else (none))
set_option maxRecDepth 100000 in
theorem words_Xor.calls (k : Nat) (Ap0 : Option Addr) (np0 cp0 : Nat) (a0 : List Int) (Ap1 : Option Addr) (np1 cp1 : Nat) (a1 : List Int) (r : List Int × Bool) (w : World) (hr0 : Rd w (.slice Ap0 np0 cp0) (nums .u8 a0)) (hr1 : Rd w (.slice Ap1 np1 cp1) (nums .u8 a1)) (h : words_Xor.f k a0 a1 = some r) :
    Calls Go.Proofs.Try.prog 36 #[(.slice Ap0 np0 cp0), (.slice Ap1 np1 cp1)] w (Ret fun v w' => ∃ A0' n0' c0', v = .tuple #[.slice A0' n0' c0', .bool r.2] ∧ Mem w w' [⟨.slice A0' n0' c0', 5, 1, nums .u8 r.1⟩]) := by
  obtain rfl : a0.length = np0 := by have h_ := hr0.1; simpa [nums_length, bools_length, strs_length] using h_
  obtain rfl : a1.length = np1 := by have h_ := hr1.1; simpa [nums_length, bools_length, strs_length] using h_
  unfold words_Xor.f at h
  refine calls_of [.slice Ap0 a0.length cp0, .slice Ap1 a1.length cp1] (fn := Go.Proofs.Try.f36) Go.Proofs.Try.func36 (by kernel_rfl) (by kernel_rfl) ?_
  have hM := Mem.refl w
  refine RunF.go 14 [0, 1, 12] (k' := (pl Go.Proofs.Try.f36 [1, 0, 1])) (L' := [(0, .slice Ap0 a0.length cp0), (1, .slice Ap1 a1.length cp1), (12, .bool ((a0.length : Int) != (a1.length : Int)))]) (w' := w) (by kernel_rfl) ?_
  rcases two (((a0.length : Int) != (a1.length : Int))) with c1 | c1
  · replace h := of_true h c1
    refine RunF.know 12 (b := true) (by kernel_rfl) c1 ?_
    refine RunF.go 6 [4, 5] (k' := (pl Go.Proofs.Try.f36 [1, 0, 1, 0, 1])) (L' := [(4, .slice none 0 0), (5, .bool false)]) (w' := w) (by kernel_rfl) ?_
    replace hM := hM.nil 5
    obtain rfl := Option.some.inj h
    exact RunF.ret2 4 5 (.slice none 0 0) (.bool false) (fn := Go.Proofs.Try.f36) Go.Proofs.Try.func36 (by kernel_rfl) (by kernel_rfl) (by kernel_rfl) (by kernel_rfl) ⟨_, rfl, none, 0, 0, rfl, (hM.pick [0] rfl rfl)⟩
  · replace h := of_false h c1
    refine RunF.know 12 (b := false) (by kernel_rfl) c1 ?_
    refine RunF.go 6 [0, 1, 14] (k' := (pin Go.Proofs.Try.f36 [1, 1, 0] 2)) (L' := [(0, .slice Ap0 a0.length cp0), (1, .slice Ap1 a1.length cp1), (14, .int .i64 (a0.length : Int))]) (w' := w) (by kernel_rfl) ?_
    rcases two (decide (0 ≤ (a0.length : Int))) with c5 | c5
    · replace h := of_true h c5
      rcases two (decide ((a0.length : Int) ≤ 1000000000)) with c6 | c6
      · replace h := of_true h c6
        have := of_decide_eq_true c5
        have := of_decide_eq_true c6
        obtain ⟨W3, hD, hM', hB_⟩ := mk_does (P := Go.Proofs.Try.prog) (n := 35) (k := (pin Go.Proofs.Try.f36 [1, 1, 0] 2)) (L := [(0, .slice Ap0 a0.length cp0), (1, .slice Ap1 a1.length cp1), (14, .int .i64 (a0.length : Int))]) (d := some 15) (e := 5) (z := .int .u8 0) (l := (a0.length : Int)) (c := (a0.length : Int)) (k2 := (pin Go.Proofs.Try.f36 [1, 1, 0] 3)) (by kernel_rfl) (by omega) (by omega) (by omega) hM
        rw [rep_nums] at hM'
        refine RunF.does hD ?_
        replace hM := hM'; clear hD hM'
        generalize w.heap.size = g4 at hM ⊢
        refine RunF.go 11 [0, 1, 6, 17, 18] (k' := (pl Go.Proofs.Try.f36 [1, 1, 1, 0, 1, 0, 0])) (L' := [(0, .slice Ap0 a0.length cp0), (1, .slice Ap1 a1.length cp1), (6, .slice (some ⟨g4, 0, none⟩) (((a0.length : Int)).toNat) (((a0.length : Int) : Int).toNat)), (17, .int .i64 (a0.length : Int)), (18, .int .i64 0)]) (w' := W3) (by kernel_rfl) ?_
        have l0 : ∀ (k_ : Nat), k_ ≤ k → ∀ (x6_0 : List Int) (x18_0 : Int) (W : World) (hM : Mem w W [⟨.slice (some ⟨g4, 0, none⟩) (((a0.length : Int)).toNat) (((a0.length : Int) : Int).toNat), 5, 1, nums .u8 x6_0⟩]) (h : words_Xor.l0 k_ a0 a1 x6_0 x18_0 = some r), RunF Go.Proofs.Try.prog (Ret fun v w' => ∃ A0' n0' c0', v = .tuple #[.slice A0' n0' c0', .bool r.2] ∧ Mem w w' [⟨.slice A0' n0' c0', 5, 1, nums .u8 r.1⟩]) 36 (pl Go.Proofs.Try.f36 [1, 1, 1, 0, 1, 0, 0]) 35 [(0, .slice Ap0 a0.length cp0), (1, .slice Ap1 a1.length cp1), (6, .slice (some ⟨g4, 0, none⟩) (((a0.length : Int)).toNat) (((a0.length : Int) : Int).toNat)), (17, .int .i64 (a0.length : Int)), (18, .int .i64 x18_0)] W := by
          intro k_
          induction k_ using Nat.strongRecOn with
          | _ k_ ih0 =>
            intro hk x6_0 x18_0 W hM h
            cases k_ with
            | zero => exact absurd h (by simp [words_Xor.l0])
            | succ k =>
              simp only [words_Xor.l0] at h
              replace ih0 : ∀ m, m ≤ k → _ := fun m hm => ih0 m (by omega) (by omega)
              refine RunF.go 5 [0, 1, 6, 17, 18, 19] (k' := (pl Go.Proofs.Try.f36 [1, 1, 1, 0, 1, 0, 0, 1, 0])) (L' := [(0, .slice Ap0 a0.length cp0), (1, .slice Ap1 a1.length cp1), (6, .slice (some ⟨g4, 0, none⟩) (((a0.length : Int)).toNat) (((a0.length : Int) : Int).toNat)), (17, .int .i64 (a0.length : Int)), (18, .int .i64 x18_0), (19, .bool (decide (x18_0 < (a0.length : Int))))]) (w' := W) (by kernel_rfl) ?_
              rcases two (decide (x18_0 < (a0.length : Int))) with c8 | c8
              · replace h := of_true h c8
                refine RunF.know 19 (b := true) (by kernel_rfl) c8 ?_
                refine RunF.go 9 [0, 1, 6, 7, 17, 18] (k' := (pl Go.Proofs.Try.f36 [1, 1, 1, 0, 1, 0, 0, 1, 1, 0, 0, 1])) (L' := [(0, .slice Ap0 a0.length cp0), (1, .slice Ap1 a1.length cp1), (6, .slice (some ⟨g4, 0, none⟩) (((a0.length : Int)).toNat) (((a0.length : Int) : Int).toNat)), (7, .int .i64 x18_0), (17, .int .i64 (a0.length : Int)), (18, .int .i64 x18_0)]) (w' := W) (by kernel_rfl) ?_
                refine RunF.draw (Still ({ W with drawn := W.drawn + 1 } : World) [.slice (some ⟨g4, 0, none⟩) (((a0.length : Int)).toNat) (((a0.length : Int) : Int).toNat)]) (by kernel_rfl) (by kernel_rfl) ?_
                have hMd10 := hM.drew
                have hS := Still.refl ({ W with drawn := W.drawn + 1 } : World) [.slice (some ⟨g4, 0, none⟩) (((a0.length : Int)).toNat) (((a0.length : Int) : Int).toNat)]
                generalize ({ W with drawn := W.drawn + 1 } : World) = W9 at hMd10 hS ⊢
                replace hM := hMd10
                refine RunAny.y 0 (by kernel_rfl) (yl_pure (d := some 21) (v := .slice (some ⟨g4, 0, none⟩) (((a0.length : Int)).toNat) (((a0.length : Int) : Int).toNat)) (k2 := [.inRegion (opsOf (pl Go.Proofs.Try.f36 [1, 1, 1, 0, 1, 0, 0, 1, 1, 0, 0, 1])) []]) fun w => by kernel_rfl) (fun _ _ => trivial) hS ?_
                refine RunAny.y 1 (by kernel_rfl) (yl_pure (d := some 22) (v := .int .i64 x18_0) (k2 := [.inRegion (opsOf (pl Go.Proofs.Try.f36 [1, 1, 1, 0, 1, 0, 0, 1, 1, 0, 0, 1])) []]) fun w => by kernel_rfl) (fun _ _ => trivial) hS ?_
                refine RunAny.y 2 (by kernel_rfl) (yl_pure (d := some 23) (v := .slice Ap0 a0.length cp0) (k2 := [.inRegion (opsOf (pl Go.Proofs.Try.f36 [1, 1, 1, 0, 1, 0, 0, 1, 1, 0, 0, 1])) []]) fun w => by kernel_rfl) (fun _ _ => trivial) hS ?_
                refine RunAny.y 3 (by kernel_rfl) (yl_pure (d := some 24) (v := .int .i64 x18_0) (k2 := [.inRegion (opsOf (pl Go.Proofs.Try.f36 [1, 1, 1, 0, 1, 0, 0, 1, 1, 0, 0, 1])) []]) fun w => by kernel_rfl) (fun _ _ => trivial) hS ?_
                rcases two (decide (0 ≤ x18_0)) with c12 | c12
                · replace h := of_true h c12
                  rcases two (decide (x18_0 < (a0.length : Int))) with c13 | c13
                  · replace h := of_true h c13
                    obtain ⟨q11, hAq11, hiq11⟩ := Rd.num hr0 (i := x18_0) (of_decide_eq_true c12) (by have h_ := of_decide_eq_true c13; omega)
                    have hcq11 := (hM.below.cell (World.block_lt_of_cell? _ _ hiq11)).trans hiq11
                    refine RunAny.y 4 (by kernel_rfl) (idx_y (d := some 25) (A := Ap0) (m := a0.length) (i := x18_0) (k2 := [.inRegion (opsOf (pl Go.Proofs.Try.f36 [1, 1, 1, 0, 1, 0, 0, 1, 1, 0, 0, 1])) []]) (by kernel_rfl) (of_decide_eq_true c12) (by have h_ := of_decide_eq_true c13; omega) hAq11) (fun _ _ => trivial) hS ?_
                    refine RunAny.y 5 (by kernel_rfl) (ld_y (d := some 26) (p := (q11.add (x18_0 : Int).toNat)) (k2 := [.inRegion (opsOf (pl Go.Proofs.Try.f36 [1, 1, 1, 0, 1, 0, 0, 1, 1, 0, 0, 1])) []]) (.int .u8 (rd a0 x18_0)) (by kernel_rfl)) (fun _ hs => hs.cell hcq11 (by intro v hv; simp only [List.mem_cons, List.not_mem_nil, or_false] at hv; rcases hv with rfl; exact (hM.far hiq11 0 rfl))) hS ?_
                    refine RunAny.y 6 (by kernel_rfl) (yl_pure (d := some 27) (v := .slice Ap1 a1.length cp1) (k2 := [.inRegion (opsOf (pl Go.Proofs.Try.f36 [1, 1, 1, 0, 1, 0, 0, 1, 1, 0, 0, 1])) []]) fun w => by kernel_rfl) (fun _ _ => trivial) hS ?_
                    refine RunAny.y 7 (by kernel_rfl) (yl_pure (d := some 28) (v := .int .i64 x18_0) (k2 := [.inRegion (opsOf (pl Go.Proofs.Try.f36 [1, 1, 1, 0, 1, 0, 0, 1, 1, 0, 0, 1])) []]) fun w => by kernel_rfl) (fun _ _ => trivial) hS ?_
                    rcases two (decide (0 ≤ x18_0)) with c15 | c15
                    · replace h := of_true h c15
                      rcases two (decide (x18_0 < (a1.length : Int))) with c16 | c16
                      · replace h := of_true h c16
                        obtain ⟨q14, hAq14, hiq14⟩ := Rd.num hr1 (i := x18_0) (of_decide_eq_true c15) (by have h_ := of_decide_eq_true c16; omega)
                        have hcq14 := (hM.below.cell (World.block_lt_of_cell? _ _ hiq14)).trans hiq14
                        refine RunAny.y 8 (by kernel_rfl) (idx_y (d := some 29) (A := Ap1) (m := a1.length) (i := x18_0) (k2 := [.inRegion (opsOf (pl Go.Proofs.Try.f36 [1, 1, 1, 0, 1, 0, 0, 1, 1, 0, 0, 1])) []]) (by kernel_rfl) (of_decide_eq_true c15) (by have h_ := of_decide_eq_true c16; omega) hAq14) (fun _ _ => trivial) hS ?_
                        refine RunAny.y 9 (by kernel_rfl) (ld_y (d := some 30) (p := (q14.add (x18_0 : Int).toNat)) (k2 := [.inRegion (opsOf (pl Go.Proofs.Try.f36 [1, 1, 1, 0, 1, 0, 0, 1, 1, 0, 0, 1])) []]) (.int .u8 (rd a1 x18_0)) (by kernel_rfl)) (fun _ hs => hs.cell hcq14 (by intro v hv; simp only [List.mem_cons, List.not_mem_nil, or_false] at hv; rcases hv with rfl; exact (hM.far hiq14 0 rfl))) hS ?_
                        refine RunAny.y 10 (by kernel_rfl) (yl_pure (d := some 31) (v := .int .u8 (bxor .u8 (rd a0 x18_0) (rd a1 x18_0))) (k2 := [.inRegion (opsOf (pl Go.Proofs.Try.f36 [1, 1, 1, 0, 1, 0, 0, 1, 1, 0, 0, 1])) []]) fun w => by kernel_rfl) (fun _ _ => trivial) hS ?_
                        rcases two (decide (0 ≤ x18_0)) with c18 | c18
                        · replace h := of_true h c18
                          rcases two (decide (x18_0 < (((a0.length : Int)).toNat : Int))) with c19 | c19
                          · replace h := of_true h c19
                            obtain ⟨q17, hAq17, hcq17, hfq17, hlq17⟩ := hM.num_at 0 rfl (i := x18_0) (of_decide_eq_true c18) (by have h_ := of_decide_eq_true c19; omega)
                            refine RunAny.y 11 (by kernel_rfl) (idx_own (d := some 32) (A := (some ⟨g4, 0, none⟩)) (m := ((a0.length : Int)).toNat) (i := x18_0) (k2 := [.inRegion (opsOf (pl Go.Proofs.Try.f36 [1, 1, 1, 0, 1, 0, 0, 1, 1, 0, 0, 1])) []]) (by kernel_rfl) (of_decide_eq_true c18) (by have h_ := of_decide_eq_true c19; omega) hAq17) (fun _ _ => trivial) hS ?_
                            obtain ⟨g_, hA_, hc_, hf_, hl_⟩ := hM.num_at 0 rfl (i := x18_0) (of_decide_eq_true c18) (by have h_ := of_decide_eq_true c19; omega)
                            obtain rfl : q17 = g_ := by rw [hAq17] at hA_; injection hA_ with hA_; injection hA_
                            have hS' := hS.set (v := .slice (some ⟨g4, 0, none⟩) (((a0.length : Int)).toNat) (((a0.length : Int) : Int).toNat)) (g := q17) (i := (x18_0 : Int).toNat) (by simp) (by rw [hAq17]; rfl) (.int .u8 (bxor .u8 (rd a0 x18_0) (rd a1 x18_0)))
                            refine RunAny.doesU 12 (by kernel_rfl) (st_u (p := (⟨q17, (x18_0 : Int).toNat, none⟩ : Addr)) (v := .int .u8 (bxor .u8 (rd a0 x18_0) (rd a1 x18_0))) (k2 := [.inRegion (opsOf (pl Go.Proofs.Try.f36 [1, 1, 1, 0, 1, 0, 0, 1, 1, 0, 0, 1])) []]) (by kernel_rfl) hc_ hf_) hS' ?_
                            replace hM : Mem w (W9.setCell (⟨q17, (x18_0 : Int).toNat, none⟩ : Addr) (.int .u8 (bxor .u8 (rd a0 x18_0) (rd a1 x18_0)))) [⟨.slice (some ⟨g4, 0, none⟩) (((a0.length : Int)).toNat) (((a0.length : Int) : Int).toNat), 5, 1, nums .u8 (x6_0.set (x18_0 : Int).toNat (bxor .u8 (rd a0 x18_0) (rd a1 x18_0)))⟩] := Mem.put_num [] [] (hM.pick [0] rfl rfl) hAq17 _ hl_ _
                            generalize W9.setCell (⟨q17, (x18_0 : Int).toNat, none⟩ : Addr) (.int .u8 (bxor .u8 (rd a0 x18_0) (rd a1 x18_0))) = W20 at hM hS' ⊢
                            clear hc_ hf_ hl_ hA_ hcq17
                            replace hS := hS'
                            refine RunAny.rebase hS ?_
                            replace hS := Still.refl W20 [.slice (some ⟨g4, 0, none⟩) (((a0.length : Int)).toNat) (((a0.length : Int) : Int).toNat)]
                            refine RunAny.done (by kernel_rfl) ?_
                            clear hS
                            refine RunF.go 6 [0, 1, 6, 17, 18] (k' := (pl Go.Proofs.Try.f36 [1, 1, 1, 0, 1, 0, 0])) (L' := [(0, .slice Ap0 a0.length cp0), (1, .slice Ap1 a1.length cp1), (6, .slice (some ⟨g4, 0, none⟩) (((a0.length : Int)).toNat) (((a0.length : Int) : Int).toNat)), (17, .int .i64 (a0.length : Int)), (18, .int .i64 (I64 (x18_0 + 1)))]) (w' := W20) (by kernel_rfl) ?_
                            exact ih0 k (by omega) (x6_0.set (x18_0 : Int).toNat (bxor .u8 (rd a0 x18_0) (rd a1 x18_0))) (I64 (x18_0 + 1)) _ (hM.pick [0] rfl rfl) h
                          · replace h := of_false h c19
                            cases h
                        · replace h := of_false h c18
                          cases h
                      · replace h := of_false h c16
                        cases h
                    · replace h := of_false h c15
                      cases h
                  · replace h := of_false h c13
                    cases h
                · replace h := of_false h c12
                  cases h
              · replace h := of_false h c8
                refine RunF.know 19 (b := false) (by kernel_rfl) c8 ?_
                refine RunF.go 8 [4, 5] (k' := (pl Go.Proofs.Try.f36 [1, 1, 1, 1, 1])) (L' := [(4, .slice (some ⟨g4, 0, none⟩) (((a0.length : Int)).toNat) (((a0.length : Int) : Int).toNat)), (5, .bool true)]) (w' := W) (by kernel_rfl) ?_
                obtain rfl := Option.some.inj h
                exact RunF.ret2 4 5 (.slice (some ⟨g4, 0, none⟩) (((a0.length : Int)).toNat) (((a0.length : Int) : Int).toNat)) (.bool true) (fn := Go.Proofs.Try.f36) Go.Proofs.Try.func36 (by kernel_rfl) (by kernel_rfl) (by kernel_rfl) (by kernel_rfl) ⟨_, rfl, (some ⟨g4, 0, none⟩), ((a0.length : Int)).toNat, ((a0.length : Int) : Int).toNat, rfl, (hM.pick [0] rfl rfl)⟩
        exact l0 k (Nat.le_refl _) (List.replicate (((a0.length : Int)).toNat) (0 : Int)) 0 _ (hM.pick [0] rfl rfl) h
      · replace h := of_false h c6
        cases h
    · replace h := of_false h c5
      cases h

/-! ### scrim/twofish.mix: function 37 -/
def twofish_mix.f (k : Nat)  : Option (List Int) := some ([1, 239, 91, 91, 91, 239, 239, 1, 239, 91, 1, 239, 239, 1, 239, 91] : List Int)
set_option maxRecDepth 100000 in
theorem twofish_mix.calls (k : Nat)  (r : List Int) (w : World) (h : twofish_mix.f k = some r) :
    Calls Go.Proofs.Try.prog 37 #[] w (Ret fun v w' => v = .agg (nums .u8 r).toArray ∧ r.length = 16 ∧ Mem w w' []) := by
  unfold twofish_mix.f at h
  refine calls_of [] (fn := Go.Proofs.Try.f37) Go.Proofs.Try.func37 (by kernel_rfl) (by kernel_rfl) ?_
  have hM := Mem.refl w
  refine RunF.go 2 [] (k' := (pin Go.Proofs.Try.f37 [0] 0)) (L' := []) (w' := w) (by kernel_rfl) ?_
  refine RunF.newVar 71 (nums .u8 (List.replicate 16 (0 : Int))) (d := some 0) (k2 := (pin Go.Proofs.Try.f37 [0] 1)) hM (by kernel_rfl) ?_
  intro g1 W2 hM
  refine RunF.go 8 [0, 5] (k' := (pin Go.Proofs.Try.f37 [1, 0] 5)) (L' := [(0, .pointer (some ⟨g1, 0, none⟩)), (5, .agg (nums .u8 ([1, 239, 91, 91, 91, 239, 239, 1, 239, 91, 1, 239, 239, 1, 239, 91] : List Int)).toArray)]) (w' := W2) (by kernel_rfl) ?_
  refine RunF.doesU (stv_u (N := 16) (cells := (nums .u8 ([1, 239, 91, 91, 91, 239, 239, 1, 239, 91, 1, 239, 239, 1, 239, 91] : List Int)).toArray) (old := (nums .u8 (List.replicate 16 (0 : Int))).toArray) (ty := 71) (k2 := (pin Go.Proofs.Try.f37 [1, 0] 6)) (by kernel_rfl) (by rw [List.size_toArray]; simp only [nums_length, bools_length, strs_length]; exact rfl) (hM.block 0 rfl) (by rw [List.size_toArray]; simp only [nums_length, bools_length, strs_length]; exact List.length_replicate) (all_nums _ _)) ?_
  replace hM : Mem w (W2.setRow g1 (nums .u8 ([1, 239, 91, 91, 91, 239, 239, 1, 239, 91, 1, 239, 239, 1, 239, 91] : List Int)).toArray) [⟨.pointer (some ⟨g1, 0, none⟩), 71, 0, nums .u8 ([1, 239, 91, 91, 91, 239, 239, 1, 239, 91, 1, 239, 239, 1, 239, 91] : List Int)⟩] := Mem.setAll [] [] (hM.pick [0] rfl rfl)
  generalize W2.setRow g1 (nums .u8 ([1, 239, 91, 91, 91, 239, 239, 1, 239, 91, 1, 239, 239, 1, 239, 91] : List Int)).toArray = W4 at hM ⊢
  refine RunF.go 1 [0] (k' := (pl Go.Proofs.Try.f37 [1, 1])) (L' := [(0, .pointer (some ⟨g1, 0, none⟩))]) (w' := W4) (by kernel_rfl) ?_
  obtain rfl := Option.some.inj h
  exact RunF.retc (t := 0) (ty := 71) (N := 16) (g := g1) (nums .u8 ([1, 239, 91, 91, 91, 239, 239, 1, 239, 91, 1, 239, 239, 1, 239, 91] : List Int)) (fn := Go.Proofs.Try.f37) Go.Proofs.Try.func37 (by kernel_rfl) (by kernel_rfl) (by kernel_rfl) (by kernel_rfl) (by simp only [nums_length, bools_length, strs_length]; exact rfl) (hM.block 0 rfl) ⟨_, rfl, rfl, rfl, (hM.pick [] rfl rfl)⟩

/-! ### scrim/field.Mul: function 38 -/
def field_Mul.l0 : Nat → Int → Int → Int → Int → Option (Int)
  | 0, _, _, _, _ => none
  | k + 1, a2, x7_0, x8_0, x9_0 => if (x9_0 == 0) = true then (some (U8 (x7_0))) else (if (decide ((band .i64 x9_0 1) > 0)) = true then (if (decide ((shl .i64 x8_0 1) ≥ 256)) = true then ((some (band .i64 (bxor .i64 (shl .i64 x8_0 1) a2) 255 : Int)).bind fun y4 => (field_Mul.l0 k a2 (bxor .i64 x7_0 x8_0) y4 (shr x9_0 1))) else (field_Mul.l0 k a2 (bxor .i64 x7_0 x8_0) (band .i64 (shl .i64 x8_0 1) 255) (shr x9_0 1))) else (if (decide ((shl .i64 x8_0 1) ≥ 256)) = true then ((some (band .i64 (bxor .i64 (shl .i64 x8_0 1) a2) 255 : Int)).bind fun y6 => (field_Mul.l0 k a2 x7_0 y6 (shr x9_0 1))) else (field_Mul.l0 k a2 x7_0 (band .i64 (shl .i64 x8_0 1) 255) (shr x9_0 1))))
def field_Mul.f (k : Nat) (a0 : Int) (a1 : Int) (a2 : Int) : Option (Int) := field_Mul.l0 k a2 0 (I64 (a0)) (I64 (a1))
set_option maxRecDepth 100000 in
theorem field_Mul.calls (k : Nat) (a0 : Int) (a1 : Int) (a2 : Int) (r : Int) (w : World) (h : field_Mul.f k a0 a1 a2 = some r) :
    Calls Go.Proofs.Try.prog 38 #[.int .u8 a0, .int .u8 a1, .int .i64 a2] w (Ret fun v w' => v = .int .u8 r ∧ Mem w w' []) := by
  unfold field_Mul.f at h
  refine calls_of [.int .u8 a0, .int .u8 a1, .int .i64 a2] (fn := Go.Proofs.Try.f38) Go.Proofs.Try.func38 (by kernel_rfl) (by kernel_rfl) ?_
  have hM := Mem.refl w
  refine RunF.go 17 [2, 7, 8, 9] (k' := (pl Go.Proofs.Try.f38 [1, 0, 1, 1])) (L' := [(2, .int .i64 a2), (7, .int .i64 0), (8, .int .i64 (I64 (a0))), (9, .int .i64 (I64 (a1)))]) (w' := w) (by kernel_rfl) ?_
  have l0 : ∀ (k_ : Nat), k_ ≤ k → ∀ (x7_0 : Int) (x8_0 : Int) (x9_0 : Int) (W : World) (hM : Mem w W []) (h : field_Mul.l0 k_ a2 x7_0 x8_0 x9_0 = some r), RunF Go.Proofs.Try.prog (Ret fun v w' => v = .int .u8 r ∧ Mem w w' []) 38 (pl Go.Proofs.Try.f38 [1, 0, 1, 1]) 35 [(2, .int .i64 a2), (7, .int .i64 x7_0), (8, .int .i64 x8_0), (9, .int .i64 x9_0)] W := by
    intro k_
    induction k_ using Nat.strongRecOn with
    | _ k_ ih0 =>
      intro hk x7_0 x8_0 x9_0 W hM h
      cases k_ with
      | zero => exact absurd h (by simp [field_Mul.l0])
      | succ k =>
        simp only [field_Mul.l0] at h
        replace ih0 : ∀ m, m ≤ k → _ := fun m hm => ih0 m (by omega) (by omega)
        refine RunF.go 6 [2, 7, 8, 9, 15] (k' := (pl Go.Proofs.Try.f38 [1, 0, 1, 1, 0, 1])) (L' := [(2, .int .i64 a2), (7, .int .i64 x7_0), (8, .int .i64 x8_0), (9, .int .i64 x9_0), (15, .bool (x9_0 == 0))]) (w' := W) (by kernel_rfl) ?_
        rcases two ((x9_0 == 0)) with c1 | c1
        · replace h := of_true h c1
          refine RunF.know 15 (b := true) (by kernel_rfl) c1 ?_
          refine RunF.go 7 [6] (k' := (pl Go.Proofs.Try.f38 [1, 0, 1, 1, 0, 1, 0, 1])) (L' := [(6, .int .u8 (U8 (x7_0)))]) (w' := W) (by kernel_rfl) ?_
          obtain rfl := Option.some.inj h
          exact RunF.ret1 6 (.int .u8 (U8 (x7_0))) (fn := Go.Proofs.Try.f38) Go.Proofs.Try.func38 (by kernel_rfl) (by kernel_rfl) (by kernel_rfl) ⟨_, rfl, rfl, (hM.pick [] rfl rfl)⟩
        · replace h := of_false h c1
          refine RunF.know 15 (b := false) (by kernel_rfl) c1 ?_
          refine RunF.go 9 [2, 7, 8, 9, 20] (k' := (pl Go.Proofs.Try.f38 [1, 0, 1, 1, 1, 0, 1])) (L' := [(2, .int .i64 a2), (7, .int .i64 x7_0), (8, .int .i64 x8_0), (9, .int .i64 x9_0), (20, .bool (decide ((band .i64 x9_0 1) > 0)))]) (w' := W) (by kernel_rfl) ?_
          rcases two (decide ((band .i64 x9_0 1) > 0)) with c2 | c2
          · replace h := of_true h c2
            refine RunF.know 20 (b := true) (by kernel_rfl) c2 ?_
            refine RunF.go 22 [2, 7, 8, 9, 29] (k' := (pl Go.Proofs.Try.f38 [1, 0, 1, 1, 1, 1, 0, 1, 1])) (L' := [(2, .int .i64 a2), (7, .int .i64 (bxor .i64 x7_0 x8_0)), (8, .int .i64 (shl .i64 x8_0 1)), (9, .int .i64 (shr x9_0 1)), (29, .bool (decide ((shl .i64 x8_0 1) ≥ 256)))]) (w' := W) (by kernel_rfl) ?_
            rcases two (decide ((shl .i64 x8_0 1) ≥ 256)) with c3 | c3
            · replace h := of_true h c3
              refine RunF.know 29 (b := true) (by kernel_rfl) c3 ?_
              refine RunF.go 16 [2, 7, 8, 9] (k' := (pl Go.Proofs.Try.f38 [1, 0, 1, 1])) (L' := [(2, .int .i64 a2), (7, .int .i64 (bxor .i64 x7_0 x8_0)), (8, .int .i64 (band .i64 (bxor .i64 (shl .i64 x8_0 1) a2) 255)), (9, .int .i64 (shr x9_0 1))]) (w' := W) (by kernel_rfl) ?_
              obtain ⟨y4, hy, h⟩ := Option.bind_eq_some_iff.mp h
              rw [show (band .i64 (bxor .i64 (shl .i64 x8_0 1) a2) 255) = y4 from Option.some.inj hy]
              clear hy
              exact ih0 k (by omega) (bxor .i64 x7_0 x8_0) y4 (shr x9_0 1) _ (hM.pick [] rfl rfl) h
            · replace h := of_false h c3
              refine RunF.know 29 (b := false) (by kernel_rfl) c3 ?_
              refine RunF.go 11 [2, 7, 8, 9] (k' := (pl Go.Proofs.Try.f38 [1, 0, 1, 1])) (L' := [(2, .int .i64 a2), (7, .int .i64 (bxor .i64 x7_0 x8_0)), (8, .int .i64 (band .i64 (shl .i64 x8_0 1) 255)), (9, .int .i64 (shr x9_0 1))]) (w' := W) (by kernel_rfl) ?_
              exact ih0 k (by omega) (bxor .i64 x7_0 x8_0) (band .i64 (shl .i64 x8_0 1) 255) (shr x9_0 1) _ (hM.pick [] rfl rfl) h
          · replace h := of_false h c2
            refine RunF.know 20 (b := false) (by kernel_rfl) c2 ?_
            refine RunF.go 17 [2, 7, 8, 9, 29] (k' := (pl Go.Proofs.Try.f38 [1, 0, 1, 1, 1, 1, 0, 1, 1])) (L' := [(2, .int .i64 a2), (7, .int .i64 x7_0), (8, .int .i64 (shl .i64 x8_0 1)), (9, .int .i64 (shr x9_0 1)), (29, .bool (decide ((shl .i64 x8_0 1) ≥ 256)))]) (w' := W) (by kernel_rfl) ?_
            rcases two (decide ((shl .i64 x8_0 1) ≥ 256)) with c5 | c5
            · replace h := of_true h c5
              refine RunF.know 29 (b := true) (by kernel_rfl) c5 ?_
              refine RunF.go 16 [2, 7, 8, 9] (k' := (pl Go.Proofs.Try.f38 [1, 0, 1, 1])) (L' := [(2, .int .i64 a2), (7, .int .i64 x7_0), (8, .int .i64 (band .i64 (bxor .i64 (shl .i64 x8_0 1) a2) 255)), (9, .int .i64 (shr x9_0 1))]) (w' := W) (by kernel_rfl) ?_
              obtain ⟨y6, hy, h⟩ := Option.bind_eq_some_iff.mp h
              rw [show (band .i64 (bxor .i64 (shl .i64 x8_0 1) a2) 255) = y6 from Option.some.inj hy]
              clear hy
              exact ih0 k (by omega) x7_0 y6 (shr x9_0 1) _ (hM.pick [] rfl rfl) h
            · replace h := of_false h c5
              refine RunF.know 29 (b := false) (by kernel_rfl) c5 ?_
              refine RunF.go 11 [2, 7, 8, 9] (k' := (pl Go.Proofs.Try.f38 [1, 0, 1, 1])) (L' := [(2, .int .i64 a2), (7, .int .i64 x7_0), (8, .int .i64 (band .i64 (shl .i64 x8_0 1) 255)), (9, .int .i64 (shr x9_0 1))]) (w' := W) (by kernel_rfl) ?_
              exact ih0 k (by omega) x7_0 (band .i64 (shl .i64 x8_0 1) 255) (shr x9_0 1) _ (hM.pick [] rfl rfl) h
  exact l0 k (Nat.le_refl _) 0 (I64 (a0)) (I64 (a1)) _ (hM.pick [] rfl rfl) h

/-! ### scrim/twofish.H: function 16 -/
mutual
def twofish_H.l0 : Nat → (List Int) → (List Int) → Int → Option (Int)
  | 0, _, _, _ => none
  | k + 1, a1, x5_0, x6_0 => (twofish_order.f k x6_0).bind fun t9 => (twofish_H.l1 k a1 t9 x5_0 x6_0 x5_0 0)
def twofish_H.l1 : Nat → (List Int) → (List Int) → (List Int) → Int → (List Int) → Int → Option (Int)
  | 0, _, _, _, _, _, _ => none
  | k + 1, a1, t9, x5_0, x6_0, x5_1, x23_1 => if (decide (x23_1 < 4)) = true then (if (decide (0 ≤ x23_1)) = true then (if (decide (x23_1 < (4 : Int))) = true then (if (decide (0 ≤ x23_1)) = true then (if (decide (x23_1 < (x5_0.length : Int))) = true then ((twofish_Q.f k (rd t9 x23_1) (rd x5_1 x23_1)).bind fun t17 => (if (decide (0 ≤ x23_1)) = true then (if (decide (x23_1 < (x5_0.length : Int))) = true then (twofish_H.l1 k a1 t9 x5_0 x6_0 (x5_1.set (x23_1 : Int).toNat t17) (I64 (x23_1 + 1))) else (none)) else (none))) else (none)) else (none)) else (none)) else (none)) else (if (decide (x6_0 > 0)) = true then (if (decide (0 ≤ (I64 (x6_0 - 1)))) = true then (if (decide ((I64 (x6_0 - 1)) < (a1.length : Int))) = true then ((words_PutLe32.f k (rd a1 (I64 (x6_0 - 1)))).bind fun t27 => ((words_Xor.f k x5_1 t27).bind fun t33 => (twofish_H.l0 k a1 t33.1 (I64 (x6_0 - 1))))) else (none)) else (none)) else ((twofish_mix.f k).bind fun t42 => (twofish_H.l2 k t42 x5_0 x5_1 (List.replicate 4 (0 : Int)) 0)))
def twofish_H.l2 : Nat → (List Int) → (List Int) → (List Int) → (List Int) → Int → Option (Int)
  | 0, _, _, _, _, _ => none
  | k + 1, t42, x5_0, x5_1, x9_2, x53_2 => if (decide (x53_2 < 4)) = true then (if (decide (0 ≤ x53_2)) = true then (if (decide (x53_2 < (4 : Int))) = true then (twofish_H.l3 k t42 x53_2 x5_0 x5_1 x9_2 0) else (none)) else (none)) else ((words_Le32.f k x9_2).bind fun t77 => (some t77.1))
def twofish_H.l3 : Nat → (List Int) → Int → (List Int) → (List Int) → (List Int) → Int → Option (Int)
  | 0, _, _, _, _, _, _ => none
  | k + 1, t42, x53_2, x5_0, x5_1, x9_3, x58_3 => if (decide (x58_3 < 4)) = true then (if (decide (0 ≤ x58_3)) = true then (if (decide (x58_3 < (4 : Int))) = true then (if (decide (0 ≤ x53_2)) = true then (if (decide (x53_2 < (4 : Int))) = true then (if (decide (0 ≤ x58_3)) = true then (if (decide (x58_3 < (x5_0.length : Int))) = true then ((field_Mul.f k (rd (sub t42 x53_2 4) x58_3) (rd x5_1 x58_3) 361).bind fun t61 => (if (decide (0 ≤ x53_2)) = true then (if (decide (x53_2 < (4 : Int))) = true then (twofish_H.l3 k t42 x53_2 x5_0 x5_1 (x9_3.set (x53_2 : Int).toNat (bxor .u8 (rd x9_3 x53_2) t61)) (I64 (x58_3 + 1))) else (none)) else (none))) else (none)) else (none)) else (none)) else (none)) else (none)) else (none)) else (twofish_H.l2 k t42 x5_0 x5_1 x9_3 (I64 (x53_2 + 1)))
end
def twofish_H.f (k : Nat) (a0 : Int) (a1 : List Int) : Option (Int) := (words_PutLe32.f k a0).bind fun t2 => (twofish_H.l0 k a1 t2 (mn (a1.length : Int) 4))
set_option maxRecDepth 100000 in
set_option maxHeartbeats 8000000 in
theorem twofish_H.calls (k : Nat) (a0 : Int) (Ap1 : Option Addr) (np1 cp1 : Nat) (a1 : List Int) (r : Int) (w : World) (hr1 : Rd w (.slice Ap1 np1 cp1) (nums .u32 a1)) (h : twofish_H.f k a0 a1 = some r) :
    Calls Go.Proofs.Try.prog 16 #[.int .u32 a0, (.slice Ap1 np1 cp1)] w (Ret fun v w' => v = .int .u32 r ∧ Mem w w' []) := by
  obtain rfl : a1.length = np1 := by have h_ := hr1.1; simpa [nums_length, bools_length, strs_length] using h_
  unfold twofish_H.f at h
  refine calls_of [.int .u32 a0, .slice Ap1 a1.length cp1] (fn := Go.Proofs.Try.f16) Go.Proofs.Try.func16 (by kernel_rfl) (by kernel_rfl) ?_
  have hM := Mem.refl w
  refine RunF.go 8 [1, 16] (k' := (pin Go.Proofs.Try.f16 [1, 0, 0] 1)) (L' := [(1, .slice Ap1 a1.length cp1), (16, .int .u32 a0)]) (w' := w) (by kernel_rfl) ?_
  obtain ⟨t2, ht2, h⟩ := Option.bind_eq_some_iff.mp h
  refine RunF.call (d := some 17) (g := 34) (args := #[.int .u32 a0]) (k2 := (pin Go.Proofs.Try.f16 [1, 0, 0] 2)) (by kernel_rfl) (words_PutLe32.calls k a0 t2 _ ht2) ?_
  rintro _ W1 ⟨A3, n4, c5, rfl, hM_⟩
  obtain rfl : t2.length = n4 := by have h_ := (hM_.rd 0 rfl).1; simpa [nums_length, bools_length, strs_length] using h_
  replace hM := hM.call hM_
  clear hM_ ht2
  refine RunF.go 11 [1, 5, 6] (k' := (pl Go.Proofs.Try.f16 [1, 0, 1, 1, 1])) (L' := [(1, .slice Ap1 a1.length cp1), (5, .slice A3 t2.length c5), (6, .int .i64 (mn (a1.length : Int) 4))]) (w' := W1) (by kernel_rfl) ?_
  have l0 : ∀ (k_ : Nat), k_ ≤ k → ∀ (A5_0 : Option Addr) (c5_0 : Nat) (x5_0 : List Int) (x6_0 : Int) (W : World) (hM : Mem w W [⟨.slice A5_0 x5_0.length c5_0, 5, 1, nums .u8 x5_0⟩]) (h : twofish_H.l0 k_ a1 x5_0 x6_0 = some r), RunF Go.Proofs.Try.prog (Ret fun v w' => v = .int .u32 r ∧ Mem w w' []) 16 (pl Go.Proofs.Try.f16 [1, 0, 1, 1, 1]) 82 [(1, .slice Ap1 a1.length cp1), (5, .slice A5_0 x5_0.length c5_0), (6, .int .i64 x6_0)] W := by
    intro k_
    induction k_ using Nat.strongRecOn with
    | _ k_ ih0 =>
      intro hk A5_0 c5_0 x5_0 x6_0 W hM h
      cases k_ with
      | zero => exact absurd h (by simp [twofish_H.l0])
      | succ k =>
        simp only [twofish_H.l0] at h
        replace ih0 : ∀ m, m ≤ k → _ := fun m hm => ih0 m (by omega) (by omega)
        refine RunF.go 4 [1, 5, 6, 21] (k' := (pin Go.Proofs.Try.f16 [1, 0, 1, 1, 1, 0, 0] 1)) (L' := [(1, .slice Ap1 a1.length cp1), (5, .slice A5_0 x5_0.length c5_0), (6, .int .i64 x6_0), (21, .int .i64 x6_0)]) (w' := W) (by kernel_rfl) ?_
        obtain ⟨t9, ht9, h⟩ := Option.bind_eq_some_iff.mp h
        refine RunF.call (d := some 22) (g := 35) (args := #[.int .i64 x6_0]) (k2 := (pin Go.Proofs.Try.f16 [1, 0, 1, 1, 1, 0, 0] 2)) (by kernel_rfl) (twofish_order.calls k x6_0 t9 _ ht9) ?_
        rintro _ W8 ⟨rfl, hNt9_0, hM_⟩
        replace hM := hM.call hM_
        clear hM_ ht9
        refine RunF.go 4 [1, 5, 6, 22, 23] (k' := (pl Go.Proofs.Try.f16 [1, 0, 1, 1, 1, 0, 1, 0, 0])) (L' := [(1, .slice Ap1 a1.length cp1), (5, .slice A5_0 x5_0.length c5_0), (6, .int .i64 x6_0), (22, .agg (nums .i64 t9).toArray), (23, .int .i64 0)]) (w' := W8) (by kernel_rfl) ?_
        have l1 : ∀ (k_ : Nat), k_ ≤ k → ∀ (x5_1 : List Int) (x23_1 : Int) (W : World) (hM : Mem w W [⟨.slice A5_0 x5_0.length c5_0, 5, 1, nums .u8 x5_1⟩]) (h : twofish_H.l1 k_ a1 t9 x5_0 x6_0 x5_1 x23_1 = some r), RunF Go.Proofs.Try.prog (Ret fun v w' => v = .int .u32 r ∧ Mem w w' []) 16 (pl Go.Proofs.Try.f16 [1, 0, 1, 1, 1, 0, 1, 0, 0]) 82 [(1, .slice Ap1 a1.length cp1), (5, .slice A5_0 x5_0.length c5_0), (6, .int .i64 x6_0), (22, .agg (nums .i64 t9).toArray), (23, .int .i64 x23_1)] W := by
          intro k_
          induction k_ using Nat.strongRecOn with
          | _ k_ ih1 =>
            intro hk x5_1 x23_1 W hM h
            cases k_ with
            | zero => exact absurd h (by simp [twofish_H.l1])
            | succ k =>
              simp only [twofish_H.l1] at h
              replace ih1 : ∀ m, m ≤ k → _ := fun m hm => ih1 m (by omega) (by omega)
              replace ih0 : ∀ m, m ≤ k → _ := fun m hm => ih0 m (by omega)
              refine RunF.go 5 [1, 5, 6, 22, 23, 24] (k' := (pl Go.Proofs.Try.f16 [1, 0, 1, 1, 1, 0, 1, 0, 0, 1, 0])) (L' := [(1, .slice Ap1 a1.length cp1), (5, .slice A5_0 x5_0.length c5_0), (6, .int .i64 x6_0), (22, .agg (nums .i64 t9).toArray), (23, .int .i64 x23_1), (24, .bool (decide (x23_1 < 4)))]) (w' := W) (by kernel_rfl) ?_
              rcases two (decide (x23_1 < 4)) with c10 | c10
              · replace h := of_true h c10
                refine RunF.know 24 (b := true) (by kernel_rfl) c10 ?_
                refine RunF.go 7 [1, 5, 6, 22, 23, 25] (k' := (pin Go.Proofs.Try.f16 [1, 0, 1, 1, 1, 0, 1, 0, 0, 1, 1, 0, 0, 0] 1)) (L' := [(1, .slice Ap1 a1.length cp1), (5, .slice A5_0 x5_0.length c5_0), (6, .int .i64 x6_0), (22, .agg (nums .i64 t9).toArray), (23, .int .i64 x23_1), (25, .int .i64 x23_1)]) (w' := W) (by kernel_rfl) ?_
                rcases two (decide (0 ≤ x23_1)) with c11 | c11
                · replace h := of_true h c11
                  rcases two (decide (x23_1 < (4 : Int))) with c12 | c12
                  · replace h := of_true h c12
                    refine RunF.y (idxVal_y (d := some 26) (cs := (nums .i64 t9).toArray) (len := 4) (i := x23_1) (u := .int .i64 (rd t9 x23_1)) (k2 := (pin Go.Proofs.Try.f16 [1, 0, 1, 1, 1, 0, 1, 0, 0, 1, 1, 0, 0, 0] 2)) (by kernel_rfl) (of_decide_eq_true c11) (of_decide_eq_true c12) (by rw [List.getElem?_toArray]; exact nums_at (of_decide_eq_true c11) (by rw [show t9.length = 4 from hNt9_0]; exact (of_decide_eq_true c12)))) trivial ?_
                    refine RunF.go 9 [1, 5, 6, 22, 23, 27, 28, 29, 30, 31] (k' := (pin Go.Proofs.Try.f16 [1, 0, 1, 1, 1, 0, 1, 0, 0, 1, 1, 0, 0, 1] 5)) (L' := [(1, .slice Ap1 a1.length cp1), (5, .slice A5_0 x5_0.length c5_0), (6, .int .i64 x6_0), (22, .agg (nums .i64 t9).toArray), (23, .int .i64 x23_1), (27, .slice A5_0 x5_0.length c5_0), (28, .int .i64 x23_1), (29, .int .i64 (rd t9 x23_1)), (30, .slice A5_0 x5_0.length c5_0), (31, .int .i64 x23_1)]) (w' := W) (by kernel_rfl) ?_
                    rcases two (decide (0 ≤ x23_1)) with c14 | c14
                    · replace h := of_true h c14
                      rcases two (decide (x23_1 < (x5_0.length : Int))) with c15 | c15
                      · replace h := of_true h c15
                        obtain ⟨q13, hAq13, hcq13, hfq13, hlq13⟩ := hM.num_at 0 rfl (i := x23_1) (of_decide_eq_true c14) (by have h_ := of_decide_eq_true c15; omega)
                        refine RunF.y (idx_own (d := some 32) (A := A5_0) (m := x5_0.length) (i := x23_1) (k2 := (pin Go.Proofs.Try.f16 [1, 0, 1, 1, 1, 0, 1, 0, 0, 1, 1, 0, 0, 1] 6)) (by kernel_rfl) (of_decide_eq_true c14) (by have h_ := of_decide_eq_true c15; omega) hAq13) trivial ?_
                        refine RunF.y (ld_y (d := some 33) (p := ⟨q13, (x23_1 : Int).toNat, none⟩) (k2 := (pin Go.Proofs.Try.f16 [1, 0, 1, 1, 1, 0, 1, 0, 0, 1, 1, 0, 0, 1] 7)) (.int .u8 (rd x5_1 x23_1)) (by kernel_rfl)) hcq13 ?_
                        obtain ⟨t17, ht17, h⟩ := Option.bind_eq_some_iff.mp h
                        refine RunF.call (d := some 34) (g := 14) (args := #[.int .i64 (rd t9 x23_1), .int .u8 (rd x5_1 x23_1)]) (k2 := (pin Go.Proofs.Try.f16 [1, 0, 1, 1, 1, 0, 1, 0, 0, 1, 1, 0, 0, 1] 8)) (by kernel_rfl) (twofish_Q.calls k (rd t9 x23_1) (rd x5_1 x23_1) t17 _ ht17) ?_
                        rintro _ W16 ⟨rfl, hM_⟩
                        replace hM := hM.call hM_
                        clear hM_ ht17
                        rcases two (decide (0 ≤ x23_1)) with c19 | c19
                        · replace h := of_true h c19
                          rcases two (decide (x23_1 < (x5_0.length : Int))) with c20 | c20
                          · replace h := of_true h c20
                            obtain ⟨q18, hAq18, hcq18, hfq18, hlq18⟩ := hM.num_at 0 rfl (i := x23_1) (of_decide_eq_true c19) (by have h_ := of_decide_eq_true c20; omega)
                            refine RunF.y (idx_own (d := some 35) (A := A5_0) (m := x5_0.length) (i := x23_1) (k2 := (pin Go.Proofs.Try.f16 [1, 0, 1, 1, 1, 0, 1, 0, 0, 1, 1, 0, 0, 1] 9)) (by kernel_rfl) (of_decide_eq_true c19) (by have h_ := of_decide_eq_true c20; omega) hAq18) trivial ?_
                            obtain ⟨g_, hA_, hc_, hf_, hl_⟩ := hM.num_at 0 rfl (i := x23_1) (of_decide_eq_true c19) (by have h_ := of_decide_eq_true c20; omega)
                            obtain rfl : q18 = g_ := by rw [hAq18] at hA_; injection hA_ with hA_; injection hA_
                            refine RunF.doesU (st_u (p := (⟨q18, (x23_1 : Int).toNat, none⟩ : Addr)) (v := .int .u8 t17) (k2 := (pin Go.Proofs.Try.f16 [1, 0, 1, 1, 1, 0, 1, 0, 0, 1, 1, 0, 0, 1] 10)) (by kernel_rfl) hc_ hf_) ?_
                            replace hM : Mem w (W16.setCell (⟨q18, (x23_1 : Int).toNat, none⟩ : Addr) (.int .u8 t17)) [⟨.slice A5_0 x5_0.length c5_0, 5, 1, nums .u8 (x5_1.set (x23_1 : Int).toNat t17)⟩] := Mem.put_num [] [] (hM.pick [0] rfl rfl) hAq18 _ hl_ _
                            generalize W16.setCell (⟨q18, (x23_1 : Int).toNat, none⟩ : Addr) (.int .u8 t17) = W21 at hM ⊢
                            clear hc_ hf_ hl_ hA_ hcq18
                            refine RunF.go 7 [1, 5, 6, 22, 23] (k' := (pl Go.Proofs.Try.f16 [1, 0, 1, 1, 1, 0, 1, 0, 0])) (L' := [(1, .slice Ap1 a1.length cp1), (5, .slice A5_0 x5_0.length c5_0), (6, .int .i64 x6_0), (22, .agg (nums .i64 t9).toArray), (23, .int .i64 (I64 (x23_1 + 1)))]) (w' := W21) (by kernel_rfl) ?_
                            exact ih1 k (by omega) (x5_1.set (x23_1 : Int).toNat t17) (I64 (x23_1 + 1)) _ (hM.pick [0] rfl rfl) h
                          · replace h := of_false h c20
                            cases h
                        · replace h := of_false h c19
                          cases h
                      · replace h := of_false h c15
                        cases h
                    · replace h := of_false h c14
                      cases h
                  · replace h := of_false h c12
                    cases h
                · replace h := of_false h c11
                  cases h
              · replace h := of_false h c10
                refine RunF.know 24 (b := false) (by kernel_rfl) c10 ?_
                refine RunF.go 8 [1, 5, 6, 38] (k' := (pl Go.Proofs.Try.f16 [1, 0, 1, 1, 1, 1, 0, 1])) (L' := [(1, .slice Ap1 a1.length cp1), (5, .slice A5_0 x5_0.length c5_0), (6, .int .i64 x6_0), (38, .bool (decide (x6_0 > 0)))]) (w' := W) (by kernel_rfl) ?_
                rcases two (decide (x6_0 > 0)) with c22 | c22
                · replace h := of_true h c22
                  refine RunF.know 38 (b := true) (by kernel_rfl) c22 ?_
                  refine RunF.go 12 [1, 6, 42, 43, 44] (k' := (pin Go.Proofs.Try.f16 [1, 0, 1, 1, 1, 1, 0, 1, 0, 1, 0] 3)) (L' := [(1, .slice Ap1 a1.length cp1), (6, .int .i64 (I64 (x6_0 - 1))), (42, .slice A5_0 x5_0.length c5_0), (43, .slice Ap1 a1.length cp1), (44, .int .i64 (I64 (x6_0 - 1)))]) (w' := W) (by kernel_rfl) ?_
                  rcases two (decide (0 ≤ (I64 (x6_0 - 1)))) with c24 | c24
                  · replace h := of_true h c24
                    rcases two (decide ((I64 (x6_0 - 1)) < (a1.length : Int))) with c25 | c25
                    · replace h := of_true h c25
                      obtain ⟨q23, hAq23, hcq23⟩ := Rd.num (hr1.mono hM.below) (i := I64 (x6_0 - 1)) (of_decide_eq_true c24) (by have h_ := of_decide_eq_true c25; omega)
                      refine RunF.y (idx_y (d := some 45) (A := Ap1) (m := a1.length) (i := I64 (x6_0 - 1)) (k2 := (pin Go.Proofs.Try.f16 [1, 0, 1, 1, 1, 1, 0, 1, 0, 1, 0] 4)) (by kernel_rfl) (of_decide_eq_true c24) (by have h_ := of_decide_eq_true c25; omega) hAq23) trivial ?_
                      refine RunF.y (ld_y (d := some 46) (p := (q23.add (I64 (x6_0 - 1) : Int).toNat)) (k2 := (pin Go.Proofs.Try.f16 [1, 0, 1, 1, 1, 1, 0, 1, 0, 1, 0] 5)) (.int .u32 (rd a1 (I64 (x6_0 - 1)))) (by kernel_rfl)) hcq23 ?_
                      obtain ⟨t27, ht27, h⟩ := Option.bind_eq_some_iff.mp h
                      refine RunF.call (d := some 47) (g := 34) (args := #[.int .u32 (rd a1 (I64 (x6_0 - 1)))]) (k2 := (pin Go.Proofs.Try.f16 [1, 0, 1, 1, 1, 1, 0, 1, 0, 1, 0] 6)) (by kernel_rfl) (words_PutLe32.calls k (rd a1 (I64 (x6_0 - 1))) t27 _ ht27) ?_
                      rintro _ W26 ⟨A28, n29, c30, rfl, hM_⟩
                      obtain rfl : t27.length = n29 := by have h_ := (hM_.rd 0 rfl).1; simpa [nums_length, bools_length, strs_length] using h_
                      replace hM := hM.call hM_
                      clear hM_ ht27
                      obtain ⟨t33, ht33, h⟩ := Option.bind_eq_some_iff.mp h
                      refine RunF.call (d := some 48) (g := 36) (args := #[.slice A5_0 x5_0.length c5_0, .slice A28 t27.length c30]) (k2 := (pin Go.Proofs.Try.f16 [1, 0, 1, 1, 1, 1, 0, 1, 0, 1, 0] 7)) (by kernel_rfl) (words_Xor.calls k A5_0 x5_0.length c5_0 x5_1 A28 t27.length c30 t27 t33 _ (hM.rd 1 rfl) (hM.rd 0 rfl) ht33) ?_
                      rintro _ W32 ⟨A34, n35, c36, rfl, hM_⟩
                      obtain rfl : t33.1.length = n35 := by have h_ := (hM_.rd 0 rfl).1; simpa [nums_length, bools_length, strs_length] using h_
                      replace hM := hM.call hM_
                      clear hM_ ht33
                      refine RunF.go 8 [1, 5, 6] (k' := (pl Go.Proofs.Try.f16 [1, 0, 1, 1, 1])) (L' := [(1, .slice Ap1 a1.length cp1), (5, .slice A34 t33.1.length c36), (6, .int .i64 (I64 (x6_0 - 1)))]) (w' := W32) (by kernel_rfl) ?_
                      exact ih0 k (by omega) A34 c36 t33.1 (I64 (x6_0 - 1)) _ (hM.pick [0] rfl rfl) h
                    · replace h := of_false h c25
                      cases h
                  · replace h := of_false h c24
                    cases h
                · replace h := of_false h c22
                  refine RunF.know 38 (b := false) (by kernel_rfl) c22 ?_
                  refine RunF.go 4 [5] (k' := (pin Go.Proofs.Try.f16 [1, 0, 1, 1, 1, 1, 1, 0] 0)) (L' := [(5, .slice A5_0 x5_0.length c5_0)]) (w' := W) (by kernel_rfl) ?_
                  obtain ⟨W38, hD, hM', hB_⟩ := mk_does (P := Go.Proofs.Try.prog) (n := 82) (k := (pin Go.Proofs.Try.f16 [1, 0, 1, 1, 1, 1, 1, 0] 0)) (L := [(5, .slice A5_0 x5_0.length c5_0)]) (d := some 51) (e := 5) (z := .int .u8 0) (l := 4) (c := 4) (k2 := (pin Go.Proofs.Try.f16 [1, 0, 1, 1, 1, 1, 1, 0] 1)) (by kernel_rfl) (by omega) (by omega) (by omega) hM
                  rw [rep_nums] at hM'
                  refine RunF.does hD ?_
                  replace hM := hM'; clear hD hM'
                  generalize W.heap.size = g39 at hM ⊢
                  refine RunF.go 5 [5, 9] (k' := (pin Go.Proofs.Try.f16 [1, 0, 1, 1, 1, 1, 1, 1, 0, 0] 0)) (L' := [(5, .slice A5_0 x5_0.length c5_0), (9, .slice (some ⟨g39, 0, none⟩) 4 4)]) (w' := W38) (by kernel_rfl) ?_
                  obtain ⟨t42, ht42, h⟩ := Option.bind_eq_some_iff.mp h
                  refine RunF.call (d := some 52) (g := 37) (args := #[]) (k2 := (pin Go.Proofs.Try.f16 [1, 0, 1, 1, 1, 1, 1, 1, 0, 0] 1)) (by kernel_rfl) (twofish_mix.calls k t42 _ ht42) ?_
                  rintro _ W41 ⟨rfl, hNt42_0, hM_⟩
                  replace hM := hM.call hM_
                  clear hM_ ht42
                  refine RunF.go 4 [5, 9, 52, 53] (k' := (pl Go.Proofs.Try.f16 [1, 0, 1, 1, 1, 1, 1, 1, 0, 1, 0, 0])) (L' := [(5, .slice A5_0 x5_0.length c5_0), (9, .slice (some ⟨g39, 0, none⟩) 4 4), (52, .agg (nums .u8 t42).toArray), (53, .int .i64 0)]) (w' := W41) (by kernel_rfl) ?_
                  have l2 : ∀ (k_ : Nat), k_ ≤ k → ∀ (x9_2 : List Int) (x53_2 : Int) (W : World) (hM : Mem w W [⟨.slice A5_0 x5_0.length c5_0, 5, 1, nums .u8 x5_1⟩, ⟨.slice (some ⟨g39, 0, none⟩) 4 4, 5, 1, nums .u8 x9_2⟩]) (h : twofish_H.l2 k_ t42 x5_0 x5_1 x9_2 x53_2 = some r), RunF Go.Proofs.Try.prog (Ret fun v w' => v = .int .u32 r ∧ Mem w w' []) 16 (pl Go.Proofs.Try.f16 [1, 0, 1, 1, 1, 1, 1, 1, 0, 1, 0, 0]) 82 [(5, .slice A5_0 x5_0.length c5_0), (9, .slice (some ⟨g39, 0, none⟩) 4 4), (52, .agg (nums .u8 t42).toArray), (53, .int .i64 x53_2)] W := by
                    intro k_
                    induction k_ using Nat.strongRecOn with
                    | _ k_ ih2 =>
                      intro hk x9_2 x53_2 W hM h
                      cases k_ with
                      | zero => exact absurd h (by simp [twofish_H.l2])
                      | succ k =>
                        simp only [twofish_H.l2] at h
                        replace ih2 : ∀ m, m ≤ k → _ := fun m hm => ih2 m (by omega) (by omega)
                        replace ih0 : ∀ m, m ≤ k → _ := fun m hm => ih0 m (by omega)
                        replace ih1 : ∀ m, m ≤ k → _ := fun m hm => ih1 m (by omega)
                        refine RunF.go 5 [5, 9, 52, 53, 54] (k' := (pl Go.Proofs.Try.f16 [1, 0, 1, 1, 1, 1, 1, 1, 0, 1, 0, 0, 1, 0])) (L' := [(5, .slice A5_0 x5_0.length c5_0), (9, .slice (some ⟨g39, 0, none⟩) 4 4), (52, .agg (nums .u8 t42).toArray), (53, .int .i64 x53_2), (54, .bool (decide (x53_2 < 4)))]) (w' := W) (by kernel_rfl) ?_
                        rcases two (decide (x53_2 < 4)) with c43 | c43
                        · replace h := of_true h c43
                          refine RunF.know 54 (b := true) (by kernel_rfl) c43 ?_
                          refine RunF.go 7 [5, 9, 52, 53, 55] (k' := (pin Go.Proofs.Try.f16 [1, 0, 1, 1, 1, 1, 1, 1, 0, 1, 0, 0, 1, 1, 0, 0, 0] 1)) (L' := [(5, .slice A5_0 x5_0.length c5_0), (9, .slice (some ⟨g39, 0, none⟩) 4 4), (52, .agg (nums .u8 t42).toArray), (53, .int .i64 x53_2), (55, .int .i64 x53_2)]) (w' := W) (by kernel_rfl) ?_
                          rcases two (decide (0 ≤ x53_2)) with c44 | c44
                          · replace h := of_true h c44
                            rcases two (decide (x53_2 < (4 : Int))) with c45 | c45
                            · replace h := of_true h c45
                              refine RunF.y (idxValS_y (d := some 56) (kd := .u8) (xs := t42) (len := 4) (m := 4) (i := x53_2) (k2 := (pin Go.Proofs.Try.f16 [1, 0, 1, 1, 1, 1, 1, 1, 0, 1, 0, 0, 1, 1, 0, 0, 0] 2)) (by kernel_rfl) (of_decide_eq_true c44) (of_decide_eq_true c45) hNt42_0) trivial ?_
                              refine RunF.newVar 70 (nums .u8 (List.replicate 4 (0 : Int))) (d := some 11) (k2 := (pin Go.Proofs.Try.f16 [1, 0, 1, 1, 1, 1, 1, 1, 0, 1, 0, 0, 1, 1, 0, 0, 0] 3)) hM (by kernel_rfl) ?_
                              intro g46 W47 hM
                              refine RunF.go 1 [5, 9, 10, 11, 52, 53, 56] (k' := (pin Go.Proofs.Try.f16 [1, 0, 1, 1, 1, 1, 1, 1, 0, 1, 0, 0, 1, 1, 0, 0, 0] 4)) (L' := [(5, .slice A5_0 x5_0.length c5_0), (9, .slice (some ⟨g39, 0, none⟩) 4 4), (10, .int .i64 x53_2), (11, .pointer (some ⟨g46, 0, none⟩)), (52, .agg (nums .u8 t42).toArray), (53, .int .i64 x53_2), (56, .agg (nums .u8 (sub t42 x53_2 4)).toArray)]) (w' := W47) (by kernel_rfl) ?_
                              refine RunF.doesU (stv_u (N := 4) (cells := (nums .u8 (sub t42 x53_2 4)).toArray) (old := (nums .u8 (List.replicate 4 (0 : Int))).toArray) (ty := 70) (k2 := (pin Go.Proofs.Try.f16 [1, 0, 1, 1, 1, 1, 1, 1, 0, 1, 0, 0, 1, 1, 0, 0, 0] 5)) (by kernel_rfl) (by rw [List.size_toArray]; simp only [nums_length, bools_length, strs_length]; exact (sub_length (N := 4) (of_decide_eq_true c44) (of_decide_eq_true c45) hNt42_0)) (hM.block 0 rfl) (by rw [List.size_toArray]; simp only [nums_length, bools_length, strs_length]; exact List.length_replicate) (all_nums _ _)) ?_
                              replace hM : Mem w (W47.setRow g46 (nums .u8 (sub t42 x53_2 4)).toArray) [⟨.pointer (some ⟨g46, 0, none⟩), 70, 0, nums .u8 (sub t42 x53_2 4)⟩, ⟨.slice A5_0 x5_0.length c5_0, 5, 1, nums .u8 x5_1⟩, ⟨.slice (some ⟨g39, 0, none⟩) 4 4, 5, 1, nums .u8 x9_2⟩] := Mem.setAll [] [⟨.slice A5_0 x5_0.length c5_0, 5, 1, nums .u8 x5_1⟩, ⟨.slice (some ⟨g39, 0, none⟩) 4 4, 5, 1, nums .u8 x9_2⟩] (hM.pick [0, 1, 2] rfl rfl)
                              generalize W47.setRow g46 (nums .u8 (sub t42 x53_2 4)).toArray = W49 at hM ⊢
                              refine RunF.go 3 [5, 9, 10, 11, 52, 53] (k' := (pin Go.Proofs.Try.f16 [1, 0, 1, 1, 1, 1, 1, 1, 0, 1, 0, 0, 1, 1, 0, 0, 1, 0] 0)) (L' := [(5, .slice A5_0 x5_0.length c5_0), (9, .slice (some ⟨g39, 0, none⟩) 4 4), (10, .int .i64 x53_2), (11, .pointer (some ⟨g46, 0, none⟩)), (52, .agg (nums .u8 t42).toArray), (53, .int .i64 x53_2)]) (w' := W49) (by kernel_rfl) ?_
                              refine RunF.y (ldv_y (d := some 57) (g := g46) (N := 4) (ty := 70) (k2 := (pin Go.Proofs.Try.f16 [1, 0, 1, 1, 1, 1, 1, 1, 0, 1, 0, 0, 1, 1, 0, 0, 1, 0] 1)) (nums .u8 (sub t42 x53_2 4)) (by kernel_rfl) (by simp only [nums_length, bools_length, strs_length]; exact (sub_length (N := 4) (of_decide_eq_true c44) (of_decide_eq_true c45) hNt42_0))) (hM.block 0 rfl) ?_
                              refine RunF.go 4 [5, 9, 10, 52, 53, 57, 58] (k' := (pl Go.Proofs.Try.f16 [1, 0, 1, 1, 1, 1, 1, 1, 0, 1, 0, 0, 1, 1, 0, 0, 1, 1, 0, 0])) (L' := [(5, .slice A5_0 x5_0.length c5_0), (9, .slice (some ⟨g39, 0, none⟩) 4 4), (10, .int .i64 x53_2), (52, .agg (nums .u8 t42).toArray), (53, .int .i64 x53_2), (57, .agg (nums .u8 (sub t42 x53_2 4)).toArray), (58, .int .i64 0)]) (w' := W49) (by kernel_rfl) ?_
                              have l3 : ∀ (k_ : Nat), k_ ≤ k → ∀ (x9_3 : List Int) (x58_3 : Int) (W : World) (hM : Mem w W [⟨.slice A5_0 x5_0.length c5_0, 5, 1, nums .u8 x5_1⟩, ⟨.slice (some ⟨g39, 0, none⟩) 4 4, 5, 1, nums .u8 x9_3⟩]) (h : twofish_H.l3 k_ t42 x53_2 x5_0 x5_1 x9_3 x58_3 = some r), RunF Go.Proofs.Try.prog (Ret fun v w' => v = .int .u32 r ∧ Mem w w' []) 16 (pl Go.Proofs.Try.f16 [1, 0, 1, 1, 1, 1, 1, 1, 0, 1, 0, 0, 1, 1, 0, 0, 1, 1, 0, 0]) 82 [(5, .slice A5_0 x5_0.length c5_0), (9, .slice (some ⟨g39, 0, none⟩) 4 4), (10, .int .i64 x53_2), (52, .agg (nums .u8 t42).toArray), (53, .int .i64 x53_2), (57, .agg (nums .u8 (sub t42 x53_2 4)).toArray), (58, .int .i64 x58_3)] W := by
                                intro k_
                                induction k_ using Nat.strongRecOn with
                                | _ k_ ih3 =>
                                  intro hk x9_3 x58_3 W hM h
                                  cases k_ with
                                  | zero => exact absurd h (by simp [twofish_H.l3])
                                  | succ k =>
                                    simp only [twofish_H.l3] at h
                                    replace ih3 : ∀ m, m ≤ k → _ := fun m hm => ih3 m (by omega) (by omega)
                                    replace ih0 : ∀ m, m ≤ k → _ := fun m hm => ih0 m (by omega)
                                    replace ih1 : ∀ m, m ≤ k → _ := fun m hm => ih1 m (by omega)
                                    replace ih2 : ∀ m, m ≤ k → _ := fun m hm => ih2 m (by omega)
                                    refine RunF.go 5 [5, 9, 10, 52, 53, 57, 58, 59] (k' := (pl Go.Proofs.Try.f16 [1, 0, 1, 1, 1, 1, 1, 1, 0, 1, 0, 0, 1, 1, 0, 0, 1, 1, 0, 0, 1, 0])) (L' := [(5, .slice A5_0 x5_0.length c5_0), (9, .slice (some ⟨g39, 0, none⟩) 4 4), (10, .int .i64 x53_2), (52, .agg (nums .u8 t42).toArray), (53, .int .i64 x53_2), (57, .agg (nums .u8 (sub t42 x53_2 4)).toArray), (58, .int .i64 x58_3), (59, .bool (decide (x58_3 < 4)))]) (w' := W) (by kernel_rfl) ?_
                                    rcases two (decide (x58_3 < 4)) with c50 | c50
                                    · replace h := of_true h c50
                                      refine RunF.know 59 (b := true) (by kernel_rfl) c50 ?_
                                      refine RunF.go 7 [5, 9, 10, 52, 53, 57, 58, 60] (k' := (pin Go.Proofs.Try.f16 [1, 0, 1, 1, 1, 1, 1, 1, 0, 1, 0, 0, 1, 1, 0, 0, 1, 1, 0, 0, 1, 1, 0, 0, 0] 1)) (L' := [(5, .slice A5_0 x5_0.length c5_0), (9, .slice (some ⟨g39, 0, none⟩) 4 4), (10, .int .i64 x53_2), (52, .agg (nums .u8 t42).toArray), (53, .int .i64 x53_2), (57, .agg (nums .u8 (sub t42 x53_2 4)).toArray), (58, .int .i64 x58_3), (60, .int .i64 x58_3)]) (w' := W) (by kernel_rfl) ?_
                                      rcases two (decide (0 ≤ x58_3)) with c51 | c51
                                      · replace h := of_true h c51
                                        rcases two (decide (x58_3 < (4 : Int))) with c52 | c52
                                        · replace h := of_true h c52
                                          refine RunF.y (idxVal_y (d := some 61) (cs := (nums .u8 (sub t42 x53_2 4)).toArray) (len := 4) (i := x58_3) (u := .int .u8 (rd (sub t42 x53_2 4) x58_3)) (k2 := (pin Go.Proofs.Try.f16 [1, 0, 1, 1, 1, 1, 1, 1, 0, 1, 0, 0, 1, 1, 0, 0, 1, 1, 0, 0, 1, 1, 0, 0, 0] 2)) (by kernel_rfl) (of_decide_eq_true c51) (of_decide_eq_true c52) (by rw [List.getElem?_toArray]; exact nums_at (of_decide_eq_true c51) (by rw [show (sub t42 x53_2 4).length = 4 from (sub_length (N := 4) (of_decide_eq_true c44) (of_decide_eq_true c45) hNt42_0)]; exact (of_decide_eq_true c52)))) trivial ?_
                                          refine RunF.go 3 [5, 9, 10, 12, 13, 52, 53, 57, 58] (k' := (pl Go.Proofs.Try.f16 [1, 0, 1, 1, 1, 1, 1, 1, 0, 1, 0, 0, 1, 1, 0, 0, 1, 1, 0, 0, 1, 1, 0, 0, 1])) (L' := [(5, .slice A5_0 x5_0.length c5_0), (9, .slice (some ⟨g39, 0, none⟩) 4 4), (10, .int .i64 x53_2), (12, .int .i64 x58_3), (13, .int .u8 (rd (sub t42 x53_2 4) x58_3)), (52, .agg (nums .u8 t42).toArray), (53, .int .i64 x53_2), (57, .agg (nums .u8 (sub t42 x53_2 4)).toArray), (58, .int .i64 x58_3)]) (w' := W) (by kernel_rfl) ?_
                                          refine RunF.draw (Still ({ W with drawn := W.drawn + 1 } : World) [.slice (some ⟨g39, 0, none⟩) 4 4]) (by kernel_rfl) (by kernel_rfl) ?_
                                          have hMd54 := hM.drew
                                          have hS := Still.refl ({ W with drawn := W.drawn + 1 } : World) [.slice (some ⟨g39, 0, none⟩) 4 4]
                                          generalize ({ W with drawn := W.drawn + 1 } : World) = W53 at hMd54 hS ⊢
                                          replace hM := hMd54
                                          refine RunAny.y 0 (by kernel_rfl) (yl_pure (d := some 62) (v := .slice (some ⟨g39, 0, none⟩) 4 4) (k2 := [.inRegion (opsOf (pl Go.Proofs.Try.f16 [1, 0, 1, 1, 1, 1, 1, 1, 0, 1, 0, 0, 1, 1, 0, 0, 1, 1, 0, 0, 1, 1, 0, 0, 1])) []]) fun w => by kernel_rfl) (fun _ _ => trivial) hS ?_
                                          refine RunAny.y 1 (by kernel_rfl) (yl_pure (d := some 63) (v := .int .i64 x53_2) (k2 := [.inRegion (opsOf (pl Go.Proofs.Try.f16 [1, 0, 1, 1, 1, 1, 1, 1, 0, 1, 0, 0, 1, 1, 0, 0, 1, 1, 0, 0, 1, 1, 0, 0, 1])) []]) fun w => by kernel_rfl) (fun _ _ => trivial) hS ?_
                                          rcases two (decide (0 ≤ x53_2)) with c56 | c56
                                          · replace h := of_true h c56
                                            rcases two (decide (x53_2 < (4 : Int))) with c57 | c57
                                            · replace h := of_true h c57
                                              obtain ⟨q55, hAq55, hcq55, hfq55, hlq55⟩ := hM.num_at 1 rfl (i := x53_2) (of_decide_eq_true c56) (by have h_ := of_decide_eq_true c57; omega)
                                              refine RunAny.y 2 (by kernel_rfl) (idx_own (d := some 64) (A := (some ⟨g39, 0, none⟩)) (m := 4) (i := x53_2) (k2 := [.inRegion (opsOf (pl Go.Proofs.Try.f16 [1, 0, 1, 1, 1, 1, 1, 1, 0, 1, 0, 0, 1, 1, 0, 0, 1, 1, 0, 0, 1, 1, 0, 0, 1])) []]) (by kernel_rfl) (of_decide_eq_true c56) (by have h_ := of_decide_eq_true c57; omega) hAq55) (fun _ _ => trivial) hS ?_
                                              refine RunAny.y 4 (by kernel_rfl) (yl_pure (d := some 66) (v := .int .u8 (rd (sub t42 x53_2 4) x58_3)) (k2 := [.inRegion (opsOf (pl Go.Proofs.Try.f16 [1, 0, 1, 1, 1, 1, 1, 1, 0, 1, 0, 0, 1, 1, 0, 0, 1, 1, 0, 0, 1, 1, 0, 0, 1])) []]) fun w => by kernel_rfl) (fun _ _ => trivial) hS ?_
                                              refine RunAny.y 5 (by kernel_rfl) (yl_pure (d := some 67) (v := .slice A5_0 x5_0.length c5_0) (k2 := [.inRegion (opsOf (pl Go.Proofs.Try.f16 [1, 0, 1, 1, 1, 1, 1, 1, 0, 1, 0, 0, 1, 1, 0, 0, 1, 1, 0, 0, 1, 1, 0, 0, 1])) []]) fun w => by kernel_rfl) (fun _ _ => trivial) hS ?_
                                              refine RunAny.y 6 (by kernel_rfl) (yl_pure (d := some 68) (v := .int .i64 x58_3) (k2 := [.inRegion (opsOf (pl Go.Proofs.Try.f16 [1, 0, 1, 1, 1, 1, 1, 1, 0, 1, 0, 0, 1, 1, 0, 0, 1, 1, 0, 0, 1, 1, 0, 0, 1])) []]) fun w => by kernel_rfl) (fun _ _ => trivial) hS ?_
                                              rcases two (decide (0 ≤ x58_3)) with c59 | c59
                                              · replace h := of_true h c59
                                                rcases two (decide (x58_3 < (x5_0.length : Int))) with c60 | c60
                                                · replace h := of_true h c60
                                                  obtain ⟨q58, hAq58, hcq58, hfq58, hlq58⟩ := hM.num_at 0 rfl (i := x58_3) (of_decide_eq_true c59) (by have h_ := of_decide_eq_true c60; omega)
                                                  refine RunAny.y 7 (by kernel_rfl) (idx_own (d := some 69) (A := A5_0) (m := x5_0.length) (i := x58_3) (k2 := [.inRegion (opsOf (pl Go.Proofs.Try.f16 [1, 0, 1, 1, 1, 1, 1, 1, 0, 1, 0, 0, 1, 1, 0, 0, 1, 1, 0, 0, 1, 1, 0, 0, 1])) []]) (by kernel_rfl) (of_decide_eq_true c59) (by have h_ := of_decide_eq_true c60; omega) hAq58) (fun _ _ => trivial) hS ?_
                                                  refine RunAny.y 8 (by kernel_rfl) (ld_y (d := some 70) (p := ⟨q58, (x58_3 : Int).toNat, none⟩) (k2 := [.inRegion (opsOf (pl Go.Proofs.Try.f16 [1, 0, 1, 1, 1, 1, 1, 1, 0, 1, 0, 0, 1, 1, 0, 0, 1, 1, 0, 0, 1, 1, 0, 0, 1])) []]) (.int .u8 (rd x5_1 x58_3)) (by kernel_rfl)) (fun _ hs => hs.cell hcq58 (by intro v hv; simp only [List.mem_cons, List.not_mem_nil, or_false] at hv; rcases hv with rfl; exact (hM.ne 0 1 rfl rfl rfl (by rw [hAq58]; rfl)))) hS ?_
                                                  obtain ⟨t61, ht61, h⟩ := Option.bind_eq_some_iff.mp h
                                                  have J64 : ∀ (W65 : World) (hS : Still W65 [.slice (some ⟨g39, 0, none⟩) 4 4] W65) (hM : Mem w W65 [⟨.slice A5_0 x5_0.length c5_0, 5, 1, nums .u8 x5_1⟩, ⟨.slice (some ⟨g39, 0, none⟩) 4 4, 5, 1, nums .u8 x9_3⟩]) , RunAny Go.Proofs.Try.prog (Ret fun v w' => v = .int .u32 r ∧ Mem w w' []) 16 (rest1 (pl Go.Proofs.Try.f16 [1, 0, 1, 1, 1, 1, 1, 1, 0, 1, 0, 0, 1, 1, 0, 0, 1, 1, 0, 0, 1, 1, 0, 0, 1])) 82 (opsOf (pl Go.Proofs.Try.f16 [1, 0, 1, 1, 1, 1, 1, 1, 0, 1, 0, 0, 1, 1, 0, 0, 1, 1, 0, 0, 1, 1, 0, 0, 1])) (Still W65 [.slice (some ⟨g39, 0, none⟩) 4 4]) 2 [0, 1, 2, 4, 5, 6, 7, 8, 3, 9, 10] [(5, .slice A5_0 x5_0.length c5_0), (9, .slice (some ⟨g39, 0, none⟩) 4 4), (10, .int .i64 x53_2), (12, .int .i64 x58_3), (13, .int .u8 (rd (sub t42 x53_2 4) x58_3)), (52, .agg (nums .u8 t42).toArray), (53, .int .i64 x53_2), (57, .agg (nums .u8 (sub t42 x53_2 4)).toArray), (58, .int .i64 x58_3), (62, .slice (some ⟨g39, 0, none⟩) 4 4), (63, .int .i64 x53_2), (64, .pointer (some ⟨q55, (x53_2 : Int).toNat, none⟩)), (65, .int .u8 (rd x9_3 x53_2)), (66, .int .u8 (rd (sub t42 x53_2 4) x58_3)), (67, .slice A5_0 x5_0.length c5_0), (68, .int .i64 x58_3), (69, .pointer (some ⟨q58, (x58_3 : Int).toNat, none⟩)), (70, .int .u8 (rd x5_1 x58_3)), (71, .int .u8 t61), (72, .int .u8 (bxor .u8 (rd x9_3 x53_2) t61))] W65 := by
                                                    intro W65 hS hM 
                                                    rcases two (decide (0 ≤ x53_2)) with c67 | c67
                                                    · replace h := of_true h c67
                                                      rcases two (decide (x53_2 < (4 : Int))) with c68 | c68
                                                      · replace h := of_true h c68
                                                        obtain ⟨q66, hAq66, hcq66, hfq66, hlq66⟩ := hM.num_at 1 rfl (i := x53_2) (of_decide_eq_true c67) (by have h_ := of_decide_eq_true c68; omega)
                                                        refine RunAny.y 11 (by kernel_rfl) (idx_own (d := some 73) (A := (some ⟨g39, 0, none⟩)) (m := 4) (i := x53_2) (k2 := [.inRegion (opsOf (pl Go.Proofs.Try.f16 [1, 0, 1, 1, 1, 1, 1, 1, 0, 1, 0, 0, 1, 1, 0, 0, 1, 1, 0, 0, 1, 1, 0, 0, 1])) []]) (by kernel_rfl) (of_decide_eq_true c67) (by have h_ := of_decide_eq_true c68; omega) hAq66) (fun _ _ => trivial) hS ?_
                                                        obtain ⟨g_, hA_, hc_, hf_, hl_⟩ := hM.num_at 1 rfl (i := x53_2) (of_decide_eq_true c67) (by have h_ := of_decide_eq_true c68; omega)
                                                        obtain rfl : q66 = g_ := by rw [hAq66] at hA_; injection hA_ with hA_; injection hA_
                                                        have hS' := hS.set (v := .slice (some ⟨g39, 0, none⟩) 4 4) (g := q66) (i := (x53_2 : Int).toNat) (by simp) (by rw [hAq66]; rfl) (.int .u8 (bxor .u8 (rd x9_3 x53_2) t61))
                                                        refine RunAny.doesU 12 (by kernel_rfl) (st_u (p := (⟨q66, (x53_2 : Int).toNat, none⟩ : Addr)) (v := .int .u8 (bxor .u8 (rd x9_3 x53_2) t61)) (k2 := [.inRegion (opsOf (pl Go.Proofs.Try.f16 [1, 0, 1, 1, 1, 1, 1, 1, 0, 1, 0, 0, 1, 1, 0, 0, 1, 1, 0, 0, 1, 1, 0, 0, 1])) []]) (by kernel_rfl) hc_ hf_) hS' ?_
                                                        replace hM : Mem w (W65.setCell (⟨q66, (x53_2 : Int).toNat, none⟩ : Addr) (.int .u8 (bxor .u8 (rd x9_3 x53_2) t61))) [⟨.slice A5_0 x5_0.length c5_0, 5, 1, nums .u8 x5_1⟩, ⟨.slice (some ⟨g39, 0, none⟩) 4 4, 5, 1, nums .u8 (x9_3.set (x53_2 : Int).toNat (bxor .u8 (rd x9_3 x53_2) t61))⟩] := Mem.put_num [⟨.slice A5_0 x5_0.length c5_0, 5, 1, nums .u8 x5_1⟩] [] (hM.pick [0, 1] rfl rfl) hAq66 _ hl_ _
                                                        generalize W65.setCell (⟨q66, (x53_2 : Int).toNat, none⟩ : Addr) (.int .u8 (bxor .u8 (rd x9_3 x53_2) t61)) = W69 at hM hS' ⊢
                                                        clear hc_ hf_ hl_ hA_ hcq66
                                                        replace hS := hS'
                                                        refine RunAny.rebase hS ?_
                                                        replace hS := Still.refl W69 [.slice (some ⟨g39, 0, none⟩) 4 4]
                                                        refine RunAny.done (by kernel_rfl) ?_
                                                        clear hS
                                                        refine RunF.go 6 [5, 9, 10, 52, 53, 57, 58] (k' := (pl Go.Proofs.Try.f16 [1, 0, 1, 1, 1, 1, 1, 1, 0, 1, 0, 0, 1, 1, 0, 0, 1, 1, 0, 0])) (L' := [(5, .slice A5_0 x5_0.length c5_0), (9, .slice (some ⟨g39, 0, none⟩) 4 4), (10, .int .i64 x53_2), (52, .agg (nums .u8 t42).toArray), (53, .int .i64 x53_2), (57, .agg (nums .u8 (sub t42 x53_2 4)).toArray), (58, .int .i64 (I64 (x58_3 + 1)))]) (w' := W69) (by kernel_rfl) ?_
                                                        exact ih3 k (by omega) (x9_3.set (x53_2 : Int).toNat (bxor .u8 (rd x9_3 x53_2) t61)) (I64 (x58_3 + 1)) _ (hM.pick [0, 1] rfl rfl) h
                                                      · replace h := of_false h c68
                                                        cases h
                                                    · replace h := of_false h c67
                                                      cases h
                                                  have J70 : ∀ (W71 : World) (hS : Still W71 [.slice (some ⟨g39, 0, none⟩) 4 4] W71) (hM : Mem w W71 [⟨.slice A5_0 x5_0.length c5_0, 5, 1, nums .u8 x5_1⟩, ⟨.slice (some ⟨g39, 0, none⟩) 4 4, 5, 1, nums .u8 x9_3⟩]) (hcq55 : W71.cell? ⟨q55, (x53_2 : Int).toNat, none⟩ = some (.int .u8 (rd x9_3 x53_2))), RunAny Go.Proofs.Try.prog (Ret fun v w' => v = .int .u32 r ∧ Mem w w' []) 16 (rest1 (pl Go.Proofs.Try.f16 [1, 0, 1, 1, 1, 1, 1, 1, 0, 1, 0, 0, 1, 1, 0, 0, 1, 1, 0, 0, 1, 1, 0, 0, 1])) 82 (opsOf (pl Go.Proofs.Try.f16 [1, 0, 1, 1, 1, 1, 1, 1, 0, 1, 0, 0, 1, 1, 0, 0, 1, 1, 0, 0, 1, 1, 0, 0, 1])) (Still W71 [.slice (some ⟨g39, 0, none⟩) 4 4]) 4 [0, 1, 2, 4, 5, 6, 7, 8, 9] [(5, .slice A5_0 x5_0.length c5_0), (9, .slice (some ⟨g39, 0, none⟩) 4 4), (10, .int .i64 x53_2), (12, .int .i64 x58_3), (13, .int .u8 (rd (sub t42 x53_2 4) x58_3)), (52, .agg (nums .u8 t42).toArray), (53, .int .i64 x53_2), (57, .agg (nums .u8 (sub t42 x53_2 4)).toArray), (58, .int .i64 x58_3), (62, .slice (some ⟨g39, 0, none⟩) 4 4), (63, .int .i64 x53_2), (64, .pointer (some ⟨q55, (x53_2 : Int).toNat, none⟩)), (66, .int .u8 (rd (sub t42 x53_2 4) x58_3)), (67, .slice A5_0 x5_0.length c5_0), (68, .int .i64 x58_3), (69, .pointer (some ⟨q58, (x58_3 : Int).toNat, none⟩)), (70, .int .u8 (rd x5_1 x58_3)), (71, .int .u8 t61)] W71 := by
                                                    intro W71 hS hM hcq55
                                                    refine RunAny.does 3 (by kernel_rfl) ((ld_y (d := some 65) (p := ⟨q55, (x53_2 : Int).toNat, none⟩) (k2 := [.inRegion (opsOf (pl Go.Proofs.Try.f16 [1, 0, 1, 1, 1, 1, 1, 1, 0, 1, 0, 0, 1, 1, 0, 0, 1, 1, 0, 0, 1, 1, 0, 0, 1])) []]) (.int .u8 (rd x9_3 x53_2)) (by kernel_rfl)).does hcq55) hS ?_
                                                    refine RunAny.y 10 (by kernel_rfl) (yl_pure (d := some 72) (v := .int .u8 (bxor .u8 (rd x9_3 x53_2) t61)) (k2 := [.inRegion (opsOf (pl Go.Proofs.Try.f16 [1, 0, 1, 1, 1, 1, 1, 1, 0, 1, 0, 0, 1, 1, 0, 0, 1, 1, 0, 0, 1, 1, 0, 0, 1])) []]) fun w => by kernel_rfl) (fun _ _ => trivial) hS ?_
                                                    exact RunAny.same [0, 1, 2, 4, 5, 6, 7, 8, 3, 9, 10] (by kernel_rfl) [5, 9, 10, 12, 13, 52, 53, 57, 58, 62, 63, 64, 65, 66, 67, 68, 69, 70, 71, 72] (by kernel_rfl) (J64 _ hS (hM.pick [0, 1] rfl rfl))
                                                  have J72 : ∀ (W73 : World) (hS : Still W73 [.slice (some ⟨g39, 0, none⟩) 4 4] W73) (hM : Mem w W73 [⟨.slice A5_0 x5_0.length c5_0, 5, 1, nums .u8 x5_1⟩, ⟨.slice (some ⟨g39, 0, none⟩) 4 4, 5, 1, nums .u8 x9_3⟩]) , RunAny Go.Proofs.Try.prog (Ret fun v w' => v = .int .u32 r ∧ Mem w w' []) 16 (rest1 (pl Go.Proofs.Try.f16 [1, 0, 1, 1, 1, 1, 1, 1, 0, 1, 0, 0, 1, 1, 0, 0, 1, 1, 0, 0, 1, 1, 0, 0, 1])) 82 (opsOf (pl Go.Proofs.Try.f16 [1, 0, 1, 1, 1, 1, 1, 1, 0, 1, 0, 0, 1, 1, 0, 0, 1, 1, 0, 0, 1, 1, 0, 0, 1])) (Still W73 [.slice (some ⟨g39, 0, none⟩) 4 4]) 4 [0, 1, 2, 4, 5, 6, 7, 8, 3] [(5, .slice A5_0 x5_0.length c5_0), (9, .slice (some ⟨g39, 0, none⟩) 4 4), (10, .int .i64 x53_2), (12, .int .i64 x58_3), (13, .int .u8 (rd (sub t42 x53_2 4) x58_3)), (52, .agg (nums .u8 t42).toArray), (53, .int .i64 x53_2), (57, .agg (nums .u8 (sub t42 x53_2 4)).toArray), (58, .int .i64 x58_3), (62, .slice (some ⟨g39, 0, none⟩) 4 4), (63, .int .i64 x53_2), (64, .pointer (some ⟨q55, (x53_2 : Int).toNat, none⟩)), (65, .int .u8 (rd x9_3 x53_2)), (66, .int .u8 (rd (sub t42 x53_2 4) x58_3)), (67, .slice A5_0 x5_0.length c5_0), (68, .int .i64 x58_3), (69, .pointer (some ⟨q58, (x58_3 : Int).toNat, none⟩)), (70, .int .u8 (rd x5_1 x58_3))] W73 := by
                                                    intro W73 hS hM 
                                                    refine RunAny.call 9 (d := some 71) (g := 38) (args := #[.int .u8 (rd (sub t42 x53_2 4) x58_3), .int .u8 (rd x5_1 x58_3), .int .i64 361]) (by kernel_rfl) (by kernel_rfl) (field_Mul.calls k (rd (sub t42 x53_2 4) x58_3) (rd x5_1 x58_3) 361 t61 _ ht61) (by rintro _ _ ⟨rfl, hM_⟩; exact hS.below hM_.below) ?_
                                                    rintro _ W74 ⟨rfl, hM_⟩
                                                    replace hS := hS.below hM_.below
                                                    replace hM := hM.call hM_
                                                    clear hM_ ht61
                                                    refine RunAny.rebase hS ?_
                                                    replace hS := Still.refl W74 [.slice (some ⟨g39, 0, none⟩) 4 4]
                                                    refine RunAny.y 10 (by kernel_rfl) (yl_pure (d := some 72) (v := .int .u8 (bxor .u8 (rd x9_3 x53_2) t61)) (k2 := [.inRegion (opsOf (pl Go.Proofs.Try.f16 [1, 0, 1, 1, 1, 1, 1, 1, 0, 1, 0, 0, 1, 1, 0, 0, 1, 1, 0, 0, 1, 1, 0, 0, 1])) []]) fun w => by kernel_rfl) (fun _ _ => trivial) hS ?_
                                                    exact RunAny.same [0, 1, 2, 4, 5, 6, 7, 8, 3, 9, 10] (by kernel_rfl) [5, 9, 10, 12, 13, 52, 53, 57, 58, 62, 63, 64, 65, 66, 67, 68, 69, 70, 71, 72] (by kernel_rfl) (J64 _ hS (hM.pick [0, 1] rfl rfl))
                                                  refine RunAny.all [3, 9] (by kernel_rfl) (by simp) ?_
                                                  refine ⟨?_, ?_, trivial⟩
                                                  · refine Stepped.does 3 ((ld_y (d := some 65) (p := ⟨q55, (x53_2 : Int).toNat, none⟩) (k2 := [.inRegion (opsOf (pl Go.Proofs.Try.f16 [1, 0, 1, 1, 1, 1, 1, 1, 0, 1, 0, 0, 1, 1, 0, 0, 1, 1, 0, 0, 1, 1, 0, 0, 1])) []]) (.int .u8 (rd x9_3 x53_2)) (by kernel_rfl)).does hcq55) hS ?_
                                                    exact RunAny.same [0, 1, 2, 4, 5, 6, 7, 8, 3] (by kernel_rfl) [5, 9, 10, 12, 13, 52, 53, 57, 58, 62, 63, 64, 65, 66, 67, 68, 69, 70] (by kernel_rfl) (J72 _ hS (hM.pick [0, 1] rfl rfl))
                                                  · refine Stepped.call 9 (d := some 71) (g := 38) (args := #[.int .u8 (rd (sub t42 x53_2 4) x58_3), .int .u8 (rd x5_1 x58_3), .int .i64 361]) (by kernel_rfl) (field_Mul.calls k (rd (sub t42 x53_2 4) x58_3) (rd x5_1 x58_3) 361 t61 _ ht61) (by rintro _ _ ⟨rfl, hM_⟩; exact hS.below hM_.below) ?_
                                                    rintro _ W75 ⟨rfl, hM_⟩
                                                    replace hS := hS.below hM_.below
                                                    replace hM := hM.call hM_
                                                    clear hM_ ht61
                                                    obtain ⟨g_, hA_, hc_, _, _⟩ := hM.num_at 1 rfl (i := x53_2) (of_decide_eq_true c56) (by have h_ := of_decide_eq_true c57; omega)
                                                    obtain rfl : q55 = g_ := by rw [hAq55] at hA_; injection hA_ with hA_; injection hA_
                                                    replace hcq55 := hc_
                                                    refine RunAny.rebase hS ?_
                                                    replace hS := Still.refl W75 [.slice (some ⟨g39, 0, none⟩) 4 4]
                                                    exact RunAny.same [0, 1, 2, 4, 5, 6, 7, 8, 9] (by kernel_rfl) [5, 9, 10, 12, 13, 52, 53, 57, 58, 62, 63, 64, 66, 67, 68, 69, 70, 71] (by kernel_rfl) (J70 _ hS (hM.pick [0, 1] rfl rfl) hcq55)
                                                · replace h := of_false h c60
                                                  cases h
                                              · replace h := of_false h c59
                                                cases h
                                            · replace h := of_false h c57
                                              cases h
                                          · replace h := of_false h c56
                                            cases h
                                        · replace h := of_false h c52
                                          cases h
                                      · replace h := of_false h c51
                                        cases h
                                    · replace h := of_false h c50
                                      refine RunF.know 59 (b := false) (by kernel_rfl) c50 ?_
                                      refine RunF.go 8 [5, 9, 52, 53] (k' := (pl Go.Proofs.Try.f16 [1, 0, 1, 1, 1, 1, 1, 1, 0, 1, 0, 0])) (L' := [(5, .slice A5_0 x5_0.length c5_0), (9, .slice (some ⟨g39, 0, none⟩) 4 4), (52, .agg (nums .u8 t42).toArray), (53, .int .i64 (I64 (x53_2 + 1)))]) (w' := W) (by kernel_rfl) ?_
                                      exact ih2 k (by omega) x9_3 (I64 (x53_2 + 1)) _ (hM.pick [0, 1] rfl rfl) h
                              exact l3 k (Nat.le_refl _) x9_2 0 _ (hM.pick [1, 2] rfl rfl) h
                            · replace h := of_false h c45
                              cases h
                          · replace h := of_false h c44
                            cases h
                        · replace h := of_false h c43
                          refine RunF.know 54 (b := false) (by kernel_rfl) c43 ?_
                          refine RunF.go 5 [77] (k' := (pin Go.Proofs.Try.f16 [1, 0, 1, 1, 1, 1, 1, 1, 1, 0] 1)) (L' := [(77, .slice (some ⟨g39, 0, none⟩) 4 4)]) (w' := W) (by kernel_rfl) ?_
                          obtain ⟨t77, ht77, h⟩ := Option.bind_eq_some_iff.mp h
                          refine RunF.call (d := some 78) (g := 24) (args := #[.slice (some ⟨g39, 0, none⟩) 4 4]) (k2 := (pin Go.Proofs.Try.f16 [1, 0, 1, 1, 1, 1, 1, 1, 1, 0] 2)) (by kernel_rfl) (words_Le32.calls k (some ⟨g39, 0, none⟩) 4 4 x9_2 t77 _ (hM.rd 1 rfl) ht77) ?_
                          rintro _ W76 ⟨rfl, hM_⟩
                          replace hM := hM.call hM_
                          clear hM_ ht77
                          refine RunF.go 11 [4] (k' := (pl Go.Proofs.Try.f16 [1, 0, 1, 1, 1, 1, 1, 1, 1, 1, 1])) (L' := [(4, .int .u32 t77.1)]) (w' := W76) (by kernel_rfl) ?_
                          obtain rfl := Option.some.inj h
                          exact RunF.ret1 4 (.int .u32 t77.1) (fn := Go.Proofs.Try.f16) Go.Proofs.Try.func16 (by kernel_rfl) (by kernel_rfl) (by kernel_rfl) ⟨_, rfl, rfl, (hM.pick [] rfl rfl)⟩
                  exact l2 k (Nat.le_refl _) (List.replicate 4 (0 : Int)) 0 _ (hM.pick [1, 0] rfl rfl) h
        exact l1 k (Nat.le_refl _) x5_0 0 _ (hM.pick [0] rfl rfl) h
  exact l0 k (Nat.le_refl _) A3 c5 t2 (mn (a1.length : Int) 4) _ (hM.pick [0] rfl rfl) h

/-! ### scrim/twofish.folded: function 25 -/
mutual
def twofish_folded.l0 : Nat → (List Int) → (List Int) → Int → Option (Int)
  | 0, _, _, _ => none
  | k + 1, a0, x3_0, x16_0 => if (decide (x16_0 < 4)) = true then (if (decide (0 ≤ x16_0)) = true then (if (decide (x16_0 < (4 : Int))) = true then ((some (((rdr ([] : List Int) ([([1, 164, 85, 135, 90, 88, 219, 158] : List Int), ([164, 86, 130, 243, 30, 198, 104, 229] : List Int), ([2, 161, 252, 193, 71, 174, 61, 25] : List Int), ([164, 85, 135, 90, 88, 219, 158, 3] : List Int)] : List (List Int)) x16_0).length : Int) : Int)).bind fun y25 => (twofish_folded.l1 k a0 x16_0 y25 x3_0 0)) else (none)) else (none)) else ((words_Le32.f k x3_0).bind fun t55 => (some t55.1))
def twofish_folded.l1 : Nat → (List Int) → Int → Int → (List Int) → Int → Option (Int)
  | 0, _, _, _, _, _ => none
  | k + 1, a0, x16_0, y25, x3_1, x22_1 => if (decide (x22_1 < y25)) = true then (if (decide (0 ≤ x22_1)) = true then (if (decide (x22_1 < ((rdr ([] : List Int) ([([1, 164, 85, 135, 90, 88, 219, 158] : List Int), ([164, 86, 130, 243, 30, 198, 104, 229] : List Int), ([2, 161, 252, 193, 71, 174, 61, 25] : List Int), ([164, 85, 135, 90, 88, 219, 158, 3] : List Int)] : List (List Int)) x16_0).length : Int))) = true then ((some (rd (rdr ([] : List Int) ([([1, 164, 85, 135, 90, 88, 219, 158] : List Int), ([164, 86, 130, 243, 30, 198, 104, 229] : List Int), ([2, 161, 252, 193, 71, 174, 61, 25] : List Int), ([164, 85, 135, 90, 88, 219, 158, 3] : List Int)] : List (List Int)) x16_0) x22_1 : Int)).bind fun y30 => (if (decide (0 ≤ x16_0)) = true then (if (decide (x16_0 < (4 : Int))) = true then (if (decide (0 ≤ x22_1)) = true then (if (decide (x22_1 < (a0.length : Int))) = true then ((field_Mul.f k y30 (rd a0 x22_1) 333).bind fun t39 => (if (decide (0 ≤ x16_0)) = true then (if (decide (x16_0 < (4 : Int))) = true then (twofish_folded.l1 k a0 x16_0 y25 (x3_1.set (x16_0 : Int).toNat (bxor .u8 (rd x3_1 x16_0) t39)) (I64 (x22_1 + 1))) else (none)) else (none))) else (none)) else (none)) else (none)) else (none))) else (none)) else (none)) else (twofish_folded.l0 k a0 x3_1 (I64 (x16_0 + 1)))
end
def twofish_folded.f (k : Nat) (a0 : List Int) : Option (Int) := twofish_folded.l0 k a0 (List.replicate 4 (0 : Int)) 0
set_option maxRecDepth 100000 in
set_option maxHeartbeats 8000000 in
theorem twofish_folded.calls (k : Nat) (Ap0 : Option Addr) (np0 cp0 : Nat) (a0 : List Int) (r : Int) (w : World) (hr0 : Rd w (.slice Ap0 np0 cp0) (nums .u8 a0)) (h : twofish_folded.f k a0 = some r) :
    Calls Go.Proofs.Try.prog 25 #[(.slice Ap0 np0 cp0)] w (Ret fun v w' => v = .int .u32 r ∧ Mem w w' []) := by
  obtain rfl : a0.length = np0 := by have h_ := hr0.1; simpa [nums_length, bools_length, strs_length] using h_
  unfold twofish_folded.f at h
  refine calls_of [.slice Ap0 a0.length cp0] (fn := Go.Proofs.Try.f25) Go.Proofs.Try.func25 (by kernel_rfl) (by kernel_rfl) ?_
  have hM := Mem.refl w
  refine RunF.go 6 [0] (k' := (pin Go.Proofs.Try.f25 [1, 0] 0)) (L' := [(0, .slice Ap0 a0.length cp0)]) (w' := w) (by kernel_rfl) ?_
  obtain ⟨W1, hD, hM', hB_⟩ := mk_does (P := Go.Proofs.Try.prog) (n := 47) (k := (pin Go.Proofs.Try.f25 [1, 0] 0)) (L := [(0, .slice Ap0 a0.length cp0)]) (d := some 10) (e := 5) (z := .int .u8 0) (l := 4) (c := 4) (k2 := (pin Go.Proofs.Try.f25 [1, 0] 1)) (by kernel_rfl) (by omega) (by omega) (by omega) hM
  rw [rep_nums] at hM'
  refine RunF.does hD ?_
  replace hM := hM'; clear hD hM'
  generalize w.heap.size = g2 at hM ⊢
  refine RunF.go 5 [0, 3] (k' := (pin Go.Proofs.Try.f25 [1, 1, 0, 0] 0)) (L' := [(0, .slice Ap0 a0.length cp0), (3, .slice (some ⟨g2, 0, none⟩) 4 4)]) (w' := W1) (by kernel_rfl) ?_
  refine RunF.new 5 1 8 (nums .u8 [1, 164, 85, 135, 90, 88, 219, 158]) (d := some 11) (k2 := (pin Go.Proofs.Try.f25 [1, 1, 0, 0] 1)) hM (by simp [nums, bools, strs]) (by kernel_rfl) (by kernel_rfl) ?_
  replace hM := hM
  intro g4 W5 hM
  refine RunF.new 5 1 8 (nums .u8 [164, 86, 130, 243, 30, 198, 104, 229]) (d := some 12) (k2 := (pin Go.Proofs.Try.f25 [1, 1, 0, 0] 2)) hM (by simp [nums, bools, strs]) (by kernel_rfl) (by kernel_rfl) ?_
  replace hM := hM
  intro g7 W8 hM
  refine RunF.new 5 1 8 (nums .u8 [2, 161, 252, 193, 71, 174, 61, 25]) (d := some 13) (k2 := (pin Go.Proofs.Try.f25 [1, 1, 0, 0] 3)) hM (by simp [nums, bools, strs]) (by kernel_rfl) (by kernel_rfl) ?_
  replace hM := hM
  intro g10 W11 hM
  refine RunF.new 5 1 8 (nums .u8 [164, 85, 135, 90, 88, 219, 158, 3]) (d := some 14) (k2 := (pin Go.Proofs.Try.f25 [1, 1, 0, 0] 4)) hM (by simp [nums, bools, strs]) (by kernel_rfl) (by kernel_rfl) ?_
  replace hM := hM
  intro g13 W14 hM
  refine RunF.go 5 [0, 3, 15, 16] (k' := (pl Go.Proofs.Try.f25 [1, 1, 0, 1, 0, 0])) (L' := [(0, .slice Ap0 a0.length cp0), (3, .slice (some ⟨g2, 0, none⟩) 4 4), (15, .agg #[.slice (some ⟨g4, 0, none⟩) 8 8, .slice (some ⟨g7, 0, none⟩) 8 8, .slice (some ⟨g10, 0, none⟩) 8 8, .slice (some ⟨g13, 0, none⟩) 8 8]), (16, .int .i64 0)]) (w' := W14) (by kernel_rfl) ?_
  obtain ⟨Fq16, hfq16, hM⟩ := Mem.freezeS (H1 := [⟨.slice (some ⟨g13, 0, none⟩) 8 8, 5, 1, nums .u8 [164, 85, 135, 90, 88, 219, 158, 3]⟩, ⟨.slice (some ⟨g10, 0, none⟩) 8 8, 5, 1, nums .u8 [2, 161, 252, 193, 71, 174, 61, 25]⟩, ⟨.slice (some ⟨g7, 0, none⟩) 8 8, 5, 1, nums .u8 [164, 86, 130, 243, 30, 198, 104, 229]⟩]) (H2 := [⟨.slice (some ⟨g2, 0, none⟩) 4 4, 5, 1, nums .u8 (List.replicate 4 (0 : Int))⟩]) (Fs := []) (A := (some ⟨g4, 0, none⟩)) (n := 8) (c := 8) (ty := 5) (cs := nums .u8 [1, 164, 85, 135, 90, 88, 219, 158]) (hM.as rfl)
  obtain ⟨Fq17, hfq17, hM⟩ := Mem.freezeS (H1 := [⟨.slice (some ⟨g13, 0, none⟩) 8 8, 5, 1, nums .u8 [164, 85, 135, 90, 88, 219, 158, 3]⟩, ⟨.slice (some ⟨g10, 0, none⟩) 8 8, 5, 1, nums .u8 [2, 161, 252, 193, 71, 174, 61, 25]⟩]) (H2 := [⟨.slice (some ⟨g2, 0, none⟩) 4 4, 5, 1, nums .u8 (List.replicate 4 (0 : Int))⟩]) (Fs := [Fq16]) (A := (some ⟨g7, 0, none⟩)) (n := 8) (c := 8) (ty := 5) (cs := nums .u8 [164, 86, 130, 243, 30, 198, 104, 229]) (hM.as rfl)
  obtain ⟨Fq18, hfq18, hM⟩ := Mem.freezeS (H1 := [⟨.slice (some ⟨g13, 0, none⟩) 8 8, 5, 1, nums .u8 [164, 85, 135, 90, 88, 219, 158, 3]⟩]) (H2 := [⟨.slice (some ⟨g2, 0, none⟩) 4 4, 5, 1, nums .u8 (List.replicate 4 (0 : Int))⟩]) (Fs := [Fq17, Fq16]) (A := (some ⟨g10, 0, none⟩)) (n := 8) (c := 8) (ty := 5) (cs := nums .u8 [2, 161, 252, 193, 71, 174, 61, 25]) (hM.as rfl)
  obtain ⟨Fq19, hfq19, hM⟩ := Mem.freezeS (H1 := []) (H2 := [⟨.slice (some ⟨g2, 0, none⟩) 4 4, 5, 1, nums .u8 (List.replicate 4 (0 : Int))⟩]) (Fs := [Fq18, Fq17, Fq16]) (A := (some ⟨g13, 0, none⟩)) (n := 8) (c := 8) (ty := 5) (cs := nums .u8 [164, 85, 135, 90, 88, 219, 158, 3]) (hM.as rfl)
  have hqq20 : Each2 ((rNums .u8) (andZ (Oks Fq16) (andZ (Oks Fq17) (andZ (Oks Fq18) (Oks Fq19))))) [.slice (some ⟨g4, 0, none⟩) 8 8, .slice (some ⟨g7, 0, none⟩) 8 8, .slice (some ⟨g10, 0, none⟩) 8 8, .slice (some ⟨g13, 0, none⟩) 8 8] ([([1, 164, 85, 135, 90, 88, 219, 158] : List Int), ([164, 86, 130, 243, 30, 198, 104, 229] : List Int), ([2, 161, 252, 193, 71, 174, 61, 25] : List Int), ([164, 85, 135, 90, 88, 219, 158, 3] : List Int)] : List (List Int)) := (.cons (rnums_of (RdF.up hfq16 (fun _ hz_ => hz_.1)) (And.intro (Mem.oks (hM.as (H' := Gs [⟨.slice (some ⟨g2, 0, none⟩) 4 4, 5, 1, nums .u8 (List.replicate 4 (0 : Int))⟩] [Fq19, Fq18, Fq17, Fq16]) rfl) 3 rfl) (And.intro (Mem.oks (hM.as (H' := Gs [⟨.slice (some ⟨g2, 0, none⟩) 4 4, 5, 1, nums .u8 (List.replicate 4 (0 : Int))⟩] [Fq19, Fq18, Fq17, Fq16]) rfl) 2 rfl) (And.intro (Mem.oks (hM.as (H' := Gs [⟨.slice (some ⟨g2, 0, none⟩) 4 4, 5, 1, nums .u8 (List.replicate 4 (0 : Int))⟩] [Fq19, Fq18, Fq17, Fq16]) rfl) 1 rfl) (Mem.oks (hM.as (H' := Gs [⟨.slice (some ⟨g2, 0, none⟩) 4 4, 5, 1, nums .u8 (List.replicate 4 (0 : Int))⟩] [Fq19, Fq18, Fq17, Fq16]) rfl) 0 rfl))))) (.cons (rnums_of (RdF.up hfq17 (fun _ hz_ => hz_.2.1)) (And.intro (Mem.oks (hM.as (H' := Gs [⟨.slice (some ⟨g2, 0, none⟩) 4 4, 5, 1, nums .u8 (List.replicate 4 (0 : Int))⟩] [Fq19, Fq18, Fq17, Fq16]) rfl) 3 rfl) (And.intro (Mem.oks (hM.as (H' := Gs [⟨.slice (some ⟨g2, 0, none⟩) 4 4, 5, 1, nums .u8 (List.replicate 4 (0 : Int))⟩] [Fq19, Fq18, Fq17, Fq16]) rfl) 2 rfl) (And.intro (Mem.oks (hM.as (H' := Gs [⟨.slice (some ⟨g2, 0, none⟩) 4 4, 5, 1, nums .u8 (List.replicate 4 (0 : Int))⟩] [Fq19, Fq18, Fq17, Fq16]) rfl) 1 rfl) (Mem.oks (hM.as (H' := Gs [⟨.slice (some ⟨g2, 0, none⟩) 4 4, 5, 1, nums .u8 (List.replicate 4 (0 : Int))⟩] [Fq19, Fq18, Fq17, Fq16]) rfl) 0 rfl))))) (.cons (rnums_of (RdF.up hfq18 (fun _ hz_ => hz_.2.2.1)) (And.intro (Mem.oks (hM.as (H' := Gs [⟨.slice (some ⟨g2, 0, none⟩) 4 4, 5, 1, nums .u8 (List.replicate 4 (0 : Int))⟩] [Fq19, Fq18, Fq17, Fq16]) rfl) 3 rfl) (And.intro (Mem.oks (hM.as (H' := Gs [⟨.slice (some ⟨g2, 0, none⟩) 4 4, 5, 1, nums .u8 (List.replicate 4 (0 : Int))⟩] [Fq19, Fq18, Fq17, Fq16]) rfl) 2 rfl) (And.intro (Mem.oks (hM.as (H' := Gs [⟨.slice (some ⟨g2, 0, none⟩) 4 4, 5, 1, nums .u8 (List.replicate 4 (0 : Int))⟩] [Fq19, Fq18, Fq17, Fq16]) rfl) 1 rfl) (Mem.oks (hM.as (H' := Gs [⟨.slice (some ⟨g2, 0, none⟩) 4 4, 5, 1, nums .u8 (List.replicate 4 (0 : Int))⟩] [Fq19, Fq18, Fq17, Fq16]) rfl) 0 rfl))))) (.cons (rnums_of (RdF.up hfq19 (fun _ hz_ => hz_.2.2.2)) (And.intro (Mem.oks (hM.as (H' := Gs [⟨.slice (some ⟨g2, 0, none⟩) 4 4, 5, 1, nums .u8 (List.replicate 4 (0 : Int))⟩] [Fq19, Fq18, Fq17, Fq16]) rfl) 3 rfl) (And.intro (Mem.oks (hM.as (H' := Gs [⟨.slice (some ⟨g2, 0, none⟩) 4 4, 5, 1, nums .u8 (List.replicate 4 (0 : Int))⟩] [Fq19, Fq18, Fq17, Fq16]) rfl) 2 rfl) (And.intro (Mem.oks (hM.as (H' := Gs [⟨.slice (some ⟨g2, 0, none⟩) 4 4, 5, 1, nums .u8 (List.replicate 4 (0 : Int))⟩] [Fq19, Fq18, Fq17, Fq16]) rfl) 1 rfl) (Mem.oks (hM.as (H' := Gs [⟨.slice (some ⟨g2, 0, none⟩) 4 4, 5, 1, nums .u8 (List.replicate 4 (0 : Int))⟩] [Fq19, Fq18, Fq17, Fq16]) rfl) 0 rfl))))) (Each2.nil _)))))
  have l0 : ∀ (k_ : Nat), k_ ≤ k → ∀ (x3_0 : List Int) (x16_0 : Int) (W : World) (hM : Mem w W (Gs [⟨.slice (some ⟨g2, 0, none⟩) 4 4, 5, 1, nums .u8 x3_0⟩] [Fq19, Fq18, Fq17, Fq16])) (h : twofish_folded.l0 k_ a0 x3_0 x16_0 = some r), RunF Go.Proofs.Try.prog (Ret fun v w' => v = .int .u32 r ∧ Mem w w' []) 25 (pl Go.Proofs.Try.f25 [1, 1, 0, 1, 0, 0]) 47 [(0, .slice Ap0 a0.length cp0), (3, .slice (some ⟨g2, 0, none⟩) 4 4), (15, .agg ([.slice (some ⟨g4, 0, none⟩) 8 8, .slice (some ⟨g7, 0, none⟩) 8 8, .slice (some ⟨g10, 0, none⟩) 8 8, .slice (some ⟨g13, 0, none⟩) 8 8]).toArray), (16, .int .i64 x16_0)] W := by
    intro k_
    induction k_ using Nat.strongRecOn with
    | _ k_ ih0 =>
      intro hk x3_0 x16_0 W hM h
      cases k_ with
      | zero => exact absurd h (by simp [twofish_folded.l0])
      | succ k =>
        simp only [twofish_folded.l0] at h
        replace ih0 : ∀ m, m ≤ k → _ := fun m hm => ih0 m (by omega) (by omega)
        refine RunF.go 5 [0, 3, 15, 16, 17] (k' := (pl Go.Proofs.Try.f25 [1, 1, 0, 1, 0, 0, 1, 0])) (L' := [(0, .slice Ap0 a0.length cp0), (3, .slice (some ⟨g2, 0, none⟩) 4 4), (15, .agg ([.slice (some ⟨g4, 0, none⟩) 8 8, .slice (some ⟨g7, 0, none⟩) 8 8, .slice (some ⟨g10, 0, none⟩) 8 8, .slice (some ⟨g13, 0, none⟩) 8 8]).toArray), (16, .int .i64 x16_0), (17, .bool (decide (x16_0 < 4)))]) (w' := W) (by kernel_rfl) ?_
        rcases two (decide (x16_0 < 4)) with c21 | c21
        · replace h := of_true h c21
          refine RunF.know 17 (b := true) (by kernel_rfl) c21 ?_
          refine RunF.go 7 [0, 3, 15, 16, 18] (k' := (pin Go.Proofs.Try.f25 [1, 1, 0, 1, 0, 0, 1, 1, 0, 0, 0] 1)) (L' := [(0, .slice Ap0 a0.length cp0), (3, .slice (some ⟨g2, 0, none⟩) 4 4), (15, .agg ([.slice (some ⟨g4, 0, none⟩) 8 8, .slice (some ⟨g7, 0, none⟩) 8 8, .slice (some ⟨g10, 0, none⟩) 8 8, .slice (some ⟨g13, 0, none⟩) 8 8]).toArray), (16, .int .i64 x16_0), (18, .int .i64 x16_0)]) (w' := W) (by kernel_rfl) ?_
          rcases two (decide (0 ≤ x16_0)) with c23 | c23
          · replace h := of_true h c23
            rcases two (decide (x16_0 < (4 : Int))) with c24 | c24
            · replace h := of_true h c24
              obtain ⟨uq22, huq22, hvq22⟩ := Each2.at hqq20 ([] : List Int) (i := x16_0) (of_decide_eq_true c23) (by rw [show ([([1, 164, 85, 135, 90, 88, 219, 158] : List Int), ([164, 86, 130, 243, 30, 198, 104, 229] : List Int), ([2, 161, 252, 193, 71, 174, 61, 25] : List Int), ([164, 85, 135, 90, 88, 219, 158, 3] : List Int)] : List (List Int)).length = 4 from (rfl : ([([1, 164, 85, 135, 90, 88, 219, 158] : List Int), ([164, 86, 130, 243, 30, 198, 104, 229] : List Int), ([2, 161, 252, 193, 71, 174, 61, 25] : List Int), ([164, 85, 135, 90, 88, 219, 158, 3] : List Int)] : List (List Int)).length = 4)]; exact of_decide_eq_true c24)
              obtain ⟨Aq22, cq22, rfl, hq22⟩ := hvq22
              refine RunF.y (idxVal_y (d := some 19) (cs := ([.slice (some ⟨g4, 0, none⟩) 8 8, .slice (some ⟨g7, 0, none⟩) 8 8, .slice (some ⟨g10, 0, none⟩) 8 8, .slice (some ⟨g13, 0, none⟩) 8 8]).toArray) (len := 4) (i := x16_0) (u := .slice Aq22 ((rdr ([] : List Int) ([([1, 164, 85, 135, 90, 88, 219, 158] : List Int), ([164, 86, 130, 243, 30, 198, 104, 229] : List Int), ([2, 161, 252, 193, 71, 174, 61, 25] : List Int), ([164, 85, 135, 90, 88, 219, 158, 3] : List Int)] : List (List Int)) x16_0).length) cq22) (k2 := (pin Go.Proofs.Try.f25 [1, 1, 0, 1, 0, 0, 1, 1, 0, 0, 0] 2)) (by kernel_rfl) (of_decide_eq_true c23) (of_decide_eq_true c24) (by rw [List.getElem?_toArray]; exact huq22)) trivial ?_
              refine RunF.go 11 [0, 3, 4, 15, 16, 20, 21, 22] (k' := (pl Go.Proofs.Try.f25 [1, 1, 0, 1, 0, 0, 1, 1, 0, 0, 1, 1, 0, 0])) (L' := [(0, .slice Ap0 a0.length cp0), (3, .slice (some ⟨g2, 0, none⟩) 4 4), (4, .int .i64 x16_0), (15, .agg ([.slice (some ⟨g4, 0, none⟩) 8 8, .slice (some ⟨g7, 0, none⟩) 8 8, .slice (some ⟨g10, 0, none⟩) 8 8, .slice (some ⟨g13, 0, none⟩) 8 8]).toArray), (16, .int .i64 x16_0), (20, .slice Aq22 ((rdr ([] : List Int) ([([1, 164, 85, 135, 90, 88, 219, 158] : List Int), ([164, 86, 130, 243, 30, 198, 104, 229] : List Int), ([2, 161, 252, 193, 71, 174, 61, 25] : List Int), ([164, 85, 135, 90, 88, 219, 158, 3] : List Int)] : List (List Int)) x16_0).length) cq22), (21, .int .i64 ((rdr ([] : List Int) ([([1, 164, 85, 135, 90, 88, 219, 158] : List Int), ([164, 86, 130, 243, 30, 198, 104, 229] : List Int), ([2, 161, 252, 193, 71, 174, 61, 25] : List Int), ([164, 85, 135, 90, 88, 219, 158, 3] : List Int)] : List (List Int)) x16_0).length : Int)), (22, .int .i64 0)]) (w' := W) (by kernel_rfl) ?_
              obtain ⟨y25, hy, h⟩ := Option.bind_eq_some_iff.mp h
              rw [show (((rdr ([] : List Int) ([([1, 164, 85, 135, 90, 88, 219, 158] : List Int), ([164, 86, 130, 243, 30, 198, 104, 229] : List Int), ([2, 161, 252, 193, 71, 174, 61, 25] : List Int), ([164, 85, 135, 90, 88, 219, 158, 3] : List Int)] : List (List Int)) x16_0).length : Int)) = y25 from Option.some.inj hy]
              clear hy
              have l1 : ∀ (k_ : Nat), k_ ≤ k → ∀ (x3_1 : List Int) (x22_1 : Int) (W : World) (hM : Mem w W (Gs [⟨.slice (some ⟨g2, 0, none⟩) 4 4, 5, 1, nums .u8 x3_1⟩] [Fq19, Fq18, Fq17, Fq16])) (h : twofish_folded.l1 k_ a0 x16_0 y25 x3_1 x22_1 = some r), RunF Go.Proofs.Try.prog (Ret fun v w' => v = .int .u32 r ∧ Mem w w' []) 25 (pl Go.Proofs.Try.f25 [1, 1, 0, 1, 0, 0, 1, 1, 0, 0, 1, 1, 0, 0]) 47 [(0, .slice Ap0 a0.length cp0), (3, .slice (some ⟨g2, 0, none⟩) 4 4), (4, .int .i64 x16_0), (15, .agg ([.slice (some ⟨g4, 0, none⟩) 8 8, .slice (some ⟨g7, 0, none⟩) 8 8, .slice (some ⟨g10, 0, none⟩) 8 8, .slice (some ⟨g13, 0, none⟩) 8 8]).toArray), (16, .int .i64 x16_0), (20, .slice Aq22 ((rdr ([] : List Int) ([([1, 164, 85, 135, 90, 88, 219, 158] : List Int), ([164, 86, 130, 243, 30, 198, 104, 229] : List Int), ([2, 161, 252, 193, 71, 174, 61, 25] : List Int), ([164, 85, 135, 90, 88, 219, 158, 3] : List Int)] : List (List Int)) x16_0).length) cq22), (21, .int .i64 y25), (22, .int .i64 x22_1)] W := by
                intro k_
                induction k_ using Nat.strongRecOn with
                | _ k_ ih1 =>
                  intro hk x3_1 x22_1 W hM h
                  cases k_ with
                  | zero => exact absurd h (by simp [twofish_folded.l1])
                  | succ k =>
                    simp only [twofish_folded.l1] at h
                    replace ih1 : ∀ m, m ≤ k → _ := fun m hm => ih1 m (by omega) (by omega)
                    replace ih0 : ∀ m, m ≤ k → _ := fun m hm => ih0 m (by omega)
                    refine RunF.go 5 [0, 3, 4, 15, 16, 20, 21, 22, 23] (k' := (pl Go.Proofs.Try.f25 [1, 1, 0, 1, 0, 0, 1, 1, 0, 0, 1, 1, 0, 0, 1, 0])) (L' := [(0, .slice Ap0 a0.length cp0), (3, .slice (some ⟨g2, 0, none⟩) 4 4), (4, .int .i64 x16_0), (15, .agg ([.slice (some ⟨g4, 0, none⟩) 8 8, .slice (some ⟨g7, 0, none⟩) 8 8, .slice (some ⟨g10, 0, none⟩) 8 8, .slice (some ⟨g13, 0, none⟩) 8 8]).toArray), (16, .int .i64 x16_0), (20, .slice Aq22 ((rdr ([] : List Int) ([([1, 164, 85, 135, 90, 88, 219, 158] : List Int), ([164, 86, 130, 243, 30, 198, 104, 229] : List Int), ([2, 161, 252, 193, 71, 174, 61, 25] : List Int), ([164, 85, 135, 90, 88, 219, 158, 3] : List Int)] : List (List Int)) x16_0).length) cq22), (21, .int .i64 y25), (22, .int .i64 x22_1), (23, .bool (decide (x22_1 < y25)))]) (w' := W) (by kernel_rfl) ?_
                    rcases two (decide (x22_1 < y25)) with c26 | c26
                    · replace h := of_true h c26
                      refine RunF.know 23 (b := true) (by kernel_rfl) c26 ?_
                      refine RunF.go 7 [0, 3, 4, 15, 16, 20, 21, 22, 24] (k' := (pin Go.Proofs.Try.f25 [1, 1, 0, 1, 0, 0, 1, 1, 0, 0, 1, 1, 0, 0, 1, 1, 0, 0, 0] 1)) (L' := [(0, .slice Ap0 a0.length cp0), (3, .slice (some ⟨g2, 0, none⟩) 4 4), (4, .int .i64 x16_0), (15, .agg ([.slice (some ⟨g4, 0, none⟩) 8 8, .slice (some ⟨g7, 0, none⟩) 8 8, .slice (some ⟨g10, 0, none⟩) 8 8, .slice (some ⟨g13, 0, none⟩) 8 8]).toArray), (16, .int .i64 x16_0), (20, .slice Aq22 ((rdr ([] : List Int) ([([1, 164, 85, 135, 90, 88, 219, 158] : List Int), ([164, 86, 130, 243, 30, 198, 104, 229] : List Int), ([2, 161, 252, 193, 71, 174, 61, 25] : List Int), ([164, 85, 135, 90, 88, 219, 158, 3] : List Int)] : List (List Int)) x16_0).length) cq22), (21, .int .i64 y25), (22, .int .i64 x22_1), (24, .int .i64 x22_1)]) (w' := W) (by kernel_rfl) ?_
                      rcases two (decide (0 ≤ x22_1)) with c28 | c28
                      · replace h := of_true h c28
                        rcases two (decide (x22_1 < ((rdr ([] : List Int) ([([1, 164, 85, 135, 90, 88, 219, 158] : List Int), ([164, 86, 130, 243, 30, 198, 104, 229] : List Int), ([2, 161, 252, 193, 71, 174, 61, 25] : List Int), ([164, 85, 135, 90, 88, 219, 158, 3] : List Int)] : List (List Int)) x16_0).length : Int))) with c29 | c29
                        · replace h := of_true h c29
                          obtain ⟨q27, hAq27, hcq27⟩ := Rd.num (hq22 _ (And.intro (Mem.oks (hM.as (H' := Gs [⟨.slice (some ⟨g2, 0, none⟩) 4 4, 5, 1, nums .u8 x3_1⟩] [Fq19, Fq18, Fq17, Fq16]) rfl) 3 rfl) (And.intro (Mem.oks (hM.as (H' := Gs [⟨.slice (some ⟨g2, 0, none⟩) 4 4, 5, 1, nums .u8 x3_1⟩] [Fq19, Fq18, Fq17, Fq16]) rfl) 2 rfl) (And.intro (Mem.oks (hM.as (H' := Gs [⟨.slice (some ⟨g2, 0, none⟩) 4 4, 5, 1, nums .u8 x3_1⟩] [Fq19, Fq18, Fq17, Fq16]) rfl) 1 rfl) (Mem.oks (hM.as (H' := Gs [⟨.slice (some ⟨g2, 0, none⟩) 4 4, 5, 1, nums .u8 x3_1⟩] [Fq19, Fq18, Fq17, Fq16]) rfl) 0 rfl))))) (i := x22_1) (of_decide_eq_true c28) (by have h_ := of_decide_eq_true c29; omega)
                          refine RunF.y (idx_y (d := some 25) (A := Aq22) (m := (rdr ([] : List Int) ([([1, 164, 85, 135, 90, 88, 219, 158] : List Int), ([164, 86, 130, 243, 30, 198, 104, 229] : List Int), ([2, 161, 252, 193, 71, 174, 61, 25] : List Int), ([164, 85, 135, 90, 88, 219, 158, 3] : List Int)] : List (List Int)) x16_0).length) (i := x22_1) (k2 := (pin Go.Proofs.Try.f25 [1, 1, 0, 1, 0, 0, 1, 1, 0, 0, 1, 1, 0, 0, 1, 1, 0, 0, 0] 2)) (by kernel_rfl) (of_decide_eq_true c28) (by have h_ := of_decide_eq_true c29; omega) hAq27) trivial ?_
                          refine RunF.y (ld_y (d := some 26) (p := (q27.add (x22_1 : Int).toNat)) (k2 := (pin Go.Proofs.Try.f25 [1, 1, 0, 1, 0, 0, 1, 1, 0, 0, 1, 1, 0, 0, 1, 1, 0, 0, 0] 3)) (.int .u8 (rd (rdr ([] : List Int) ([([1, 164, 85, 135, 90, 88, 219, 158] : List Int), ([164, 86, 130, 243, 30, 198, 104, 229] : List Int), ([2, 161, 252, 193, 71, 174, 61, 25] : List Int), ([164, 85, 135, 90, 88, 219, 158, 3] : List Int)] : List (List Int)) x16_0) x22_1)) (by kernel_rfl)) hcq27 ?_
                          refine RunF.go 3 [0, 3, 4, 6, 7, 15, 16, 20, 21, 22] (k' := (pl Go.Proofs.Try.f25 [1, 1, 0, 1, 0, 0, 1, 1, 0, 0, 1, 1, 0, 0, 1, 1, 0, 0, 1])) (L' := [(0, .slice Ap0 a0.length cp0), (3, .slice (some ⟨g2, 0, none⟩) 4 4), (4, .int .i64 x16_0), (6, .int .i64 x22_1), (7, .int .u8 (rd (rdr ([] : List Int) ([([1, 164, 85, 135, 90, 88, 219, 158] : List Int), ([164, 86, 130, 243, 30, 198, 104, 229] : List Int), ([2, 161, 252, 193, 71, 174, 61, 25] : List Int), ([164, 85, 135, 90, 88, 219, 158, 3] : List Int)] : List (List Int)) x16_0) x22_1)), (15, .agg ([.slice (some ⟨g4, 0, none⟩) 8 8, .slice (some ⟨g7, 0, none⟩) 8 8, .slice (some ⟨g10, 0, none⟩) 8 8, .slice (some ⟨g13, 0, none⟩) 8 8]).toArray), (16, .int .i64 x16_0), (20, .slice Aq22 ((rdr ([] : List Int) ([([1, 164, 85, 135, 90, 88, 219, 158] : List Int), ([164, 86, 130, 243, 30, 198, 104, 229] : List Int), ([2, 161, 252, 193, 71, 174, 61, 25] : List Int), ([164, 85, 135, 90, 88, 219, 158, 3] : List Int)] : List (List Int)) x16_0).length) cq22), (21, .int .i64 y25), (22, .int .i64 x22_1)]) (w' := W) (by kernel_rfl) ?_
                          obtain ⟨y30, hy, h⟩ := Option.bind_eq_some_iff.mp h
                          rw [show (rd (rdr ([] : List Int) ([([1, 164, 85, 135, 90, 88, 219, 158] : List Int), ([164, 86, 130, 243, 30, 198, 104, 229] : List Int), ([2, 161, 252, 193, 71, 174, 61, 25] : List Int), ([164, 85, 135, 90, 88, 219, 158, 3] : List Int)] : List (List Int)) x16_0) x22_1) = y30 from Option.some.inj hy]
                          clear hy
                          refine RunF.draw (Still ({ W with drawn := W.drawn + 1 } : World) [.slice (some ⟨g2, 0, none⟩) 4 4]) (by kernel_rfl) (by kernel_rfl) ?_
                          have hMd32 := hM.drew
                          have hS := Still.refl ({ W with drawn := W.drawn + 1 } : World) [.slice (some ⟨g2, 0, none⟩) 4 4]
                          generalize ({ W with drawn := W.drawn + 1 } : World) = W31 at hMd32 hS ⊢
                          replace hM := hMd32
                          refine RunAny.y 0 (by kernel_rfl) (yl_pure (d := some 27) (v := .slice (some ⟨g2, 0, none⟩) 4 4) (k2 := [.inRegion (opsOf (pl Go.Proofs.Try.f25 [1, 1, 0, 1, 0, 0, 1, 1, 0, 0, 1, 1, 0, 0, 1, 1, 0, 0, 1])) []]) fun w => by kernel_rfl) (fun _ _ => trivial) hS ?_
                          refine RunAny.y 1 (by kernel_rfl) (yl_pure (d := some 28) (v := .int .i64 x16_0) (k2 := [.inRegion (opsOf (pl Go.Proofs.Try.f25 [1, 1, 0, 1, 0, 0, 1, 1, 0, 0, 1, 1, 0, 0, 1, 1, 0, 0, 1])) []]) fun w => by kernel_rfl) (fun _ _ => trivial) hS ?_
                          rcases two (decide (0 ≤ x16_0)) with c34 | c34
                          · replace h := of_true h c34
                            rcases two (decide (x16_0 < (4 : Int))) with c35 | c35
                            · replace h := of_true h c35
                              obtain ⟨q33, hAq33, hcq33, hfq33, hlq33⟩ := hM.num_at 0 rfl (i := x16_0) (of_decide_eq_true c34) (by have h_ := of_decide_eq_true c35; omega)
                              refine RunAny.y 2 (by kernel_rfl) (idx_own (d := some 29) (A := (some ⟨g2, 0, none⟩)) (m := 4) (i := x16_0) (k2 := [.inRegion (opsOf (pl Go.Proofs.Try.f25 [1, 1, 0, 1, 0, 0, 1, 1, 0, 0, 1, 1, 0, 0, 1, 1, 0, 0, 1])) []]) (by kernel_rfl) (of_decide_eq_true c34) (by have h_ := of_decide_eq_true c35; omega) hAq33) (fun _ _ => trivial) hS ?_
                              refine RunAny.y 4 (by kernel_rfl) (yl_pure (d := some 31) (v := .int .u8 y30) (k2 := [.inRegion (opsOf (pl Go.Proofs.Try.f25 [1, 1, 0, 1, 0, 0, 1, 1, 0, 0, 1, 1, 0, 0, 1, 1, 0, 0, 1])) []]) fun w => by kernel_rfl) (fun _ _ => trivial) hS ?_
                              refine RunAny.y 5 (by kernel_rfl) (yl_pure (d := some 32) (v := .slice Ap0 a0.length cp0) (k2 := [.inRegion (opsOf (pl Go.Proofs.Try.f25 [1, 1, 0, 1, 0, 0, 1, 1, 0, 0, 1, 1, 0, 0, 1, 1, 0, 0, 1])) []]) fun w => by kernel_rfl) (fun _ _ => trivial) hS ?_
                              refine RunAny.y 6 (by kernel_rfl) (yl_pure (d := some 33) (v := .int .i64 x22_1) (k2 := [.inRegion (opsOf (pl Go.Proofs.Try.f25 [1, 1, 0, 1, 0, 0, 1, 1, 0, 0, 1, 1, 0, 0, 1, 1, 0, 0, 1])) []]) fun w => by kernel_rfl) (fun _ _ => trivial) hS ?_
                              rcases two (decide (0 ≤ x22_1)) with c37 | c37
                              · replace h := of_true h c37
                                rcases two (decide (x22_1 < (a0.length : Int))) with c38 | c38
                                · replace h := of_true h c38
                                  obtain ⟨q36, hAq36, hiq36⟩ := Rd.num hr0 (i := x22_1) (of_decide_eq_true c37) (by have h_ := of_decide_eq_true c38; omega)
                                  have hcq36 := (hM.below.cell (World.block_lt_of_cell? _ _ hiq36)).trans hiq36
                                  refine RunAny.y 7 (by kernel_rfl) (idx_y (d := some 34) (A := Ap0) (m := a0.length) (i := x22_1) (k2 := [.inRegion (opsOf (pl Go.Proofs.Try.f25 [1, 1, 0, 1, 0, 0, 1, 1, 0, 0, 1, 1, 0, 0, 1, 1, 0, 0, 1])) []]) (by kernel_rfl) (of_decide_eq_true c37) (by have h_ := of_decide_eq_true c38; omega) hAq36) (fun _ _ => trivial) hS ?_
                                  refine RunAny.y 8 (by kernel_rfl) (ld_y (d := some 35) (p := (q36.add (x22_1 : Int).toNat)) (k2 := [.inRegion (opsOf (pl Go.Proofs.Try.f25 [1, 1, 0, 1, 0, 0, 1, 1, 0, 0, 1, 1, 0, 0, 1, 1, 0, 0, 1])) []]) (.int .u8 (rd a0 x22_1)) (by kernel_rfl)) (fun _ hs => hs.cell hcq36 (by intro v hv; simp only [List.mem_cons, List.not_mem_nil, or_false] at hv; rcases hv with rfl; exact (hM.far hiq36 0 rfl))) hS ?_
                                  obtain ⟨t39, ht39, h⟩ := Option.bind_eq_some_iff.mp h
                                  have J42 : ∀ (W43 : World) (hS : Still W43 [.slice (some ⟨g2, 0, none⟩) 4 4] W43) (hM : Mem w W43 (Gs [⟨.slice (some ⟨g2, 0, none⟩) 4 4, 5, 1, nums .u8 x3_1⟩] [Fq19, Fq18, Fq17, Fq16])) , RunAny Go.Proofs.Try.prog (Ret fun v w' => v = .int .u32 r ∧ Mem w w' []) 25 (rest1 (pl Go.Proofs.Try.f25 [1, 1, 0, 1, 0, 0, 1, 1, 0, 0, 1, 1, 0, 0, 1, 1, 0, 0, 1])) 47 (opsOf (pl Go.Proofs.Try.f25 [1, 1, 0, 1, 0, 0, 1, 1, 0, 0, 1, 1, 0, 0, 1, 1, 0, 0, 1])) (Still W43 [.slice (some ⟨g2, 0, none⟩) 4 4]) 2 [0, 1, 2, 4, 5, 6, 7, 8, 3, 9, 10] [(0, .slice Ap0 a0.length cp0), (3, .slice (some ⟨g2, 0, none⟩) 4 4), (4, .int .i64 x16_0), (6, .int .i64 x22_1), (7, .int .u8 y30), (15, .agg ([.slice (some ⟨g4, 0, none⟩) 8 8, .slice (some ⟨g7, 0, none⟩) 8 8, .slice (some ⟨g10, 0, none⟩) 8 8, .slice (some ⟨g13, 0, none⟩) 8 8]).toArray), (16, .int .i64 x16_0), (20, .slice Aq22 ((rdr ([] : List Int) ([([1, 164, 85, 135, 90, 88, 219, 158] : List Int), ([164, 86, 130, 243, 30, 198, 104, 229] : List Int), ([2, 161, 252, 193, 71, 174, 61, 25] : List Int), ([164, 85, 135, 90, 88, 219, 158, 3] : List Int)] : List (List Int)) x16_0).length) cq22), (21, .int .i64 y25), (22, .int .i64 x22_1), (27, .slice (some ⟨g2, 0, none⟩) 4 4), (28, .int .i64 x16_0), (29, .pointer (some ⟨q33, (x16_0 : Int).toNat, none⟩)), (30, .int .u8 (rd x3_1 x16_0)), (31, .int .u8 y30), (32, .slice Ap0 a0.length cp0), (33, .int .i64 x22_1), (34, .pointer (some (q36.add (x22_1 : Int).toNat))), (35, .int .u8 (rd a0 x22_1)), (36, .int .u8 t39), (37, .int .u8 (bxor .u8 (rd x3_1 x16_0) t39))] W43 := by
                                    intro W43 hS hM 
                                    rcases two (decide (0 ≤ x16_0)) with c45 | c45
                                    · replace h := of_true h c45
                                      rcases two (decide (x16_0 < (4 : Int))) with c46 | c46
                                      · replace h := of_true h c46
                                        obtain ⟨q44, hAq44, hcq44, hfq44, hlq44⟩ := hM.num_at 0 rfl (i := x16_0) (of_decide_eq_true c45) (by have h_ := of_decide_eq_true c46; omega)
                                        refine RunAny.y 11 (by kernel_rfl) (idx_own (d := some 38) (A := (some ⟨g2, 0, none⟩)) (m := 4) (i := x16_0) (k2 := [.inRegion (opsOf (pl Go.Proofs.Try.f25 [1, 1, 0, 1, 0, 0, 1, 1, 0, 0, 1, 1, 0, 0, 1, 1, 0, 0, 1])) []]) (by kernel_rfl) (of_decide_eq_true c45) (by have h_ := of_decide_eq_true c46; omega) hAq44) (fun _ _ => trivial) hS ?_
                                        obtain ⟨g_, hA_, hc_, hf_, hl_⟩ := hM.num_at 0 rfl (i := x16_0) (of_decide_eq_true c45) (by have h_ := of_decide_eq_true c46; omega)
                                        obtain rfl : q44 = g_ := by rw [hAq44] at hA_; injection hA_ with hA_; injection hA_
                                        have hS' := hS.set (v := .slice (some ⟨g2, 0, none⟩) 4 4) (g := q44) (i := (x16_0 : Int).toNat) (by simp) (by rw [hAq44]; rfl) (.int .u8 (bxor .u8 (rd x3_1 x16_0) t39))
                                        refine RunAny.doesU 12 (by kernel_rfl) (st_u (p := (⟨q44, (x16_0 : Int).toNat, none⟩ : Addr)) (v := .int .u8 (bxor .u8 (rd x3_1 x16_0) t39)) (k2 := [.inRegion (opsOf (pl Go.Proofs.Try.f25 [1, 1, 0, 1, 0, 0, 1, 1, 0, 0, 1, 1, 0, 0, 1, 1, 0, 0, 1])) []]) (by kernel_rfl) hc_ hf_) hS' ?_
                                        replace hM : Mem w (W43.setCell (⟨q44, (x16_0 : Int).toNat, none⟩ : Addr) (.int .u8 (bxor .u8 (rd x3_1 x16_0) t39))) (Gs [⟨.slice (some ⟨g2, 0, none⟩) 4 4, 5, 1, nums .u8 (x3_1.set (x16_0 : Int).toNat (bxor .u8 (rd x3_1 x16_0) t39))⟩] [Fq19, Fq18, Fq17, Fq16]) := Mem.put_num [] (Gs [] [Fq19, Fq18, Fq17, Fq16]) (hM.as rfl) hAq44 _ hl_ _
                                        generalize W43.setCell (⟨q44, (x16_0 : Int).toNat, none⟩ : Addr) (.int .u8 (bxor .u8 (rd x3_1 x16_0) t39)) = W47 at hM hS' ⊢
                                        clear hc_ hf_ hl_ hA_ hcq44
                                        replace hS := hS'
                                        refine RunAny.rebase hS ?_
                                        replace hS := Still.refl W47 [.slice (some ⟨g2, 0, none⟩) 4 4]
                                        refine RunAny.done (by kernel_rfl) ?_
                                        clear hS
                                        refine RunF.go 6 [0, 3, 4, 15, 16, 20, 21, 22] (k' := (pl Go.Proofs.Try.f25 [1, 1, 0, 1, 0, 0, 1, 1, 0, 0, 1, 1, 0, 0])) (L' := [(0, .slice Ap0 a0.length cp0), (3, .slice (some ⟨g2, 0, none⟩) 4 4), (4, .int .i64 x16_0), (15, .agg ([.slice (some ⟨g4, 0, none⟩) 8 8, .slice (some ⟨g7, 0, none⟩) 8 8, .slice (some ⟨g10, 0, none⟩) 8 8, .slice (some ⟨g13, 0, none⟩) 8 8]).toArray), (16, .int .i64 x16_0), (20, .slice Aq22 ((rdr ([] : List Int) ([([1, 164, 85, 135, 90, 88, 219, 158] : List Int), ([164, 86, 130, 243, 30, 198, 104, 229] : List Int), ([2, 161, 252, 193, 71, 174, 61, 25] : List Int), ([164, 85, 135, 90, 88, 219, 158, 3] : List Int)] : List (List Int)) x16_0).length) cq22), (21, .int .i64 y25), (22, .int .i64 (I64 (x22_1 + 1)))]) (w' := W47) (by kernel_rfl) ?_
                                        exact ih1 k (by omega) (x3_1.set (x16_0 : Int).toNat (bxor .u8 (rd x3_1 x16_0) t39)) (I64 (x22_1 + 1)) _ (Mem.pickF (hM.as (H' := Gs [⟨.slice (some ⟨g2, 0, none⟩) 4 4, 5, 1, nums .u8 (x3_1.set (x16_0 : Int).toNat (bxor .u8 (rd x3_1 x16_0) t39))⟩] [Fq19, Fq18, Fq17, Fq16]) rfl) [0, 1, 2, 3, 4] rfl rfl rfl) h
                                      · replace h := of_false h c46
                                        cases h
                                    · replace h := of_false h c45
                                      cases h
                                  have J48 : ∀ (W49 : World) (hS : Still W49 [.slice (some ⟨g2, 0, none⟩) 4 4] W49) (hM : Mem w W49 (Gs [⟨.slice (some ⟨g2, 0, none⟩) 4 4, 5, 1, nums .u8 x3_1⟩] [Fq19, Fq18, Fq17, Fq16])) (hcq33 : W49.cell? ⟨q33, (x16_0 : Int).toNat, none⟩ = some (.int .u8 (rd x3_1 x16_0))), RunAny Go.Proofs.Try.prog (Ret fun v w' => v = .int .u32 r ∧ Mem w w' []) 25 (rest1 (pl Go.Proofs.Try.f25 [1, 1, 0, 1, 0, 0, 1, 1, 0, 0, 1, 1, 0, 0, 1, 1, 0, 0, 1])) 47 (opsOf (pl Go.Proofs.Try.f25 [1, 1, 0, 1, 0, 0, 1, 1, 0, 0, 1, 1, 0, 0, 1, 1, 0, 0, 1])) (Still W49 [.slice (some ⟨g2, 0, none⟩) 4 4]) 4 [0, 1, 2, 4, 5, 6, 7, 8, 9] [(0, .slice Ap0 a0.length cp0), (3, .slice (some ⟨g2, 0, none⟩) 4 4), (4, .int .i64 x16_0), (6, .int .i64 x22_1), (7, .int .u8 y30), (15, .agg ([.slice (some ⟨g4, 0, none⟩) 8 8, .slice (some ⟨g7, 0, none⟩) 8 8, .slice (some ⟨g10, 0, none⟩) 8 8, .slice (some ⟨g13, 0, none⟩) 8 8]).toArray), (16, .int .i64 x16_0), (20, .slice Aq22 ((rdr ([] : List Int) ([([1, 164, 85, 135, 90, 88, 219, 158] : List Int), ([164, 86, 130, 243, 30, 198, 104, 229] : List Int), ([2, 161, 252, 193, 71, 174, 61, 25] : List Int), ([164, 85, 135, 90, 88, 219, 158, 3] : List Int)] : List (List Int)) x16_0).length) cq22), (21, .int .i64 y25), (22, .int .i64 x22_1), (27, .slice (some ⟨g2, 0, none⟩) 4 4), (28, .int .i64 x16_0), (29, .pointer (some ⟨q33, (x16_0 : Int).toNat, none⟩)), (31, .int .u8 y30), (32, .slice Ap0 a0.length cp0), (33, .int .i64 x22_1), (34, .pointer (some (q36.add (x22_1 : Int).toNat))), (35, .int .u8 (rd a0 x22_1)), (36, .int .u8 t39)] W49 := by
                                    intro W49 hS hM hcq33
                                    refine RunAny.does 3 (by kernel_rfl) ((ld_y (d := some 30) (p := ⟨q33, (x16_0 : Int).toNat, none⟩) (k2 := [.inRegion (opsOf (pl Go.Proofs.Try.f25 [1, 1, 0, 1, 0, 0, 1, 1, 0, 0, 1, 1, 0, 0, 1, 1, 0, 0, 1])) []]) (.int .u8 (rd x3_1 x16_0)) (by kernel_rfl)).does hcq33) hS ?_
                                    refine RunAny.y 10 (by kernel_rfl) (yl_pure (d := some 37) (v := .int .u8 (bxor .u8 (rd x3_1 x16_0) t39)) (k2 := [.inRegion (opsOf (pl Go.Proofs.Try.f25 [1, 1, 0, 1, 0, 0, 1, 1, 0, 0, 1, 1, 0, 0, 1, 1, 0, 0, 1])) []]) fun w => by kernel_rfl) (fun _ _ => trivial) hS ?_
                                    exact RunAny.same [0, 1, 2, 4, 5, 6, 7, 8, 3, 9, 10] (by kernel_rfl) [0, 3, 4, 6, 7, 15, 16, 20, 21, 22, 27, 28, 29, 30, 31, 32, 33, 34, 35, 36, 37] (by kernel_rfl) (J42 _ hS (Mem.pickF (hM.as (H' := (Gs [⟨.slice (some ⟨g2, 0, none⟩) 4 4, 5, 1, nums .u8 x3_1⟩] [Fq19, Fq18, Fq17, Fq16])) rfl) [0, 1, 2, 3, 4] rfl rfl rfl))
                                  have J50 : ∀ (W51 : World) (hS : Still W51 [.slice (some ⟨g2, 0, none⟩) 4 4] W51) (hM : Mem w W51 (Gs [⟨.slice (some ⟨g2, 0, none⟩) 4 4, 5, 1, nums .u8 x3_1⟩] [Fq19, Fq18, Fq17, Fq16])) , RunAny Go.Proofs.Try.prog (Ret fun v w' => v = .int .u32 r ∧ Mem w w' []) 25 (rest1 (pl Go.Proofs.Try.f25 [1, 1, 0, 1, 0, 0, 1, 1, 0, 0, 1, 1, 0, 0, 1, 1, 0, 0, 1])) 47 (opsOf (pl Go.Proofs.Try.f25 [1, 1, 0, 1, 0, 0, 1, 1, 0, 0, 1, 1, 0, 0, 1, 1, 0, 0, 1])) (Still W51 [.slice (some ⟨g2, 0, none⟩) 4 4]) 4 [0, 1, 2, 4, 5, 6, 7, 8, 3] [(0, .slice Ap0 a0.length cp0), (3, .slice (some ⟨g2, 0, none⟩) 4 4), (4, .int .i64 x16_0), (6, .int .i64 x22_1), (7, .int .u8 y30), (15, .agg ([.slice (some ⟨g4, 0, none⟩) 8 8, .slice (some ⟨g7, 0, none⟩) 8 8, .slice (some ⟨g10, 0, none⟩) 8 8, .slice (some ⟨g13, 0, none⟩) 8 8]).toArray), (16, .int .i64 x16_0), (20, .slice Aq22 ((rdr ([] : List Int) ([([1, 164, 85, 135, 90, 88, 219, 158] : List Int), ([164, 86, 130, 243, 30, 198, 104, 229] : List Int), ([2, 161, 252, 193, 71, 174, 61, 25] : List Int), ([164, 85, 135, 90, 88, 219, 158, 3] : List Int)] : List (List Int)) x16_0).length) cq22), (21, .int .i64 y25), (22, .int .i64 x22_1), (27, .slice (some ⟨g2, 0, none⟩) 4 4), (28, .int .i64 x16_0), (29, .pointer (some ⟨q33, (x16_0 : Int).toNat, none⟩)), (30, .int .u8 (rd x3_1 x16_0)), (31, .int .u8 y30), (32, .slice Ap0 a0.length cp0), (33, .int .i64 x22_1), (34, .pointer (some (q36.add (x22_1 : Int).toNat))), (35, .int .u8 (rd a0 x22_1))] W51 := by
                                    intro W51 hS hM 
                                    refine RunAny.call 9 (d := some 36) (g := 38) (args := #[.int .u8 y30, .int .u8 (rd a0 x22_1), .int .i64 333]) (by kernel_rfl) (by kernel_rfl) (field_Mul.calls k y30 (rd a0 x22_1) 333 t39 _ ht39) (by rintro _ _ ⟨rfl, hM_⟩; exact hS.below hM_.below) ?_
                                    rintro _ W52 ⟨rfl, hM_⟩
                                    replace hS := hS.below hM_.below
                                    replace hM : Mem w W52 (Gs [⟨.slice (some ⟨g2, 0, none⟩) 4 4, 5, 1, nums .u8 x3_1⟩] [Fq19, Fq18, Fq17, Fq16]) := (Mem.callG (hM.as (H' := Gs [⟨.slice (some ⟨g2, 0, none⟩) 4 4, 5, 1, nums .u8 x3_1⟩] [Fq19, Fq18, Fq17, Fq16]) rfl) hM_.grp).as rfl
                                    clear hM_ ht39
                                    refine RunAny.rebase hS ?_
                                    replace hS := Still.refl W52 [.slice (some ⟨g2, 0, none⟩) 4 4]
                                    refine RunAny.y 10 (by kernel_rfl) (yl_pure (d := some 37) (v := .int .u8 (bxor .u8 (rd x3_1 x16_0) t39)) (k2 := [.inRegion (opsOf (pl Go.Proofs.Try.f25 [1, 1, 0, 1, 0, 0, 1, 1, 0, 0, 1, 1, 0, 0, 1, 1, 0, 0, 1])) []]) fun w => by kernel_rfl) (fun _ _ => trivial) hS ?_
                                    exact RunAny.same [0, 1, 2, 4, 5, 6, 7, 8, 3, 9, 10] (by kernel_rfl) [0, 3, 4, 6, 7, 15, 16, 20, 21, 22, 27, 28, 29, 30, 31, 32, 33, 34, 35, 36, 37] (by kernel_rfl) (J42 _ hS (Mem.pickF (hM.as (H' := (Gs [⟨.slice (some ⟨g2, 0, none⟩) 4 4, 5, 1, nums .u8 x3_1⟩] [Fq19, Fq18, Fq17, Fq16])) rfl) [0, 1, 2, 3, 4] rfl rfl rfl))
                                  refine RunAny.all [3, 9] (by kernel_rfl) (by simp) ?_
                                  refine ⟨?_, ?_, trivial⟩
                                  · refine Stepped.does 3 ((ld_y (d := some 30) (p := ⟨q33, (x16_0 : Int).toNat, none⟩) (k2 := [.inRegion (opsOf (pl Go.Proofs.Try.f25 [1, 1, 0, 1, 0, 0, 1, 1, 0, 0, 1, 1, 0, 0, 1, 1, 0, 0, 1])) []]) (.int .u8 (rd x3_1 x16_0)) (by kernel_rfl)).does hcq33) hS ?_
                                    exact RunAny.same [0, 1, 2, 4, 5, 6, 7, 8, 3] (by kernel_rfl) [0, 3, 4, 6, 7, 15, 16, 20, 21, 22, 27, 28, 29, 30, 31, 32, 33, 34, 35] (by kernel_rfl) (J50 _ hS (Mem.pickF (hM.as (H' := (Gs [⟨.slice (some ⟨g2, 0, none⟩) 4 4, 5, 1, nums .u8 x3_1⟩] [Fq19, Fq18, Fq17, Fq16])) rfl) [0, 1, 2, 3, 4] rfl rfl rfl))
                                  · refine Stepped.call 9 (d := some 36) (g := 38) (args := #[.int .u8 y30, .int .u8 (rd a0 x22_1), .int .i64 333]) (by kernel_rfl) (field_Mul.calls k y30 (rd a0 x22_1) 333 t39 _ ht39) (by rintro _ _ ⟨rfl, hM_⟩; exact hS.below hM_.below) ?_
                                    rintro _ W53 ⟨rfl, hM_⟩
                                    replace hS := hS.below hM_.below
                                    replace hM : Mem w W53 (Gs [⟨.slice (some ⟨g2, 0, none⟩) 4 4, 5, 1, nums .u8 x3_1⟩] [Fq19, Fq18, Fq17, Fq16]) := (Mem.callG (hM.as (H' := Gs [⟨.slice (some ⟨g2, 0, none⟩) 4 4, 5, 1, nums .u8 x3_1⟩] [Fq19, Fq18, Fq17, Fq16]) rfl) hM_.grp).as rfl
                                    clear hM_ ht39
                                    obtain ⟨g_, hA_, hc_, _, _⟩ := hM.num_at 0 rfl (i := x16_0) (of_decide_eq_true c34) (by have h_ := of_decide_eq_true c35; omega)
                                    obtain rfl : q33 = g_ := by rw [hAq33] at hA_; injection hA_ with hA_; injection hA_
                                    replace hcq33 := hc_
                                    refine RunAny.rebase hS ?_
                                    replace hS := Still.refl W53 [.slice (some ⟨g2, 0, none⟩) 4 4]
                                    exact RunAny.same [0, 1, 2, 4, 5, 6, 7, 8, 9] (by kernel_rfl) [0, 3, 4, 6, 7, 15, 16, 20, 21, 22, 27, 28, 29, 31, 32, 33, 34, 35, 36] (by kernel_rfl) (J48 _ hS (Mem.pickF (hM.as (H' := (Gs [⟨.slice (some ⟨g2, 0, none⟩) 4 4, 5, 1, nums .u8 x3_1⟩] [Fq19, Fq18, Fq17, Fq16])) rfl) [0, 1, 2, 3, 4] rfl rfl rfl) hcq33)
                                · replace h := of_false h c38
                                  cases h
                              · replace h := of_false h c37
                                cases h
                            · replace h := of_false h c35
                              cases h
                          · replace h := of_false h c34
                            cases h
                        · replace h := of_false h c29
                          cases h
                      · replace h := of_false h c28
                        cases h
                    · replace h := of_false h c26
                      refine RunF.know 23 (b := false) (by kernel_rfl) c26 ?_
                      refine RunF.go 8 [0, 3, 15, 16] (k' := (pl Go.Proofs.Try.f25 [1, 1, 0, 1, 0, 0])) (L' := [(0, .slice Ap0 a0.length cp0), (3, .slice (some ⟨g2, 0, none⟩) 4 4), (15, .agg ([.slice (some ⟨g4, 0, none⟩) 8 8, .slice (some ⟨g7, 0, none⟩) 8 8, .slice (some ⟨g10, 0, none⟩) 8 8, .slice (some ⟨g13, 0, none⟩) 8 8]).toArray), (16, .int .i64 (I64 (x16_0 + 1)))]) (w' := W) (by kernel_rfl) ?_
                      exact ih0 k (by omega) x3_1 (I64 (x16_0 + 1)) _ (Mem.pickF (hM.as (H' := Gs [⟨.slice (some ⟨g2, 0, none⟩) 4 4, 5, 1, nums .u8 x3_1⟩] [Fq19, Fq18, Fq17, Fq16]) rfl) [0, 1, 2, 3, 4] rfl rfl rfl) h
              exact l1 k (Nat.le_refl _) x3_0 0 _ (Mem.pickF (hM.as (H' := Gs [⟨.slice (some ⟨g2, 0, none⟩) 4 4, 5, 1, nums .u8 x3_0⟩] [Fq19, Fq18, Fq17, Fq16]) rfl) [0, 1, 2, 3, 4] rfl rfl rfl) h
            · replace h := of_false h c24
              cases h
          · replace h := of_false h c23
            cases h
        · replace h := of_false h c21
          refine RunF.know 17 (b := false) (by kernel_rfl) c21 ?_
          refine RunF.go 5 [42] (k' := (pin Go.Proofs.Try.f25 [1, 1, 1, 0] 1)) (L' := [(42, .slice (some ⟨g2, 0, none⟩) 4 4)]) (w' := W) (by kernel_rfl) ?_
          obtain ⟨t55, ht55, h⟩ := Option.bind_eq_some_iff.mp h
          refine RunF.call (d := some 43) (g := 24) (args := #[.slice (some ⟨g2, 0, none⟩) 4 4]) (k2 := (pin Go.Proofs.Try.f25 [1, 1, 1, 0] 2)) (by kernel_rfl) (words_Le32.calls k (some ⟨g2, 0, none⟩) 4 4 x3_0 t55 _ (hM.rd 0 rfl) ht55) ?_
          rintro _ W54 ⟨rfl, hM_⟩
          replace hM : Mem w W54 (Gs [⟨.slice (some ⟨g2, 0, none⟩) 4 4, 5, 1, nums .u8 x3_0⟩] [Fq19, Fq18, Fq17, Fq16]) := (Mem.callG (hM.as (H' := Gs [⟨.slice (some ⟨g2, 0, none⟩) 4 4, 5, 1, nums .u8 x3_0⟩] [Fq19, Fq18, Fq17, Fq16]) rfl) hM_.grp).as rfl
          clear hM_ ht55
          refine RunF.go 11 [2] (k' := (pl Go.Proofs.Try.f25 [1, 1, 1, 1, 1])) (L' := [(2, .int .u32 t55.1)]) (w' := W54) (by kernel_rfl) ?_
          obtain rfl := Option.some.inj h
          exact RunF.ret1 2 (.int .u32 t55.1) (fn := Go.Proofs.Try.f25) Go.Proofs.Try.func25 (by kernel_rfl) (by kernel_rfl) (by kernel_rfl) ⟨_, rfl, rfl, (Mem.pickF (hM.as (H' := Gs [⟨.slice (some ⟨g2, 0, none⟩) 4 4, 5, 1, nums .u8 x3_0⟩] [Fq19, Fq18, Fq17, Fq16]) rfl) [] rfl rfl rfl).ungrp⟩
  exact l0 k (Nat.le_refl _) (List.replicate 4 (0 : Int)) 0 _ (Mem.pickF (hM.as (H' := Gs [⟨.slice (some ⟨g2, 0, none⟩) 4 4, 5, 1, nums .u8 (List.replicate 4 (0 : Int))⟩] [Fq19, Fq18, Fq17, Fq16]) rfl) [0, 1, 2, 3, 4] rfl rfl rfl) h

/-! ### slices.Reverse[[]uint32,uint32]: function 26 -/
def slices_Reverse_uint32_uint32.l0 : Nat → (List Int) → (List Int) → Int → Int → Option (List Int)
  | 0, _, _, _, _ => none
  | k + 1, a0, x0_0, x2_0, x3_0 => if (decide (x2_0 < x3_0)) = true then (if (decide (0 ≤ x3_0)) = true then (if (decide (x3_0 < (a0.length : Int))) = true then (if (decide (0 ≤ x2_0)) = true then (if (decide (x2_0 < (a0.length : Int))) = true then (if (decide (0 ≤ x2_0)) = true then (if (decide (x2_0 < (a0.length : Int))) = true then (if (decide (0 ≤ x3_0)) = true then (if (decide (x3_0 < (a0.length : Int))) = true then (slices_Reverse_uint32_uint32.l0 k a0 ((x0_0.set (x2_0 : Int).toNat (rd x0_0 x3_0)).set (x3_0 : Int).toNat (rd x0_0 x2_0)) (I64 (x2_0 + 1)) (I64 (x3_0 - 1))) else (none)) else (none)) else (none)) else (none)) else (none)) else (none)) else (none)) else (none)) else (some x0_0)
def slices_Reverse_uint32_uint32.f (k : Nat) (a0 : List Int) : Option (List Int) := slices_Reverse_uint32_uint32.l0 k a0 a0 0 (I64 ((a0.length : Int) - 1))
set_option maxRecDepth 100000 in
theorem slices_Reverse_uint32_uint32.calls (k : Nat) (Ap0 : Option Addr) (np0 cp0 : Nat) (a0 : List Int) (r : List Int) (w : World) (w0 : World) (FT : List Ent) (hM0 : Mem w0 w (Gs [⟨.slice Ap0 np0 cp0, 37, 1, nums .u32 a0⟩] [FT])) (h : slices_Reverse_uint32_uint32.f k a0 = some r) :
    Calls Go.Proofs.Try.prog 26 #[(.slice Ap0 np0 cp0)] w (Ret fun v w' => v = .tuple #[] ∧ Mem w0 w' (Gs [⟨.slice Ap0 a0.length cp0, 37, 1, nums .u32 r⟩] [FT])) := by
  obtain rfl : a0.length = np0 := by have h_ := (hM0.rd 0 rfl).1; simpa [nums_length, bools_length, strs_length] using h_
  unfold slices_Reverse_uint32_uint32.f at h
  refine calls_of [.slice Ap0 a0.length cp0] (fn := Go.Proofs.Try.f26) Go.Proofs.Try.func26 (by kernel_rfl) (by kernel_rfl) ?_
  have hM := hM0
  refine RunF.go 10 [0, 2, 3] (k' := (pl Go.Proofs.Try.f26 [1, 0, 0])) (L' := [(0, .slice Ap0 a0.length cp0), (2, .int .i64 0), (3, .int .i64 (I64 ((a0.length : Int) - 1)))]) (w' := w) (by kernel_rfl) ?_
  have l0 : ∀ (k_ : Nat), k_ ≤ k → ∀ (x0_0 : List Int) (x2_0 : Int) (x3_0 : Int) (W : World) (hM : Mem w0 W (Gs [⟨.slice Ap0 a0.length cp0, 37, 1, nums .u32 x0_0⟩] [FT])) (h : slices_Reverse_uint32_uint32.l0 k_ a0 x0_0 x2_0 x3_0 = some r), RunF Go.Proofs.Try.prog (Ret fun v w' => v = .tuple #[] ∧ Mem w0 w' (Gs [⟨.slice Ap0 a0.length cp0, 37, 1, nums .u32 r⟩] [FT])) 26 (pl Go.Proofs.Try.f26 [1, 0, 0]) 28 [(0, .slice Ap0 a0.length cp0), (2, .int .i64 x2_0), (3, .int .i64 x3_0)] W := by
    intro k_
    induction k_ using Nat.strongRecOn with
    | _ k_ ih0 =>
      intro hk x0_0 x2_0 x3_0 W hM h
      cases k_ with
      | zero => exact absurd h (by simp [slices_Reverse_uint32_uint32.l0])
      | succ k =>
        simp only [slices_Reverse_uint32_uint32.l0] at h
        replace ih0 : ∀ m, m ≤ k → _ := fun m hm => ih0 m (by omega) (by omega)
        refine RunF.go 7 [0, 2, 3, 9] (k' := (pl Go.Proofs.Try.f26 [1, 0, 0, 0, 1])) (L' := [(0, .slice Ap0 a0.length cp0), (2, .int .i64 x2_0), (3, .int .i64 x3_0), (9, .bool (decide (x2_0 < x3_0)))]) (w' := W) (by kernel_rfl) ?_
        rcases two (decide (x2_0 < x3_0)) with c2 | c2
        · replace h := of_true h c2
          refine RunF.know 9 (b := true) (by kernel_rfl) c2 ?_
          refine RunF.go 4 [0, 2, 3] (k' := (pl Go.Proofs.Try.f26 [1, 0, 0, 1, 0, 0])) (L' := [(0, .slice Ap0 a0.length cp0), (2, .int .i64 x2_0), (3, .int .i64 x3_0)]) (w' := W) (by kernel_rfl) ?_
          refine RunF.draw (Still ({ W with drawn := W.drawn + 1 } : World) [.slice Ap0 a0.length cp0]) (by kernel_rfl) (by kernel_rfl) ?_
          have hMd4 := hM.drew
          have hS := Still.refl ({ W with drawn := W.drawn + 1 } : World) [.slice Ap0 a0.length cp0]
          generalize ({ W with drawn := W.drawn + 1 } : World) = W3 at hMd4 hS ⊢
          replace hM := hMd4
          refine RunAny.y 0 (by kernel_rfl) (yl_pure (d := some 14) (v := .slice Ap0 a0.length cp0) (k2 := [.inRegion (opsOf (pl Go.Proofs.Try.f26 [1, 0, 0, 1, 0, 0])) []]) fun w => by kernel_rfl) (fun _ _ => trivial) hS ?_
          refine RunAny.y 1 (by kernel_rfl) (yl_pure (d := some 15) (v := .int .i64 x2_0) (k2 := [.inRegion (opsOf (pl Go.Proofs.Try.f26 [1, 0, 0, 1, 0, 0])) []]) fun w => by kernel_rfl) (fun _ _ => trivial) hS ?_
          refine RunAny.y 2 (by kernel_rfl) (yl_pure (d := some 16) (v := .slice Ap0 a0.length cp0) (k2 := [.inRegion (opsOf (pl Go.Proofs.Try.f26 [1, 0, 0, 1, 0, 0])) []]) fun w => by kernel_rfl) (fun _ _ => trivial) hS ?_
          refine RunAny.y 3 (by kernel_rfl) (yl_pure (d := some 17) (v := .int .i64 x3_0) (k2 := [.inRegion (opsOf (pl Go.Proofs.Try.f26 [1, 0, 0, 1, 0, 0])) []]) fun w => by kernel_rfl) (fun _ _ => trivial) hS ?_
          refine RunAny.y 4 (by kernel_rfl) (yl_pure (d := some 18) (v := .slice Ap0 a0.length cp0) (k2 := [.inRegion (opsOf (pl Go.Proofs.Try.f26 [1, 0, 0, 1, 0, 0])) []]) fun w => by kernel_rfl) (fun _ _ => trivial) hS ?_
          refine RunAny.y 5 (by kernel_rfl) (yl_pure (d := some 19) (v := .int .i64 x3_0) (k2 := [.inRegion (opsOf (pl Go.Proofs.Try.f26 [1, 0, 0, 1, 0, 0])) []]) fun w => by kernel_rfl) (fun _ _ => trivial) hS ?_
          rcases two (decide (0 ≤ x3_0)) with c6 | c6
          · replace h := of_true h c6
            rcases two (decide (x3_0 < (a0.length : Int))) with c7 | c7
            · replace h := of_true h c7
              obtain ⟨q5, hAq5, hcq5, hfq5, hlq5⟩ := hM.num_at 0 rfl (i := x3_0) (of_decide_eq_true c6) (by have h_ := of_decide_eq_true c7; omega)
              refine RunAny.y 6 (by kernel_rfl) (idx_own (d := some 20) (A := Ap0) (m := a0.length) (i := x3_0) (k2 := [.inRegion (opsOf (pl Go.Proofs.Try.f26 [1, 0, 0, 1, 0, 0])) []]) (by kernel_rfl) (of_decide_eq_true c6) (by have h_ := of_decide_eq_true c7; omega) hAq5) (fun _ _ => trivial) hS ?_
              refine RunAny.y 8 (by kernel_rfl) (yl_pure (d := some 22) (v := .slice Ap0 a0.length cp0) (k2 := [.inRegion (opsOf (pl Go.Proofs.Try.f26 [1, 0, 0, 1, 0, 0])) []]) fun w => by kernel_rfl) (fun _ _ => trivial) hS ?_
              refine RunAny.y 9 (by kernel_rfl) (yl_pure (d := some 23) (v := .int .i64 x2_0) (k2 := [.inRegion (opsOf (pl Go.Proofs.Try.f26 [1, 0, 0, 1, 0, 0])) []]) fun w => by kernel_rfl) (fun _ _ => trivial) hS ?_
              rcases two (decide (0 ≤ x2_0)) with c9 | c9
              · replace h := of_true h c9
                rcases two (decide (x2_0 < (a0.length : Int))) with c10 | c10
                · replace h := of_true h c10
                  obtain ⟨q8, hAq8, hcq8, hfq8, hlq8⟩ := hM.num_at 0 rfl (i := x2_0) (of_decide_eq_true c9) (by have h_ := of_decide_eq_true c10; omega)
                  refine RunAny.y 10 (by kernel_rfl) (idx_own (d := some 24) (A := Ap0) (m := a0.length) (i := x2_0) (k2 := [.inRegion (opsOf (pl Go.Proofs.Try.f26 [1, 0, 0, 1, 0, 0])) []]) (by kernel_rfl) (of_decide_eq_true c9) (by have h_ := of_decide_eq_true c10; omega) hAq8) (fun _ _ => trivial) hS ?_
                  have J11 : ∀ (W12 : World) (hS : Still W12 [.slice Ap0 a0.length cp0] W12) (hM : Mem w0 W12 (Gs [⟨.slice Ap0 a0.length cp0, 37, 1, nums .u32 x0_0⟩] [FT])) , RunAny Go.Proofs.Try.prog (Ret fun v w' => v = .tuple #[] ∧ Mem w0 w' (Gs [⟨.slice Ap0 a0.length cp0, 37, 1, nums .u32 r⟩] [FT])) 26 (rest1 (pl Go.Proofs.Try.f26 [1, 0, 0, 1, 0, 0])) 28 (opsOf (pl Go.Proofs.Try.f26 [1, 0, 0, 1, 0, 0])) (Still W12 [.slice Ap0 a0.length cp0]) 4 [0, 1, 2, 3, 4, 5, 6, 8, 9, 10, 7, 11] [(0, .slice Ap0 a0.length cp0), (2, .int .i64 x2_0), (3, .int .i64 x3_0), (14, .slice Ap0 a0.length cp0), (15, .int .i64 x2_0), (16, .slice Ap0 a0.length cp0), (17, .int .i64 x3_0), (18, .slice Ap0 a0.length cp0), (19, .int .i64 x3_0), (20, .pointer (some ⟨q5, (x3_0 : Int).toNat, none⟩)), (21, .int .u32 (rd x0_0 x3_0)), (22, .slice Ap0 a0.length cp0), (23, .int .i64 x2_0), (24, .pointer (some ⟨q8, (x2_0 : Int).toNat, none⟩)), (25, .int .u32 (rd x0_0 x2_0))] W12 := by
                    intro W12 hS hM 
                    rcases two (decide (0 ≤ x2_0)) with c14 | c14
                    · replace h := of_true h c14
                      rcases two (decide (x2_0 < (a0.length : Int))) with c15 | c15
                      · replace h := of_true h c15
                        obtain ⟨q13, hAq13, hcq13, hfq13, hlq13⟩ := hM.num_at 0 rfl (i := x2_0) (of_decide_eq_true c14) (by have h_ := of_decide_eq_true c15; omega)
                        refine RunAny.y 12 (by kernel_rfl) (idx_own (d := some 26) (A := Ap0) (m := a0.length) (i := x2_0) (k2 := [.inRegion (opsOf (pl Go.Proofs.Try.f26 [1, 0, 0, 1, 0, 0])) []]) (by kernel_rfl) (of_decide_eq_true c14) (by have h_ := of_decide_eq_true c15; omega) hAq13) (fun _ _ => trivial) hS ?_
                        obtain ⟨g_, hA_, hc_, hf_, hl_⟩ := hM.num_at 0 rfl (i := x2_0) (of_decide_eq_true c14) (by have h_ := of_decide_eq_true c15; omega)
                        obtain rfl : q13 = g_ := by rw [hAq13] at hA_; injection hA_ with hA_; injection hA_
                        have hS' := hS.set (v := .slice Ap0 a0.length cp0) (g := q13) (i := (x2_0 : Int).toNat) (by simp) (by rw [hAq13]; rfl) (.int .u32 (rd x0_0 x3_0))
                        refine RunAny.doesU 13 (by kernel_rfl) (st_u (p := (⟨q13, (x2_0 : Int).toNat, none⟩ : Addr)) (v := .int .u32 (rd x0_0 x3_0)) (k2 := [.inRegion (opsOf (pl Go.Proofs.Try.f26 [1, 0, 0, 1, 0, 0])) []]) (by kernel_rfl) hc_ hf_) hS' ?_
                        replace hM : Mem w0 (W12.setCell (⟨q13, (x2_0 : Int).toNat, none⟩ : Addr) (.int .u32 (rd x0_0 x3_0))) (Gs [⟨.slice Ap0 a0.length cp0, 37, 1, nums .u32 (x0_0.set (x2_0 : Int).toNat (rd x0_0 x3_0))⟩] [FT]) := Mem.put_num [] (Gs [] [FT]) (hM.as rfl) hAq13 _ hl_ _
                        generalize W12.setCell (⟨q13, (x2_0 : Int).toNat, none⟩ : Addr) (.int .u32 (rd x0_0 x3_0)) = W16 at hM hS' ⊢
                        clear hc_ hf_ hl_ hA_ hcq13
                        replace hS := hS'
                        refine RunAny.rebase hS ?_
                        replace hS := Still.refl W16 [.slice Ap0 a0.length cp0]
                        rcases two (decide (0 ≤ x3_0)) with c18 | c18
                        · replace h := of_true h c18
                          rcases two (decide (x3_0 < (a0.length : Int))) with c19 | c19
                          · replace h := of_true h c19
                            obtain ⟨q17, hAq17, hcq17, hfq17, hlq17⟩ := hM.num_at 0 rfl (i := x3_0) (of_decide_eq_true c18) (by have h_ := of_decide_eq_true c19; omega)
                            refine RunAny.y 14 (by kernel_rfl) (idx_own (d := some 27) (A := Ap0) (m := a0.length) (i := x3_0) (k2 := [.inRegion (opsOf (pl Go.Proofs.Try.f26 [1, 0, 0, 1, 0, 0])) []]) (by kernel_rfl) (of_decide_eq_true c18) (by have h_ := of_decide_eq_true c19; omega) hAq17) (fun _ _ => trivial) hS ?_
                            obtain ⟨g_, hA_, hc_, hf_, hl_⟩ := hM.num_at 0 rfl (i := x3_0) (of_decide_eq_true c18) (by have h_ := of_decide_eq_true c19; omega)
                            obtain rfl : q17 = g_ := by rw [hAq17] at hA_; injection hA_ with hA_; injection hA_
                            have hS' := hS.set (v := .slice Ap0 a0.length cp0) (g := q17) (i := (x3_0 : Int).toNat) (by simp) (by rw [hAq17]; rfl) (.int .u32 (rd x0_0 x2_0))
                            refine RunAny.doesU 15 (by kernel_rfl) (st_u (p := (⟨q17, (x3_0 : Int).toNat, none⟩ : Addr)) (v := .int .u32 (rd x0_0 x2_0)) (k2 := [.inRegion (opsOf (pl Go.Proofs.Try.f26 [1, 0, 0, 1, 0, 0])) []]) (by kernel_rfl) hc_ hf_) hS' ?_
                            replace hM : Mem w0 (W16.setCell (⟨q17, (x3_0 : Int).toNat, none⟩ : Addr) (.int .u32 (rd x0_0 x2_0))) (Gs [⟨.slice Ap0 a0.length cp0, 37, 1, nums .u32 ((x0_0.set (x2_0 : Int).toNat (rd x0_0 x3_0)).set (x3_0 : Int).toNat (rd x0_0 x2_0))⟩] [FT]) := Mem.put_num [] (Gs [] [FT]) (hM.as rfl) hAq17 _ hl_ _
                            generalize W16.setCell (⟨q17, (x3_0 : Int).toNat, none⟩ : Addr) (.int .u32 (rd x0_0 x2_0)) = W20 at hM hS' ⊢
                            clear hc_ hf_ hl_ hA_ hcq17
                            replace hS := hS'
                            refine RunAny.rebase hS ?_
                            replace hS := Still.refl W20 [.slice Ap0 a0.length cp0]
                            refine RunAny.done (by kernel_rfl) ?_
                            clear hS
                            refine RunF.go 10 [0, 2, 3] (k' := (pl Go.Proofs.Try.f26 [1, 0, 0])) (L' := [(0, .slice Ap0 a0.length cp0), (2, .int .i64 (I64 (x2_0 + 1))), (3, .int .i64 (I64 (x3_0 - 1)))]) (w' := W20) (by kernel_rfl) ?_
                            exact ih0 k (by omega) ((x0_0.set (x2_0 : Int).toNat (rd x0_0 x3_0)).set (x3_0 : Int).toNat (rd x0_0 x2_0)) (I64 (x2_0 + 1)) (I64 (x3_0 - 1)) _ (Mem.pickF (hM.as (H' := Gs [⟨.slice Ap0 a0.length cp0, 37, 1, nums .u32 ((x0_0.set (x2_0 : Int).toNat (rd x0_0 x3_0)).set (x3_0 : Int).toNat (rd x0_0 x2_0))⟩] [FT]) rfl) [0, 1] rfl rfl rfl) h
                          · replace h := of_false h c19
                            cases h
                        · replace h := of_false h c18
                          cases h
                      · replace h := of_false h c15
                        cases h
                    · replace h := of_false h c14
                      cases h
                  have J21 : ∀ (W22 : World) (hS : Still W22 [.slice Ap0 a0.length cp0] W22) (hM : Mem w0 W22 (Gs [⟨.slice Ap0 a0.length cp0, 37, 1, nums .u32 x0_0⟩] [FT])) (hcq5 : W22.cell? ⟨q5, (x3_0 : Int).toNat, none⟩ = some (.int .u32 (rd x0_0 x3_0))), RunAny Go.Proofs.Try.prog (Ret fun v w' => v = .tuple #[] ∧ Mem w0 w' (Gs [⟨.slice Ap0 a0.length cp0, 37, 1, nums .u32 r⟩] [FT])) 26 (rest1 (pl Go.Proofs.Try.f26 [1, 0, 0, 1, 0, 0])) 28 (opsOf (pl Go.Proofs.Try.f26 [1, 0, 0, 1, 0, 0])) (Still W22 [.slice Ap0 a0.length cp0]) 5 [0, 1, 2, 3, 4, 5, 6, 8, 9, 10, 11] [(0, .slice Ap0 a0.length cp0), (2, .int .i64 x2_0), (3, .int .i64 x3_0), (14, .slice Ap0 a0.length cp0), (15, .int .i64 x2_0), (16, .slice Ap0 a0.length cp0), (17, .int .i64 x3_0), (18, .slice Ap0 a0.length cp0), (19, .int .i64 x3_0), (20, .pointer (some ⟨q5, (x3_0 : Int).toNat, none⟩)), (22, .slice Ap0 a0.length cp0), (23, .int .i64 x2_0), (24, .pointer (some ⟨q8, (x2_0 : Int).toNat, none⟩)), (25, .int .u32 (rd x0_0 x2_0))] W22 := by
                    intro W22 hS hM hcq5
                    refine RunAny.does 7 (by kernel_rfl) ((ld_y (d := some 21) (p := ⟨q5, (x3_0 : Int).toNat, none⟩) (k2 := [.inRegion (opsOf (pl Go.Proofs.Try.f26 [1, 0, 0, 1, 0, 0])) []]) (.int .u32 (rd x0_0 x3_0)) (by kernel_rfl)).does hcq5) hS ?_
                    exact RunAny.same [0, 1, 2, 3, 4, 5, 6, 8, 9, 10, 7, 11] (by kernel_rfl) [0, 2, 3, 14, 15, 16, 17, 18, 19, 20, 21, 22, 23, 24, 25] (by kernel_rfl) (J11 _ hS (Mem.pickF (hM.as (H' := (Gs [⟨.slice Ap0 a0.length cp0, 37, 1, nums .u32 x0_0⟩] [FT])) rfl) [0, 1] rfl rfl rfl))
                  have J23 : ∀ (W24 : World) (hS : Still W24 [.slice Ap0 a0.length cp0] W24) (hM : Mem w0 W24 (Gs [⟨.slice Ap0 a0.length cp0, 37, 1, nums .u32 x0_0⟩] [FT])) (hcq8 : W24.cell? ⟨q8, (x2_0 : Int).toNat, none⟩ = some (.int .u32 (rd x0_0 x2_0))), RunAny Go.Proofs.Try.prog (Ret fun v w' => v = .tuple #[] ∧ Mem w0 w' (Gs [⟨.slice Ap0 a0.length cp0, 37, 1, nums .u32 r⟩] [FT])) 26 (rest1 (pl Go.Proofs.Try.f26 [1, 0, 0, 1, 0, 0])) 28 (opsOf (pl Go.Proofs.Try.f26 [1, 0, 0, 1, 0, 0])) (Still W24 [.slice Ap0 a0.length cp0]) 5 [0, 1, 2, 3, 4, 5, 6, 8, 9, 10, 7] [(0, .slice Ap0 a0.length cp0), (2, .int .i64 x2_0), (3, .int .i64 x3_0), (14, .slice Ap0 a0.length cp0), (15, .int .i64 x2_0), (16, .slice Ap0 a0.length cp0), (17, .int .i64 x3_0), (18, .slice Ap0 a0.length cp0), (19, .int .i64 x3_0), (20, .pointer (some ⟨q5, (x3_0 : Int).toNat, none⟩)), (21, .int .u32 (rd x0_0 x3_0)), (22, .slice Ap0 a0.length cp0), (23, .int .i64 x2_0), (24, .pointer (some ⟨q8, (x2_0 : Int).toNat, none⟩))] W24 := by
                    intro W24 hS hM hcq8
                    refine RunAny.does 11 (by kernel_rfl) ((ld_y (d := some 25) (p := ⟨q8, (x2_0 : Int).toNat, none⟩) (k2 := [.inRegion (opsOf (pl Go.Proofs.Try.f26 [1, 0, 0, 1, 0, 0])) []]) (.int .u32 (rd x0_0 x2_0)) (by kernel_rfl)).does hcq8) hS ?_
                    exact RunAny.same [0, 1, 2, 3, 4, 5, 6, 8, 9, 10, 7, 11] (by kernel_rfl) [0, 2, 3, 14, 15, 16, 17, 18, 19, 20, 21, 22, 23, 24, 25] (by kernel_rfl) (J11 _ hS (Mem.pickF (hM.as (H' := (Gs [⟨.slice Ap0 a0.length cp0, 37, 1, nums .u32 x0_0⟩] [FT])) rfl) [0, 1] rfl rfl rfl))
                  refine RunAny.all [7, 11] (by kernel_rfl) (by simp) ?_
                  refine ⟨?_, ?_, trivial⟩
                  · refine Stepped.does 7 ((ld_y (d := some 21) (p := ⟨q5, (x3_0 : Int).toNat, none⟩) (k2 := [.inRegion (opsOf (pl Go.Proofs.Try.f26 [1, 0, 0, 1, 0, 0])) []]) (.int .u32 (rd x0_0 x3_0)) (by kernel_rfl)).does hcq5) hS ?_
                    exact RunAny.same [0, 1, 2, 3, 4, 5, 6, 8, 9, 10, 7] (by kernel_rfl) [0, 2, 3, 14, 15, 16, 17, 18, 19, 20, 21, 22, 23, 24] (by kernel_rfl) (J23 _ hS (Mem.pickF (hM.as (H' := (Gs [⟨.slice Ap0 a0.length cp0, 37, 1, nums .u32 x0_0⟩] [FT])) rfl) [0, 1] rfl rfl rfl) hcq8)
                  · refine Stepped.does 11 ((ld_y (d := some 25) (p := ⟨q8, (x2_0 : Int).toNat, none⟩) (k2 := [.inRegion (opsOf (pl Go.Proofs.Try.f26 [1, 0, 0, 1, 0, 0])) []]) (.int .u32 (rd x0_0 x2_0)) (by kernel_rfl)).does hcq8) hS ?_
                    exact RunAny.same [0, 1, 2, 3, 4, 5, 6, 8, 9, 10, 11] (by kernel_rfl) [0, 2, 3, 14, 15, 16, 17, 18, 19, 20, 22, 23, 24, 25] (by kernel_rfl) (J21 _ hS (Mem.pickF (hM.as (H' := (Gs [⟨.slice Ap0 a0.length cp0, 37, 1, nums .u32 x0_0⟩] [FT])) rfl) [0, 1] rfl rfl rfl) hcq5)
                · replace h := of_false h c10
                  cases h
              · replace h := of_false h c9
                cases h
            · replace h := of_false h c7
              cases h
          · replace h := of_false h c6
            cases h
        · replace h := of_false h c2
          refine RunF.know 9 (b := false) (by kernel_rfl) c2 ?_
          refine RunF.go 2 [] (k' := ([] : List Item)) (L' := []) (w' := W) (by kernel_rfl) ?_
          obtain rfl := Option.some.inj h
          exact RunF.ret0   (fn := Go.Proofs.Try.f26) Go.Proofs.Try.func26 (by kernel_rfl) (by kernel_rfl)  ⟨_, rfl, rfl, (Mem.pickF (hM.as (H' := Gs [⟨.slice Ap0 a0.length cp0, 37, 1, nums .u32 x0_0⟩] [FT]) rfl) [0, 1] rfl rfl rfl)⟩
  exact l0 k (Nat.le_refl _) a0 0 (I64 ((a0.length : Int) - 1)) _ (Mem.pickF (hM.as (H' := Gs [⟨.slice Ap0 a0.length cp0, 37, 1, nums .u32 a0⟩] [FT]) rfl) [0, 1] rfl rfl rfl) h

/-! ### scrim/words.rest: function 47 -/
def words_rest.f (k : Nat) (a0 : Int) (a1 : Int) : Option (Int) := if (decide (a1 = 0)) = true then (none) else (if (decide (a1 = 0)) = true then (none) else (some (Int.tmod (I64 ((Int.tmod a0 a1) + a1)) a1)))
set_option maxRecDepth 100000 in
theorem words_rest.calls (k : Nat) (a0 : Int) (a1 : Int) (r : Int) (w : World) (h : words_rest.f k a0 a1 = some r) :
    Calls Go.Proofs.Try.prog 47 #[.int .i64 a0, .int .i64 a1] w (Ret fun v w' => v = .int .i64 r ∧ Mem w w' []) := by
  unfold words_rest.f at h
  refine calls_of [.int .i64 a0, .int .i64 a1] (fn := Go.Proofs.Try.f47) Go.Proofs.Try.func47 (by kernel_rfl) (by kernel_rfl) ?_
  have hM := Mem.refl w
  refine RunF.go 8 [1, 5, 6] (k' := (pin Go.Proofs.Try.f47 [1, 0] 2)) (L' := [(1, .int .i64 a1), (5, .int .i64 a0), (6, .int .i64 a1)]) (w' := w) (by kernel_rfl) ?_
  rcases two (decide (a1 = 0)) with c1 | c1
  · replace h := of_true h c1
    cases h
  · replace h := of_false h c1
    refine RunF.y (div_y (d := some 7) (b := false) (kd := .i64) (x := a0) (y := a1) (k2 := (pin Go.Proofs.Try.f47 [1, 0] 3)) (by kernel_rfl) c1) trivial ?_
    refine RunF.go 3 [9, 10] (k' := (pin Go.Proofs.Try.f47 [1, 0] 6)) (L' := [(9, .int .i64 (I64 ((Int.tmod a0 a1) + a1))), (10, .int .i64 a1)]) (w' := w) (by kernel_rfl) ?_
    rcases two (decide (a1 = 0)) with c2 | c2
    · replace h := of_true h c2
      cases h
    · replace h := of_false h c2
      refine RunF.y (div_y (d := some 11) (b := false) (kd := .i64) (x := I64 ((Int.tmod a0 a1) + a1)) (y := a1) (k2 := (pin Go.Proofs.Try.f47 [1, 0] 7)) (by kernel_rfl) c2) trivial ?_
      refine RunF.go 2 [4] (k' := (pl Go.Proofs.Try.f47 [1, 1])) (L' := [(4, .int .i64 (Int.tmod (I64 ((Int.tmod a0 a1) + a1)) a1))]) (w' := w) (by kernel_rfl) ?_
      obtain rfl := Option.some.inj h
      exact RunF.ret1 4 (.int .i64 (Int.tmod (I64 ((Int.tmod a0 a1) + a1)) a1)) (fn := Go.Proofs.Try.f47) Go.Proofs.Try.func47 (by kernel_rfl) (by kernel_rfl) (by kernel_rfl) ⟨_, rfl, rfl, (hM.pick [] rfl rfl)⟩

/-! ### scrim/words.Rol32: function 27 -/
def words_Rol32.f (k : Nat) (a0 : Int) (a1 : Int) : Option (Int) := (words_rest.f k a1 32).bind fun t2 => (if (decide (0 ≤ (U64 (t2)))) = true then (if (decide (0 ≤ (U64 (32 - (U64 (t2)))))) = true then (some (bor .u32 (shlv .u32 a0 (U64 (t2))) (shrv .u32 a0 (U64 (32 - (U64 (t2))))))) else (none)) else (none))
set_option maxRecDepth 100000 in
theorem words_Rol32.calls (k : Nat) (a0 : Int) (a1 : Int) (r : Int) (w : World) (h : words_Rol32.f k a0 a1 = some r) :
    Calls Go.Proofs.Try.prog 27 #[.int .u32 a0, .int .i64 a1] w (Ret fun v w' => v = .int .u32 r ∧ Mem w w' []) := by
  unfold words_Rol32.f at h
  refine calls_of [.int .u32 a0, .int .i64 a1] (fn := Go.Proofs.Try.f27) Go.Proofs.Try.func27 (by kernel_rfl) (by kernel_rfl) ?_
  have hM := Mem.refl w
  refine RunF.go 7 [0, 6] (k' := (pin Go.Proofs.Try.f27 [1, 0] 1)) (L' := [(0, .int .u32 a0), (6, .int .i64 a1)]) (w' := w) (by kernel_rfl) ?_
  obtain ⟨t2, ht2, h⟩ := Option.bind_eq_some_iff.mp h
  refine RunF.call (d := some 7) (g := 47) (args := #[.int .i64 a1, .int .i64 32]) (k2 := (pin Go.Proofs.Try.f27 [1, 0] 2)) (by kernel_rfl) (words_rest.calls k a1 32 t2 _ ht2) ?_
  rintro _ W1 ⟨rfl, hM_⟩
  replace hM := hM.call hM_
  clear hM_ ht2
  refine RunF.go 7 [0, 5, 9, 10] (k' := (pin Go.Proofs.Try.f27 [1, 1, 0] 2)) (L' := [(0, .int .u32 a0), (5, .int .u64 (U64 (t2))), (9, .int .u32 a0), (10, .int .u64 (U64 (t2)))]) (w' := W1) (by kernel_rfl) ?_
  rcases two (decide (0 ≤ (U64 (t2)))) with c3 | c3
  · replace h := of_true h c3
    refine RunF.y (sh_y (d := some 11) (b := true) (kd := .u32) (x := a0) (y := U64 (t2)) (k2 := (pin Go.Proofs.Try.f27 [1, 1, 0] 3)) (by kernel_rfl) c3) trivial ?_
    refine RunF.go 3 [11, 12, 14] (k' := (pin Go.Proofs.Try.f27 [1, 1, 0] 6)) (L' := [(11, .int .u32 (shlv .u32 a0 (U64 (t2)))), (12, .int .u32 a0), (14, .int .u64 (U64 (32 - (U64 (t2)))))]) (w' := W1) (by kernel_rfl) ?_
    rcases two (decide (0 ≤ (U64 (32 - (U64 (t2)))))) with c4 | c4
    · replace h := of_true h c4
      refine RunF.y (sh_y (d := some 15) (b := false) (kd := .u32) (x := a0) (y := U64 (32 - (U64 (t2)))) (k2 := (pin Go.Proofs.Try.f27 [1, 1, 0] 7)) (by kernel_rfl) c4) trivial ?_
      refine RunF.go 3 [4] (k' := (pl Go.Proofs.Try.f27 [1, 1, 1])) (L' := [(4, .int .u32 (bor .u32 (shlv .u32 a0 (U64 (t2))) (shrv .u32 a0 (U64 (32 - (U64 (t2)))))))]) (w' := W1) (by kernel_rfl) ?_
      obtain rfl := Option.some.inj h
      exact RunF.ret1 4 (.int .u32 (bor .u32 (shlv .u32 a0 (U64 (t2))) (shrv .u32 a0 (U64 (32 - (U64 (t2))))))) (fn := Go.Proofs.Try.f27) Go.Proofs.Try.func27 (by kernel_rfl) (by kernel_rfl) (by kernel_rfl) ⟨_, rfl, rfl, (hM.pick [] rfl rfl)⟩
    · replace h := of_false h c4
      cases h
  · replace h := of_false h c3
    cases h

/-! ### slices.Clone[[]uint32,uint32]: function 28 -/
def slices_Clone_uint32_uint32.f (k : Nat) (a0 : List Int) : Option (List Int) := if (decide (([] : List Int).length + a0.length ≤ 35184372088832)) = true then (some (([] : List Int) ++ a0)) else (none)
set_option maxRecDepth 100000 in
theorem slices_Clone_uint32_uint32.calls (k : Nat) (Ap0 : Option Addr) (np0 cp0 : Nat) (a0 : List Int) (r : List Int) (w : World) (hr0 : Rd w (.slice Ap0 np0 cp0) (nums .u32 a0)) (h : slices_Clone_uint32_uint32.f k a0 = some r) :
    Calls Go.Proofs.Try.prog 28 #[(.slice Ap0 np0 cp0)] w (Ret fun v w' => ∃ A0' n0' c0', v = .slice A0' n0' c0' ∧ Mem w w' [⟨.slice A0' n0' c0', 37, 1, nums .u32 r⟩]) := by
  obtain rfl : a0.length = np0 := by have h_ := hr0.1; simpa [nums_length, bools_length, strs_length] using h_
  unfold slices_Clone_uint32_uint32.f at h
  refine calls_of [.slice Ap0 a0.length cp0] (fn := Go.Proofs.Try.f28) Go.Proofs.Try.func28 (by kernel_rfl) (by kernel_rfl) ?_
  have hM := Mem.refl w
  refine RunF.go 8 [0, 3] (k' := (pin Go.Proofs.Try.f28 [1, 0, 0] 1)) (L' := [(0, .slice Ap0 a0.length cp0), (3, .slice Ap0 a0.length cp0)]) (w' := w) (by kernel_rfl) ?_
  rcases (hr0.mono hM.below).isnil with ⟨rfl, hn_⟩ | ⟨a1, rfl⟩
  · obtain rfl : a0 = [] := by simpa [nums, bools, strs] using hn_
    replace h : (some ([] : List Int)) = some r := by simpa using h
    clear hn_
    refine RunF.go 7 [2] (k' := (pl Go.Proofs.Try.f28 [1, 0, 1, 0, 1])) (L' := [(2, .slice none 0 0)]) (w' := w) (by kernel_rfl) ?_
    replace hM := hM.nil 37
    obtain rfl := Option.some.inj h
    exact RunF.ret1 2 (.slice none 0 0) (fn := Go.Proofs.Try.f28) Go.Proofs.Try.func28 (by kernel_rfl) (by kernel_rfl) (by kernel_rfl) ⟨_, rfl, none, 0, 0, rfl, (hM.pick [0] rfl rfl)⟩
  · refine RunF.go 6 [0] (k' := (pin Go.Proofs.Try.f28 [1, 1, 0] 0)) (L' := [(0, .slice (some a1) a0.length cp0)]) (w' := w) (by kernel_rfl) ?_
    refine RunF.new 37 1 0 (nums .u32 []) (d := some 5) (k2 := (pin Go.Proofs.Try.f28 [1, 1, 0] 1)) hM (by simp [nums, bools, strs]) (by kernel_rfl) (by kernel_rfl) ?_
    replace hM := hM
    intro g2 W3 hM
    refine RunF.go 1 [5, 6] (k' := (pin Go.Proofs.Try.f28 [1, 1, 0] 2)) (L' := [(5, .slice (some ⟨g2, 0, none⟩) 0 0), (6, .slice (some a1) a0.length cp0)]) (w' := W3) (by kernel_rfl) ?_
    rcases two (decide (([] : List Int).length + a0.length ≤ 35184372088832)) with c9 | c9
    · replace h := of_true h c9
      have h_ := of_decide_eq_true c9
      obtain ⟨A5, n6, c7, W8, hD, hM', hS_⟩ := app_doesW (P := Go.Proofs.Try.prog) (n := 8) (k := (pin Go.Proofs.Try.f28 [1, 1, 0] 2)) (L := [(5, .slice (some ⟨g2, 0, none⟩) 0 0), (6, .slice (some a1) a0.length cp0)]) (d := some 7) (e := 37) (A := (some ⟨g2, 0, none⟩)) (m := 0) (c := 0) (A2 := (some a1)) (m2 := a0.length) (c2 := cp0) (cs := nums .u32 ([] : List Int)) (ys := nums .u32 a0) (k2 := (pin Go.Proofs.Try.f28 [1, 1, 0] 3)) [] [] (by kernel_rfl) (hM.pick [0] rfl rfl) (hr0.mono hM.below) (one_nums _ _) (by omega) (by kernel_rfl)
      rw [nums_append] at hM'
      replace hM := hM'; clear h_ hM'
      obtain rfl : (([] : List Int) ++ a0).length = n6 := by have h_ := (hM.rd 0 rfl).1; simpa only [nums_length, bools_length, strs_length] using h_
      refine RunF.does hD ?_
      clear hD hS_
      refine RunF.go 2 [2] (k' := (pl Go.Proofs.Try.f28 [1, 1, 1])) (L' := [(2, .slice A5 ((([] : List Int) ++ a0).length) c7)]) (w' := W8) (by kernel_rfl) ?_
      obtain rfl := Option.some.inj h
      exact RunF.ret1 2 (.slice A5 ((([] : List Int) ++ a0).length) c7) (fn := Go.Proofs.Try.f28) Go.Proofs.Try.func28 (by kernel_rfl) (by kernel_rfl) (by kernel_rfl) ⟨_, rfl, A5, (([] : List Int) ++ a0).length, c7, rfl, (hM.pick [0] rfl rfl)⟩
    · replace h := of_false h c9
      cases h


end Go.Scr.S
