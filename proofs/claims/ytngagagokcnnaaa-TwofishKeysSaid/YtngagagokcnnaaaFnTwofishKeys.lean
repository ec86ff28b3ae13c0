/- The functions that the law TwofishKeys reaches, as plain functions, and that each call answers so. -/
import Derived.Test.YtngagagokcnnaaaProg
import Derived.Test.YtngagagokcnnaaaFnTwofishKeys3
set_option linter.unusedVariables false
set_option linter.unusedSimpArgs false
set_option linter.unnecessarySimpa false
namespace Go.Scr.S
open Go.RowKit (Below)
/-! ### scrim/scrimref9.Keys: function 11 -/
mutual
def scrimref9_Keys.l0 : Nat → (List Int) → (List Int) → (List Int) → (List Int) → Int → Option (List Int × List Int × Int)
  | 0, _, _, _, _, _ => none
  | k + 1, a0, x5_0, x6_0, x7_0, x9_0 => if (decide (x9_0 < (a0.length : Int))) = true then (if (decide (0 ≤ x9_0)) = true then (if (decide (x9_0 ≤ (I64 (x9_0 + 4)))) = true then (if (decide ((I64 (x9_0 + 4)) ≤ (a0.length : Int))) = true then ((scrimref1_Little.f k ((a0.take (I64 (x9_0 + 4) : Int).toNat).drop (x9_0 : Int).toNat)).bind fun t22 => (if (decide (x5_0.length + ([U32 (t22)] : List Int).length ≤ 1000000000)) = true then (if (decide (0 ≤ (I64 (x9_0 + 4)))) = true then (if (decide ((I64 (x9_0 + 4)) ≤ (I64 (x9_0 + 8)))) = true then (if (decide ((I64 (x9_0 + 8)) ≤ (a0.length : Int))) = true then ((scrimref1_Little.f k ((a0.take (I64 (x9_0 + 8) : Int).toNat).drop (I64 (x9_0 + 4) : Int).toNat)).bind fun t41 => (if (decide (x6_0.length + ([U32 (t41)] : List Int).length ≤ 1000000000)) = true then (if (decide (0 ≤ x9_0)) = true then (if (decide (x9_0 ≤ (I64 (x9_0 + 8)))) = true then (if (decide ((I64 (x9_0 + 8)) ≤ (a0.length : Int))) = true then ((scrimref9_told.f k ((a0.take (I64 (x9_0 + 8) : Int).toNat).drop (x9_0 : Int).toNat)).bind fun t60 => (if (decide (([t60] : List Int).length + x7_0.length ≤ 1000000000)) = true then (scrimref9_Keys.l0 k a0 (x5_0 ++ ([U32 (t22)] : List Int)) (x6_0 ++ ([U32 (t41)] : List Int)) (([t60] : List Int) ++ x7_0) (I64 (x9_0 + 8))) else (none))) else (none)) else (none)) else (none)) else (none))) else (none)) else (none)) else (none)) else (none))) else (none)) else (none)) else (none)) else (scrimref9_Keys.l1 k x5_0 x6_0 x7_0 ([] : List Int) 0)
def scrimref9_Keys.l1 : Nat → (List Int) → (List Int) → (List Int) → (List Int) → Int → Option (List Int × List Int × Int)
  | 0, _, _, _, _, _ => none
  | k + 1, x5_0, x6_0, x7_0, x8_1, x10_1 => if (decide (x10_1 < 20)) = true then ((scrimref9_H.f k (U32 ((U32 (I64 (2 * x10_1))) * 16843009)) x5_0).bind fun t74 => ((some (U32 ((U32 (I64 ((I64 (2 * x10_1)) + 1))) * 16843009) : Int)).bind fun y75 => ((scrimref9_H.f k y75 x6_0).bind fun t77 => ((scrimref1_Rol32.f k t77 8).bind fun t79 => ((scrimref1_Rol32.f k (U32 (t74 + (U32 (2 * t79)))) 9).bind fun t81 => (if (decide (x8_1.length + ([U32 (t74 + t79), t81] : List Int).length ≤ 1000000000)) = true then (scrimref9_Keys.l1 k x5_0 x6_0 x7_0 (x8_1 ++ ([U32 (t74 + t79), t81] : List Int)) (I64 (x10_1 + 1))) else (none))))))) else (some (x8_1, x7_0, 0))
def scrimref9_Keys.l2 : Nat → (List Int) → (List Int) → (List Int) → (List Int) → Int → Option (List Int × List Int × Int)
  | 0, _, _, _, _, _ => none
  | k + 1, a0, x5_2, x6_2, x7_2, x9_2 => if (decide (x9_2 < (a0.length : Int))) = true then (if (decide (0 ≤ x9_2)) = true then (if (decide (x9_2 ≤ (I64 (x9_2 + 4)))) = true then (if (decide ((I64 (x9_2 + 4)) ≤ (a0.length : Int))) = true then ((scrimref1_Little.f k ((a0.take (I64 (x9_2 + 4) : Int).toNat).drop (x9_2 : Int).toNat)).bind fun t107 => (if (decide (x5_2.length + ([U32 (t107)] : List Int).length ≤ 1000000000)) = true then (if (decide (0 ≤ (I64 (x9_2 + 4)))) = true then (if (decide ((I64 (x9_2 + 4)) ≤ (I64 (x9_2 + 8)))) = true then (if (decide ((I64 (x9_2 + 8)) ≤ (a0.length : Int))) = true then ((scrimref1_Little.f k ((a0.take (I64 (x9_2 + 8) : Int).toNat).drop (I64 (x9_2 + 4) : Int).toNat)).bind fun t126 => (if (decide (x6_2.length + ([U32 (t126)] : List Int).length ≤ 1000000000)) = true then (if (decide (0 ≤ x9_2)) = true then (if (decide (x9_2 ≤ (I64 (x9_2 + 8)))) = true then (if (decide ((I64 (x9_2 + 8)) ≤ (a0.length : Int))) = true then ((scrimref9_told.f k ((a0.take (I64 (x9_2 + 8) : Int).toNat).drop (x9_2 : Int).toNat)).bind fun t145 => (if (decide (([t145] : List Int).length + x7_2.length ≤ 1000000000)) = true then (scrimref9_Keys.l2 k a0 (x5_2 ++ ([U32 (t107)] : List Int)) (x6_2 ++ ([U32 (t126)] : List Int)) (([t145] : List Int) ++ x7_2) (I64 (x9_2 + 8))) else (none))) else (none)) else (none)) else (none)) else (none))) else (none)) else (none)) else (none)) else (none))) else (none)) else (none)) else (none)) else (scrimref9_Keys.l3 k x5_2 x6_2 x7_2 ([] : List Int) 0)
def scrimref9_Keys.l3 : Nat → (List Int) → (List Int) → (List Int) → (List Int) → Int → Option (List Int × List Int × Int)
  | 0, _, _, _, _, _ => none
  | k + 1, x5_2, x6_2, x7_2, x8_3, x10_3 => if (decide (x10_3 < 20)) = true then ((scrimref9_H.f k (U32 ((U32 (I64 (2 * x10_3))) * 16843009)) x5_2).bind fun t159 => ((some (U32 ((U32 (I64 ((I64 (2 * x10_3)) + 1))) * 16843009) : Int)).bind fun y160 => ((scrimref9_H.f k y160 x6_2).bind fun t162 => ((scrimref1_Rol32.f k t162 8).bind fun t164 => ((scrimref1_Rol32.f k (U32 (t159 + (U32 (2 * t164)))) 9).bind fun t166 => (if (decide (x8_3.length + ([U32 (t159 + t164), t166] : List Int).length ≤ 1000000000)) = true then (scrimref9_Keys.l3 k x5_2 x6_2 x7_2 (x8_3 ++ ([U32 (t159 + t164), t166] : List Int)) (I64 (x10_3 + 1))) else (none))))))) else (some (x8_3, x7_2, 0))
def scrimref9_Keys.l4 : Nat → (List Int) → (List Int) → (List Int) → (List Int) → Int → Option (List Int × List Int × Int)
  | 0, _, _, _, _, _ => none
  | k + 1, a0, x5_4, x6_4, x7_4, x9_4 => if (decide (x9_4 < (a0.length : Int))) = true then (if (decide (0 ≤ x9_4)) = true then (if (decide (x9_4 ≤ (I64 (x9_4 + 4)))) = true then (if (decide ((I64 (x9_4 + 4)) ≤ (a0.length : Int))) = true then ((scrimref1_Little.f k ((a0.take (I64 (x9_4 + 4) : Int).toNat).drop (x9_4 : Int).toNat)).bind fun t192 => (if (decide (x5_4.length + ([U32 (t192)] : List Int).length ≤ 1000000000)) = true then (if (decide (0 ≤ (I64 (x9_4 + 4)))) = true then (if (decide ((I64 (x9_4 + 4)) ≤ (I64 (x9_4 + 8)))) = true then (if (decide ((I64 (x9_4 + 8)) ≤ (a0.length : Int))) = true then ((scrimref1_Little.f k ((a0.take (I64 (x9_4 + 8) : Int).toNat).drop (I64 (x9_4 + 4) : Int).toNat)).bind fun t211 => (if (decide (x6_4.length + ([U32 (t211)] : List Int).length ≤ 1000000000)) = true then (if (decide (0 ≤ x9_4)) = true then (if (decide (x9_4 ≤ (I64 (x9_4 + 8)))) = true then (if (decide ((I64 (x9_4 + 8)) ≤ (a0.length : Int))) = true then ((scrimref9_told.f k ((a0.take (I64 (x9_4 + 8) : Int).toNat).drop (x9_4 : Int).toNat)).bind fun t230 => (if (decide (([t230] : List Int).length + x7_4.length ≤ 1000000000)) = true then (scrimref9_Keys.l4 k a0 (x5_4 ++ ([U32 (t192)] : List Int)) (x6_4 ++ ([U32 (t211)] : List Int)) (([t230] : List Int) ++ x7_4) (I64 (x9_4 + 8))) else (none))) else (none)) else (none)) else (none)) else (none))) else (none)) else (none)) else (none)) else (none))) else (none)) else (none)) else (none)) else (scrimref9_Keys.l5 k x5_4 x6_4 x7_4 ([] : List Int) 0)
def scrimref9_Keys.l5 : Nat → (List Int) → (List Int) → (List Int) → (List Int) → Int → Option (List Int × List Int × Int)
  | 0, _, _, _, _, _ => none
  | k + 1, x5_4, x6_4, x7_4, x8_5, x10_5 => if (decide (x10_5 < 20)) = true then ((scrimref9_H.f k (U32 ((U32 (I64 (2 * x10_5))) * 16843009)) x5_4).bind fun t244 => ((some (U32 ((U32 (I64 ((I64 (2 * x10_5)) + 1))) * 16843009) : Int)).bind fun y245 => ((scrimref9_H.f k y245 x6_4).bind fun t247 => ((scrimref1_Rol32.f k t247 8).bind fun t249 => ((scrimref1_Rol32.f k (U32 (t244 + (U32 (2 * t249)))) 9).bind fun t251 => (if (decide (x8_5.length + ([U32 (t244 + t249), t251] : List Int).length ≤ 1000000000)) = true then (scrimref9_Keys.l5 k x5_4 x6_4 x7_4 (x8_5 ++ ([U32 (t244 + t249), t251] : List Int)) (I64 (x10_5 + 1))) else (none))))))) else (some (x8_5, x7_4, 0))
end
def scrimref9_Keys.f (k : Nat) (a0 : List Int) : Option (List Int × List Int × Int) := if ((a0.length : Int) != 16) = true then (if ((a0.length : Int) != 24) = true then (if ((a0.length : Int) != 32) = true then (some (([] : List Int), ([] : List Int), 4)) else (scrimref9_Keys.l0 k a0 ([] : List Int) ([] : List Int) ([] : List Int) 0)) else (scrimref9_Keys.l2 k a0 ([] : List Int) ([] : List Int) ([] : List Int) 0)) else (scrimref9_Keys.l4 k a0 ([] : List Int) ([] : List Int) ([] : List Int) 0)
set_option maxRecDepth 100000 in
set_option maxHeartbeats 8000000 in
theorem scrimref9_Keys.calls (k : Nat) (Ap0 : Option Addr) (np0 cp0 : Nat) (a0 : List Int) (r : List Int × List Int × Int) (w : World) (hr0 : Rd w (.slice Ap0 np0 cp0) (nums .u8 a0)) (h : scrimref9_Keys.f k a0 = some r) :
    Calls Go.Proofs.Try.prog 11 #[(.slice Ap0 np0 cp0)] w (Ret fun v w' => ∃ A0' n0' c0', ∃ A1' n1' c1', v = .tuple #[.slice A0' n0' c0', .slice A1' n1' c1', .int .i64 r.2.2] ∧ Mem w w' [⟨.slice A0' n0' c0', 37, 1, nums .u32 r.1⟩, ⟨.slice A1' n1' c1', 37, 1, nums .u32 r.2.1⟩]) := by
  obtain rfl : a0.length = np0 := by have h_ := hr0.1; simpa [nums_length, bools_length, strs_length] using h_
  unfold scrimref9_Keys.f at h
  refine calls_of [.slice Ap0 a0.length cp0] (fn := Go.Proofs.Try.f11) Go.Proofs.Try.func11 (by kernel_rfl) (by kernel_rfl) ?_
  have hM := Mem.refl w
  refine RunF.go 13 [0, 16] (k' := (pin Go.Proofs.Try.f11 [1, 0, 0] 4)) (L' := [(0, .slice Ap0 a0.length cp0), (16, .bool ((a0.length : Int) != 16))]) (w' := w) (by kernel_rfl) ?_
  rcases two (((a0.length : Int) != 16)) with c1 | c1
  · replace h := of_true h c1
    refine RunF.know 16 (b := true) (by kernel_rfl) c1 ?_
    refine RunF.go 5 [0, 21] (k' := (pin Go.Proofs.Try.f11 [1, 0, 0] 9)) (L' := [(0, .slice Ap0 a0.length cp0), (21, .bool ((a0.length : Int) != 24))]) (w' := w) (by kernel_rfl) ?_
    rcases two (((a0.length : Int) != 24)) with c2 | c2
    · replace h := of_true h c2
      refine RunF.know 21 (b := true) (by kernel_rfl) c2 ?_
      refine RunF.go 5 [0, 25] (k' := (pl Go.Proofs.Try.f11 [1, 0, 1])) (L' := [(0, .slice Ap0 a0.length cp0), (25, .bool ((a0.length : Int) != 32))]) (w' := w) (by kernel_rfl) ?_
      rcases two (((a0.length : Int) != 32)) with c3 | c3
      · replace h := of_true h c3
        refine RunF.know 25 (b := true) (by kernel_rfl) c3 ?_
        refine RunF.go 7 [2, 3, 4] (k' := (pl Go.Proofs.Try.f11 [1, 0, 1, 0, 1])) (L' := [(2, .slice none 0 0), (3, .slice none 0 0), (4, .int .i64 4)]) (w' := w) (by kernel_rfl) ?_
        replace hM := hM.nil 37
        replace hM := hM.nil 37
        obtain rfl := Option.some.inj h
        exact RunF.ret3 2 3 4 (.slice none 0 0) (.slice none 0 0) (.int .i64 4) (fn := Go.Proofs.Try.f11) Go.Proofs.Try.func11 (by kernel_rfl) (by kernel_rfl) (by kernel_rfl) (by kernel_rfl) (by kernel_rfl) ⟨_, rfl, none, 0, 0, none, 0, 0, rfl, (hM.pick [1, 0] rfl rfl)⟩
      · replace h := of_false h c3
        refine RunF.know 25 (b := false) (by kernel_rfl) c3 ?_
        refine RunF.go 16 [0, 5, 6, 7, 8, 9] (k' := (pl Go.Proofs.Try.f11 [1, 1, 1, 0, 1, 0, 0])) (L' := [(0, .slice Ap0 a0.length cp0), (5, .slice none 0 0), (6, .slice none 0 0), (7, .slice none 0 0), (8, .slice none 0 0), (9, .int .i64 0)]) (w' := w) (by kernel_rfl) ?_
        replace hM := hM.nil 37
        replace hM := hM.nil 37
        replace hM := hM.nil 37
        have l0 : ∀ (k_ : Nat), k_ ≤ k → ∀ (A5_0 : Option Addr) (c5_0 : Nat) (x5_0 : List Int) (A6_0 : Option Addr) (c6_0 : Nat) (x6_0 : List Int) (A7_0 : Option Addr) (c7_0 : Nat) (x7_0 : List Int) (x9_0 : Int) (W : World) (hM : Mem w W [⟨.slice A5_0 x5_0.length c5_0, 37, 1, nums .u32 x5_0⟩, ⟨.slice A6_0 x6_0.length c6_0, 37, 1, nums .u32 x6_0⟩, ⟨.slice A7_0 x7_0.length c7_0, 37, 1, nums .u32 x7_0⟩]) (h : scrimref9_Keys.l0 k_ a0 x5_0 x6_0 x7_0 x9_0 = some r), RunF Go.Proofs.Try.prog (Ret fun v w' => ∃ A0' n0' c0', ∃ A1' n1' c1', v = .tuple #[.slice A0' n0' c0', .slice A1' n1' c1', .int .i64 r.2.2] ∧ Mem w w' [⟨.slice A0' n0' c0', 37, 1, nums .u32 r.1⟩, ⟨.slice A1' n1' c1', 37, 1, nums .u32 r.2.1⟩]) 11 (pl Go.Proofs.Try.f11 [1, 1, 1, 0, 1, 0, 0]) 93 [(0, .slice Ap0 a0.length cp0), (5, .slice A5_0 x5_0.length c5_0), (6, .slice A6_0 x6_0.length c6_0), (7, .slice A7_0 x7_0.length c7_0), (8, .slice none 0 0), (9, .int .i64 x9_0)] W := by
          intro k_
          induction k_ using Nat.strongRecOn with
          | _ k_ ih0 =>
            intro hk A5_0 c5_0 x5_0 A6_0 c6_0 x6_0 A7_0 c7_0 x7_0 x9_0 W hM h
            cases k_ with
            | zero => exact absurd h (by simp [scrimref9_Keys.l0])
            | succ k =>
              simp only [scrimref9_Keys.l0] at h
              replace ih0 : ∀ m, m ≤ k → _ := fun m hm => ih0 m (by omega) (by omega)
              refine RunF.go 8 [0, 5, 6, 7, 8, 9, 29] (k' := (pl Go.Proofs.Try.f11 [1, 1, 1, 0, 1, 0, 0, 0, 1])) (L' := [(0, .slice Ap0 a0.length cp0), (5, .slice A5_0 x5_0.length c5_0), (6, .slice A6_0 x6_0.length c6_0), (7, .slice A7_0 x7_0.length c7_0), (8, .slice none 0 0), (9, .int .i64 x9_0), (29, .bool (decide (x9_0 < (a0.length : Int))))]) (w' := W) (by kernel_rfl) ?_
              rcases two (decide (x9_0 < (a0.length : Int))) with c12 | c12
              · replace h := of_true h c12
                refine RunF.know 29 (b := true) (by kernel_rfl) c12 ?_
                refine RunF.go 11 [0, 6, 7, 8, 9, 32, 33, 34, 36] (k' := (pin Go.Proofs.Try.f11 [1, 1, 1, 0, 1, 0, 0, 1, 0, 0, 0] 5)) (L' := [(0, .slice Ap0 a0.length cp0), (6, .slice A6_0 x6_0.length c6_0), (7, .slice A7_0 x7_0.length c7_0), (8, .slice none 0 0), (9, .int .i64 x9_0), (32, .slice A5_0 x5_0.length c5_0), (33, .slice Ap0 a0.length cp0), (34, .int .i64 x9_0), (36, .int .i64 (I64 (x9_0 + 4)))]) (w' := W) (by kernel_rfl) ?_
                rcases two (decide (0 ≤ x9_0)) with c13 | c13
                · replace h := of_true h c13
                  rcases two (decide (x9_0 ≤ (I64 (x9_0 + 4)))) with c14 | c14
                  · replace h := of_true h c14
                    rcases two (decide ((I64 (x9_0 + 4)) ≤ (a0.length : Int))) with c15 | c15
                    · replace h := of_true h c15
                      have zc13 := of_decide_eq_true c13
                      have zc14 := of_decide_eq_true c14
                      have zc15 := of_decide_eq_true c15
                      obtain ⟨A16, n17, c18, hy19, rfl, hs20⟩ := cut (P := Go.Proofs.Try.prog) (n := 93) (k := (pin Go.Proofs.Try.f11 [1, 1, 1, 0, 1, 0, 0, 1, 0, 0, 0] 5)) (L := [(0, .slice Ap0 a0.length cp0), (6, .slice A6_0 x6_0.length c6_0), (7, .slice A7_0 x7_0.length c7_0), (8, .slice none 0 0), (9, .int .i64 x9_0), (32, .slice A5_0 x5_0.length c5_0), (33, .slice Ap0 a0.length cp0), (34, .int .i64 x9_0), (36, .int .i64 (I64 (x9_0 + 4)))]) (d := some 37) (A := Ap0) (m := a0.length) (c := cp0) (l := x9_0) (h := I64 (x9_0 + 4)) (k2 := (pin Go.Proofs.Try.f11 [1, 1, 1, 0, 1, 0, 0, 1, 0, 0, 0] 6)) .u8 a0 (by kernel_rfl) (by omega) (by omega) (by omega) (hr0.mono hM.below)
                      clear zc13
                      clear zc14
                      clear zc15
                      refine RunF.y hy19 trivial ?_
                      obtain ⟨t22, ht22, h⟩ := Option.bind_eq_some_iff.mp h
                      refine RunF.call (d := some 38) (g := 20) (args := #[.slice A16 (((a0.take (I64 (x9_0 + 4) : Int).toNat).drop (x9_0 : Int).toNat).length) c18]) (k2 := (pin Go.Proofs.Try.f11 [1, 1, 1, 0, 1, 0, 0, 1, 0, 0, 0] 7)) (by kernel_rfl) (scrimref1_Little.calls k A16 (((a0.take (I64 (x9_0 + 4) : Int).toNat).drop (x9_0 : Int).toNat).length) c18 ((a0.take (I64 (x9_0 + 4) : Int).toNat).drop (x9_0 : Int).toNat) t22 _ (hs20 _ (hr0.mono hM.below)) ht22) ?_
                      rintro _ W21 ⟨rfl, hM_⟩
                      replace hM := hM.call hM_
                      clear hM_ ht22
                      refine RunF.go 1 [0, 6, 7, 8, 9, 32, 39] (k' := (pin Go.Proofs.Try.f11 [1, 1, 1, 0, 1, 0, 0, 1, 0, 0, 0] 8)) (L' := [(0, .slice Ap0 a0.length cp0), (6, .slice A6_0 x6_0.length c6_0), (7, .slice A7_0 x7_0.length c7_0), (8, .slice none 0 0), (9, .int .i64 x9_0), (32, .slice A5_0 x5_0.length c5_0), (39, .int .u32 (U32 (t22)))]) (w' := W21) (by kernel_rfl) ?_
                      refine RunF.new 37 1 1 (nums .u32 [U32 (t22)]) (d := some 40) (k2 := (pin Go.Proofs.Try.f11 [1, 1, 1, 0, 1, 0, 0, 1, 0, 0, 0] 9)) hM (by simp [nums, bools, strs]) (by kernel_rfl) (by kernel_rfl) ?_
                      replace hM := hM
                      intro g23 W24 hM
                      rcases two (decide (x5_0.length + ([U32 (t22)] : List Int).length ≤ 1000000000)) with c30 | c30
                      · replace h := of_true h c30
                        have h_ := of_decide_eq_true c30
                        obtain ⟨A26, n27, c28, W29, hD, hM', hS_⟩ := app_does (P := Go.Proofs.Try.prog) (n := 93) (k := (pin Go.Proofs.Try.f11 [1, 1, 1, 0, 1, 0, 0, 1, 0, 0, 0] 9)) (L := (upd [(0, .slice Ap0 a0.length cp0), (6, .slice A6_0 x6_0.length c6_0), (7, .slice A7_0 x7_0.length c7_0), (8, .slice none 0 0), (9, .int .i64 x9_0), (32, .slice A5_0 x5_0.length c5_0), (39, .int .u32 (U32 (t22)))] (some 40) (.slice (some ⟨g23, 0, none⟩) 1 1))) (d := some 41) (e := 37) (A := A5_0) (m := x5_0.length) (c := c5_0) (A2 := (some ⟨g23, 0, none⟩)) (m2 := 1) (c2 := 1) (cs := nums .u32 x5_0) (ys := nums .u32 ([U32 (t22)] : List Int)) (k2 := (pin Go.Proofs.Try.f11 [1, 1, 1, 0, 1, 0, 0, 1, 0, 0, 0] 10)) [⟨.slice (some ⟨g23, 0, none⟩) 1 1, 37, 1, nums .u32 [U32 (t22)]⟩] [⟨.slice A6_0 x6_0.length c6_0, 37, 1, nums .u32 x6_0⟩, ⟨.slice A7_0 x7_0.length c7_0, 37, 1, nums .u32 x7_0⟩] (by kernel_rfl) (hM.pick [0, 1, 2, 3] rfl rfl) (hM.rd 0 rfl) (one_nums _ _) (by omega)
                        rw [nums_append] at hM'
                        replace hM := hM'; clear h_ hM'
                        obtain rfl : (x5_0 ++ ([U32 (t22)] : List Int)).length = n27 := by have h_ := (hM.rd 1 rfl).1; simpa only [nums_length, bools_length, strs_length] using h_
                        refine RunF.does hD ?_
                        clear hD hS_
                        refine RunF.go 10 [0, 5, 7, 8, 9, 42, 43, 45, 47] (k' := (pin Go.Proofs.Try.f11 [1, 1, 1, 0, 1, 0, 0, 1, 0, 0, 1, 0] 6)) (L' := [(0, .slice Ap0 a0.length cp0), (5, .slice A26 ((x5_0 ++ ([U32 (t22)] : List Int)).length) c28), (7, .slice A7_0 x7_0.length c7_0), (8, .slice none 0 0), (9, .int .i64 x9_0), (42, .slice A6_0 x6_0.length c6_0), (43, .slice Ap0 a0.length cp0), (45, .int .i64 (I64 (x9_0 + 4))), (47, .int .i64 (I64 (x9_0 + 8)))]) (w' := W29) (by kernel_rfl) ?_
                        rcases two (decide (0 ≤ (I64 (x9_0 + 4)))) with c32 | c32
                        · replace h := of_true h c32
                          rcases two (decide ((I64 (x9_0 + 4)) ≤ (I64 (x9_0 + 8)))) with c33 | c33
                          · replace h := of_true h c33
                            rcases two (decide ((I64 (x9_0 + 8)) ≤ (a0.length : Int))) with c34 | c34
                            · replace h := of_true h c34
                              have zc32 := of_decide_eq_true c32
                              have zc33 := of_decide_eq_true c33
                              have zc34 := of_decide_eq_true c34
                              obtain ⟨A35, n36, c37, hy38, rfl, hs39⟩ := cut (P := Go.Proofs.Try.prog) (n := 93) (k := (pin Go.Proofs.Try.f11 [1, 1, 1, 0, 1, 0, 0, 1, 0, 0, 1, 0] 6)) (L := [(0, .slice Ap0 a0.length cp0), (5, .slice A26 ((x5_0 ++ ([U32 (t22)] : List Int)).length) c28), (7, .slice A7_0 x7_0.length c7_0), (8, .slice none 0 0), (9, .int .i64 x9_0), (42, .slice A6_0 x6_0.length c6_0), (43, .slice Ap0 a0.length cp0), (45, .int .i64 (I64 (x9_0 + 4))), (47, .int .i64 (I64 (x9_0 + 8)))]) (d := some 48) (A := Ap0) (m := a0.length) (c := cp0) (l := I64 (x9_0 + 4)) (h := I64 (x9_0 + 8)) (k2 := (pin Go.Proofs.Try.f11 [1, 1, 1, 0, 1, 0, 0, 1, 0, 0, 1, 0] 7)) .u8 a0 (by kernel_rfl) (by omega) (by omega) (by omega) (hr0.mono hM.below)
                              clear zc32
                              clear zc33
                              clear zc34
                              refine RunF.y hy38 trivial ?_
                              obtain ⟨t41, ht41, h⟩ := Option.bind_eq_some_iff.mp h
                              refine RunF.call (d := some 49) (g := 20) (args := #[.slice A35 (((a0.take (I64 (x9_0 + 8) : Int).toNat).drop (I64 (x9_0 + 4) : Int).toNat).length) c37]) (k2 := (pin Go.Proofs.Try.f11 [1, 1, 1, 0, 1, 0, 0, 1, 0, 0, 1, 0] 8)) (by kernel_rfl) (scrimref1_Little.calls k A35 (((a0.take (I64 (x9_0 + 8) : Int).toNat).drop (I64 (x9_0 + 4) : Int).toNat).length) c37 ((a0.take (I64 (x9_0 + 8) : Int).toNat).drop (I64 (x9_0 + 4) : Int).toNat) t41 _ (hs39 _ (hr0.mono hM.below)) ht41) ?_
                              rintro _ W40 ⟨rfl, hM_⟩
                              replace hM := hM.call hM_
                              clear hM_ ht41
                              refine RunF.go 1 [0, 5, 7, 8, 9, 42, 50] (k' := (pin Go.Proofs.Try.f11 [1, 1, 1, 0, 1, 0, 0, 1, 0, 0, 1, 0] 9)) (L' := [(0, .slice Ap0 a0.length cp0), (5, .slice A26 ((x5_0 ++ ([U32 (t22)] : List Int)).length) c28), (7, .slice A7_0 x7_0.length c7_0), (8, .slice none 0 0), (9, .int .i64 x9_0), (42, .slice A6_0 x6_0.length c6_0), (50, .int .u32 (U32 (t41)))]) (w' := W40) (by kernel_rfl) ?_
                              refine RunF.new 37 1 1 (nums .u32 [U32 (t41)]) (d := some 51) (k2 := (pin Go.Proofs.Try.f11 [1, 1, 1, 0, 1, 0, 0, 1, 0, 0, 1, 0] 10)) hM (by simp [nums, bools, strs]) (by kernel_rfl) (by kernel_rfl) ?_
                              replace hM := hM
                              intro g42 W43 hM
                              rcases two (decide (x6_0.length + ([U32 (t41)] : List Int).length ≤ 1000000000)) with c49 | c49
                              · replace h := of_true h c49
                                have h_ := of_decide_eq_true c49
                                obtain ⟨A45, n46, c47, W48, hD, hM', hS_⟩ := app_does (P := Go.Proofs.Try.prog) (n := 93) (k := (pin Go.Proofs.Try.f11 [1, 1, 1, 0, 1, 0, 0, 1, 0, 0, 1, 0] 10)) (L := (upd [(0, .slice Ap0 a0.length cp0), (5, .slice A26 ((x5_0 ++ ([U32 (t22)] : List Int)).length) c28), (7, .slice A7_0 x7_0.length c7_0), (8, .slice none 0 0), (9, .int .i64 x9_0), (42, .slice A6_0 x6_0.length c6_0), (50, .int .u32 (U32 (t41)))] (some 51) (.slice (some ⟨g42, 0, none⟩) 1 1))) (d := some 52) (e := 37) (A := A6_0) (m := x6_0.length) (c := c6_0) (A2 := (some ⟨g42, 0, none⟩)) (m2 := 1) (c2 := 1) (cs := nums .u32 x6_0) (ys := nums .u32 ([U32 (t41)] : List Int)) (k2 := (pin Go.Proofs.Try.f11 [1, 1, 1, 0, 1, 0, 0, 1, 0, 0, 1, 0] 11)) [⟨.slice (some ⟨g42, 0, none⟩) 1 1, 37, 1, nums .u32 [U32 (t41)]⟩, ⟨.slice (some ⟨g23, 0, none⟩) 1 1, 37, 1, nums .u32 [U32 (t22)]⟩, ⟨.slice A26 ((x5_0 ++ ([U32 (t22)] : List Int)).length) c28, 37, 1, nums .u32 (x5_0 ++ ([U32 (t22)] : List Int))⟩] [⟨.slice A7_0 x7_0.length c7_0, 37, 1, nums .u32 x7_0⟩] (by kernel_rfl) (hM.pick [0, 1, 2, 3, 4] rfl rfl) (hM.rd 0 rfl) (one_nums _ _) (by omega)
                                rw [nums_append] at hM'
                                replace hM := hM'; clear h_ hM'
                                obtain rfl : (x6_0 ++ ([U32 (t41)] : List Int)).length = n46 := by have h_ := (hM.rd 3 rfl).1; simpa only [nums_length, bools_length, strs_length] using h_
                                refine RunF.does hD ?_
                                clear hD hS_
                                refine RunF.go 7 [0, 5, 6, 7, 8, 9, 53, 54, 56] (k' := (pin Go.Proofs.Try.f11 [1, 1, 1, 0, 1, 0, 0, 1, 0, 0, 1, 1] 4)) (L' := [(0, .slice Ap0 a0.length cp0), (5, .slice A26 ((x5_0 ++ ([U32 (t22)] : List Int)).length) c28), (6, .slice A45 ((x6_0 ++ ([U32 (t41)] : List Int)).length) c47), (7, .slice A7_0 x7_0.length c7_0), (8, .slice none 0 0), (9, .int .i64 x9_0), (53, .slice Ap0 a0.length cp0), (54, .int .i64 x9_0), (56, .int .i64 (I64 (x9_0 + 8)))]) (w' := W48) (by kernel_rfl) ?_
                                rcases two (decide (0 ≤ x9_0)) with c51 | c51
                                · replace h := of_true h c51
                                  rcases two (decide (x9_0 ≤ (I64 (x9_0 + 8)))) with c52 | c52
                                  · replace h := of_true h c52
                                    rcases two (decide ((I64 (x9_0 + 8)) ≤ (a0.length : Int))) with c53 | c53
                                    · replace h := of_true h c53
                                      have zc51 := of_decide_eq_true c51
                                      have zc52 := of_decide_eq_true c52
                                      have zc53 := of_decide_eq_true c53
                                      obtain ⟨A54, n55, c56, hy57, rfl, hs58⟩ := cut (P := Go.Proofs.Try.prog) (n := 93) (k := (pin Go.Proofs.Try.f11 [1, 1, 1, 0, 1, 0, 0, 1, 0, 0, 1, 1] 4)) (L := [(0, .slice Ap0 a0.length cp0), (5, .slice A26 ((x5_0 ++ ([U32 (t22)] : List Int)).length) c28), (6, .slice A45 ((x6_0 ++ ([U32 (t41)] : List Int)).length) c47), (7, .slice A7_0 x7_0.length c7_0), (8, .slice none 0 0), (9, .int .i64 x9_0), (53, .slice Ap0 a0.length cp0), (54, .int .i64 x9_0), (56, .int .i64 (I64 (x9_0 + 8)))]) (d := some 57) (A := Ap0) (m := a0.length) (c := cp0) (l := x9_0) (h := I64 (x9_0 + 8)) (k2 := (pin Go.Proofs.Try.f11 [1, 1, 1, 0, 1, 0, 0, 1, 0, 0, 1, 1] 5)) .u8 a0 (by kernel_rfl) (by omega) (by omega) (by omega) (hr0.mono hM.below)
                                      clear zc51
                                      clear zc52
                                      clear zc53
                                      refine RunF.y hy57 trivial ?_
                                      obtain ⟨t60, ht60, h⟩ := Option.bind_eq_some_iff.mp h
                                      refine RunF.call (d := some 58) (g := 29) (args := #[.slice A54 (((a0.take (I64 (x9_0 + 8) : Int).toNat).drop (x9_0 : Int).toNat).length) c56]) (k2 := (pin Go.Proofs.Try.f11 [1, 1, 1, 0, 1, 0, 0, 1, 0, 0, 1, 1] 6)) (by kernel_rfl) (scrimref9_told.calls k A54 (((a0.take (I64 (x9_0 + 8) : Int).toNat).drop (x9_0 : Int).toNat).length) c56 ((a0.take (I64 (x9_0 + 8) : Int).toNat).drop (x9_0 : Int).toNat) t60 _ (hs58 _ (hr0.mono hM.below)) ht60) ?_
                                      rintro _ W59 ⟨rfl, hM_⟩
                                      replace hM := hM.call hM_
                                      clear hM_ ht60
                                      refine RunF.new 37 1 1 (nums .u32 [t60]) (d := some 59) (k2 := (pin Go.Proofs.Try.f11 [1, 1, 1, 0, 1, 0, 0, 1, 0, 0, 1, 1] 7)) hM (by simp [nums, bools, strs]) (by kernel_rfl) (by kernel_rfl) ?_
                                      replace hM := hM
                                      intro g61 W62 hM
                                      refine RunF.go 1 [0, 5, 6, 8, 9, 59, 60] (k' := (pin Go.Proofs.Try.f11 [1, 1, 1, 0, 1, 0, 0, 1, 0, 0, 1, 1] 8)) (L' := [(0, .slice Ap0 a0.length cp0), (5, .slice A26 ((x5_0 ++ ([U32 (t22)] : List Int)).length) c28), (6, .slice A45 ((x6_0 ++ ([U32 (t41)] : List Int)).length) c47), (8, .slice none 0 0), (9, .int .i64 x9_0), (59, .slice (some ⟨g61, 0, none⟩) 1 1), (60, .slice A7_0 x7_0.length c7_0)]) (w' := W62) (by kernel_rfl) ?_
                                      rcases two (decide (([t60] : List Int).length + x7_0.length ≤ 1000000000)) with c68 | c68
                                      · replace h := of_true h c68
                                        have h_ := of_decide_eq_true c68
                                        obtain ⟨A64, n65, c66, W67, hD, hM', hS_⟩ := app_does (P := Go.Proofs.Try.prog) (n := 93) (k := (pin Go.Proofs.Try.f11 [1, 1, 1, 0, 1, 0, 0, 1, 0, 0, 1, 1] 8)) (L := [(0, .slice Ap0 a0.length cp0), (5, .slice A26 ((x5_0 ++ ([U32 (t22)] : List Int)).length) c28), (6, .slice A45 ((x6_0 ++ ([U32 (t41)] : List Int)).length) c47), (8, .slice none 0 0), (9, .int .i64 x9_0), (59, .slice (some ⟨g61, 0, none⟩) 1 1), (60, .slice A7_0 x7_0.length c7_0)]) (d := some 61) (e := 37) (A := (some ⟨g61, 0, none⟩)) (m := 1) (c := 1) (A2 := A7_0) (m2 := x7_0.length) (c2 := c7_0) (cs := nums .u32 ([t60] : List Int)) (ys := nums .u32 x7_0) (k2 := (pin Go.Proofs.Try.f11 [1, 1, 1, 0, 1, 0, 0, 1, 0, 0, 1, 1] 9)) [] [⟨.slice (some ⟨g42, 0, none⟩) 1 1, 37, 1, nums .u32 [U32 (t41)]⟩, ⟨.slice (some ⟨g23, 0, none⟩) 1 1, 37, 1, nums .u32 [U32 (t22)]⟩, ⟨.slice A26 ((x5_0 ++ ([U32 (t22)] : List Int)).length) c28, 37, 1, nums .u32 (x5_0 ++ ([U32 (t22)] : List Int))⟩, ⟨.slice A45 ((x6_0 ++ ([U32 (t41)] : List Int)).length) c47, 37, 1, nums .u32 (x6_0 ++ ([U32 (t41)] : List Int))⟩, ⟨.slice A7_0 x7_0.length c7_0, 37, 1, nums .u32 x7_0⟩] (by kernel_rfl) (hM.pick [0, 1, 2, 3, 4, 5] rfl rfl) (hM.rd 5 rfl) (one_nums _ _) (by omega)
                                        rw [nums_append] at hM'
                                        replace hM := hM'; clear h_ hM'
                                        obtain rfl : (([t60] : List Int) ++ x7_0).length = n65 := by have h_ := (hM.rd 0 rfl).1; simpa only [nums_length, bools_length, strs_length] using h_
                                        refine RunF.does hD ?_
                                        clear hD hS_
                                        refine RunF.go 9 [0, 5, 6, 7, 8, 9] (k' := (pl Go.Proofs.Try.f11 [1, 1, 1, 0, 1, 0, 0])) (L' := [(0, .slice Ap0 a0.length cp0), (5, .slice A26 ((x5_0 ++ ([U32 (t22)] : List Int)).length) c28), (6, .slice A45 ((x6_0 ++ ([U32 (t41)] : List Int)).length) c47), (7, .slice A64 ((([t60] : List Int) ++ x7_0).length) c66), (8, .slice none 0 0), (9, .int .i64 (I64 (x9_0 + 8)))]) (w' := W67) (by kernel_rfl) ?_
                                        exact ih0 k (by omega) A26 c28 (x5_0 ++ ([U32 (t22)] : List Int)) A45 c47 (x6_0 ++ ([U32 (t41)] : List Int)) A64 c66 (([t60] : List Int) ++ x7_0) (I64 (x9_0 + 8)) _ (hM.pick [3, 4, 0] rfl rfl) h
                                      · replace h := of_false h c68
                                        cases h
                                    · replace h := of_false h c53
                                      cases h
                                  · replace h := of_false h c52
                                    cases h
                                · replace h := of_false h c51
                                  cases h
                              · replace h := of_false h c49
                                cases h
                            · replace h := of_false h c34
                              cases h
                          · replace h := of_false h c33
                            cases h
                        · replace h := of_false h c32
                          cases h
                      · replace h := of_false h c30
                        cases h
                    · replace h := of_false h c15
                      cases h
                  · replace h := of_false h c14
                    cases h
                · replace h := of_false h c13
                  cases h
              · replace h := of_false h c12
                refine RunF.know 29 (b := false) (by kernel_rfl) c12 ?_
                refine RunF.go 9 [5, 6, 7, 8, 10] (k' := (pl Go.Proofs.Try.f11 [1, 1, 1, 1, 0, 1, 0, 0])) (L' := [(5, .slice A5_0 x5_0.length c5_0), (6, .slice A6_0 x6_0.length c6_0), (7, .slice A7_0 x7_0.length c7_0), (8, .slice none 0 0), (10, .int .i64 0)]) (w' := W) (by kernel_rfl) ?_
                replace hM := hM.nil 37
                have l1 : ∀ (k_ : Nat), k_ ≤ k → ∀ (A8_1 : Option Addr) (c8_1 : Nat) (x8_1 : List Int) (x10_1 : Int) (W : World) (hM : Mem w W [⟨.slice A5_0 x5_0.length c5_0, 37, 1, nums .u32 x5_0⟩, ⟨.slice A6_0 x6_0.length c6_0, 37, 1, nums .u32 x6_0⟩, ⟨.slice A7_0 x7_0.length c7_0, 37, 1, nums .u32 x7_0⟩, ⟨.slice A8_1 x8_1.length c8_1, 37, 1, nums .u32 x8_1⟩]) (h : scrimref9_Keys.l1 k_ x5_0 x6_0 x7_0 x8_1 x10_1 = some r), RunF Go.Proofs.Try.prog (Ret fun v w' => ∃ A0' n0' c0', ∃ A1' n1' c1', v = .tuple #[.slice A0' n0' c0', .slice A1' n1' c1', .int .i64 r.2.2] ∧ Mem w w' [⟨.slice A0' n0' c0', 37, 1, nums .u32 r.1⟩, ⟨.slice A1' n1' c1', 37, 1, nums .u32 r.2.1⟩]) 11 (pl Go.Proofs.Try.f11 [1, 1, 1, 1, 0, 1, 0, 0]) 93 [(5, .slice A5_0 x5_0.length c5_0), (6, .slice A6_0 x6_0.length c6_0), (7, .slice A7_0 x7_0.length c7_0), (8, .slice A8_1 x8_1.length c8_1), (10, .int .i64 x10_1)] W := by
                  intro k_
                  induction k_ using Nat.strongRecOn with
                  | _ k_ ih1 =>
                    intro hk A8_1 c8_1 x8_1 x10_1 W hM h
                    cases k_ with
                    | zero => exact absurd h (by simp [scrimref9_Keys.l1])
                    | succ k =>
                      simp only [scrimref9_Keys.l1] at h
                      replace ih1 : ∀ m, m ≤ k → _ := fun m hm => ih1 m (by omega) (by omega)
                      replace ih0 : ∀ m, m ≤ k → _ := fun m hm => ih0 m (by omega)
                      refine RunF.go 6 [5, 6, 7, 8, 10, 63] (k' := (pl Go.Proofs.Try.f11 [1, 1, 1, 1, 0, 1, 0, 0, 0, 1])) (L' := [(5, .slice A5_0 x5_0.length c5_0), (6, .slice A6_0 x6_0.length c6_0), (7, .slice A7_0 x7_0.length c7_0), (8, .slice A8_1 x8_1.length c8_1), (10, .int .i64 x10_1), (63, .bool (decide (x10_1 < 20)))]) (w' := W) (by kernel_rfl) ?_
                      rcases two (decide (x10_1 < 20)) with c72 | c72
                      · replace h := of_true h c72
                        refine RunF.know 63 (b := true) (by kernel_rfl) c72 ?_
                        refine RunF.go 11 [5, 6, 7, 8, 10, 69, 70] (k' := (pin Go.Proofs.Try.f11 [1, 1, 1, 1, 0, 1, 0, 0, 1, 0, 0, 0] 5)) (L' := [(5, .slice A5_0 x5_0.length c5_0), (6, .slice A6_0 x6_0.length c6_0), (7, .slice A7_0 x7_0.length c7_0), (8, .slice A8_1 x8_1.length c8_1), (10, .int .i64 x10_1), (69, .int .u32 (U32 ((U32 (I64 (2 * x10_1))) * 16843009))), (70, .slice A5_0 x5_0.length c5_0)]) (w' := W) (by kernel_rfl) ?_
                        obtain ⟨t74, ht74, h⟩ := Option.bind_eq_some_iff.mp h
                        refine RunF.call (d := some 71) (g := 17) (args := #[.int .u32 (U32 ((U32 (I64 (2 * x10_1))) * 16843009)), .slice A5_0 x5_0.length c5_0]) (k2 := (pin Go.Proofs.Try.f11 [1, 1, 1, 1, 0, 1, 0, 0, 1, 0, 0, 0] 6)) (by kernel_rfl) (scrimref9_H.calls k (U32 ((U32 (I64 (2 * x10_1))) * 16843009)) A5_0 x5_0.length c5_0 x5_0 t74 _ (hM.rd 0 rfl) ht74) ?_
                        rintro _ W73 ⟨rfl, hM_⟩
                        replace hM := hM.call hM_
                        clear hM_ ht74
                        refine RunF.go 10 [5, 6, 7, 8, 10, 11, 76, 77] (k' := (pin Go.Proofs.Try.f11 [1, 1, 1, 1, 0, 1, 0, 0, 1, 0, 0, 1, 0] 6)) (L' := [(5, .slice A5_0 x5_0.length c5_0), (6, .slice A6_0 x6_0.length c6_0), (7, .slice A7_0 x7_0.length c7_0), (8, .slice A8_1 x8_1.length c8_1), (10, .int .i64 x10_1), (11, .int .u32 t74), (76, .int .u32 (U32 ((U32 (I64 ((I64 (2 * x10_1)) + 1))) * 16843009))), (77, .slice A6_0 x6_0.length c6_0)]) (w' := W73) (by kernel_rfl) ?_
                        obtain ⟨y75, hy, h⟩ := Option.bind_eq_some_iff.mp h
                        rw [show (U32 ((U32 (I64 ((I64 (2 * x10_1)) + 1))) * 16843009)) = y75 from Option.some.inj hy]
                        clear hy
                        obtain ⟨t77, ht77, h⟩ := Option.bind_eq_some_iff.mp h
                        refine RunF.call (d := some 78) (g := 17) (args := #[.int .u32 y75, .slice A6_0 x6_0.length c6_0]) (k2 := (pin Go.Proofs.Try.f11 [1, 1, 1, 1, 0, 1, 0, 0, 1, 0, 0, 1, 0] 7)) (by kernel_rfl) (scrimref9_H.calls k y75 A6_0 x6_0.length c6_0 x6_0 t77 _ (hM.rd 1 rfl) ht77) ?_
                        rintro _ W76 ⟨rfl, hM_⟩
                        replace hM := hM.call hM_
                        clear hM_ ht77
                        obtain ⟨t79, ht79, h⟩ := Option.bind_eq_some_iff.mp h
                        refine RunF.call (d := some 79) (g := 21) (args := #[.int .u32 t77, .int .i64 8]) (k2 := (pin Go.Proofs.Try.f11 [1, 1, 1, 1, 0, 1, 0, 0, 1, 0, 0, 1, 0] 8)) (by kernel_rfl) (scrimref1_Rol32.calls k t77 8 t79 _ ht79) ?_
                        rintro _ W78 ⟨rfl, hM_⟩
                        replace hM := hM.call hM_
                        clear hM_ ht79
                        refine RunF.go 11 [5, 6, 7, 10, 80, 83, 87] (k' := (pin Go.Proofs.Try.f11 [1, 1, 1, 1, 0, 1, 0, 0, 1, 0, 0, 1, 1] 8)) (L' := [(5, .slice A5_0 x5_0.length c5_0), (6, .slice A6_0 x6_0.length c6_0), (7, .slice A7_0 x7_0.length c7_0), (10, .int .i64 x10_1), (80, .slice A8_1 x8_1.length c8_1), (83, .int .u32 (U32 (t74 + t79))), (87, .int .u32 (U32 (t74 + (U32 (2 * t79)))))]) (w' := W78) (by kernel_rfl) ?_
                        obtain ⟨t81, ht81, h⟩ := Option.bind_eq_some_iff.mp h
                        refine RunF.call (d := some 88) (g := 21) (args := #[.int .u32 (U32 (t74 + (U32 (2 * t79)))), .int .i64 9]) (k2 := (pin Go.Proofs.Try.f11 [1, 1, 1, 1, 0, 1, 0, 0, 1, 0, 0, 1, 1] 9)) (by kernel_rfl) (scrimref1_Rol32.calls k (U32 (t74 + (U32 (2 * t79)))) 9 t81 _ ht81) ?_
                        rintro _ W80 ⟨rfl, hM_⟩
                        replace hM := hM.call hM_
                        clear hM_ ht81
                        refine RunF.new 37 1 2 (nums .u32 [U32 (t74 + t79), t81]) (d := some 89) (k2 := (pin Go.Proofs.Try.f11 [1, 1, 1, 1, 0, 1, 0, 0, 1, 0, 0, 1, 1] 10)) hM (by simp [nums, bools, strs]) (by kernel_rfl) (by kernel_rfl) ?_
                        replace hM := hM
                        intro g82 W83 hM
                        rcases two (decide (x8_1.length + ([U32 (t74 + t79), t81] : List Int).length ≤ 1000000000)) with c89 | c89
                        · replace h := of_true h c89
                          have h_ := of_decide_eq_true c89
                          obtain ⟨A85, n86, c87, W88, hD, hM', hS_⟩ := app_does (P := Go.Proofs.Try.prog) (n := 93) (k := (pin Go.Proofs.Try.f11 [1, 1, 1, 1, 0, 1, 0, 0, 1, 0, 0, 1, 1] 10)) (L := (upd (upd [(5, .slice A5_0 x5_0.length c5_0), (6, .slice A6_0 x6_0.length c6_0), (7, .slice A7_0 x7_0.length c7_0), (10, .int .i64 x10_1), (80, .slice A8_1 x8_1.length c8_1), (83, .int .u32 (U32 (t74 + t79))), (87, .int .u32 (U32 (t74 + (U32 (2 * t79)))))] (some 88) (.int .u32 t81)) (some 89) (.slice (some ⟨g82, 0, none⟩) 2 2))) (d := some 90) (e := 37) (A := A8_1) (m := x8_1.length) (c := c8_1) (A2 := (some ⟨g82, 0, none⟩)) (m2 := 2) (c2 := 2) (cs := nums .u32 x8_1) (ys := nums .u32 ([U32 (t74 + t79), t81] : List Int)) (k2 := (pin Go.Proofs.Try.f11 [1, 1, 1, 1, 0, 1, 0, 0, 1, 0, 0, 1, 1] 11)) [⟨.slice (some ⟨g82, 0, none⟩) 2 2, 37, 1, nums .u32 [U32 (t74 + t79), t81]⟩, ⟨.slice A5_0 x5_0.length c5_0, 37, 1, nums .u32 x5_0⟩, ⟨.slice A6_0 x6_0.length c6_0, 37, 1, nums .u32 x6_0⟩, ⟨.slice A7_0 x7_0.length c7_0, 37, 1, nums .u32 x7_0⟩] [] (by kernel_rfl) (hM.pick [0, 1, 2, 3, 4] rfl rfl) (hM.rd 0 rfl) (one_nums _ _) (by omega)
                          rw [nums_append] at hM'
                          replace hM := hM'; clear h_ hM'
                          obtain rfl : (x8_1 ++ ([U32 (t74 + t79), t81] : List Int)).length = n86 := by have h_ := (hM.rd 4 rfl).1; simpa only [nums_length, bools_length, strs_length] using h_
                          refine RunF.does hD ?_
                          clear hD hS_
                          refine RunF.go 9 [5, 6, 7, 8, 10] (k' := (pl Go.Proofs.Try.f11 [1, 1, 1, 1, 0, 1, 0, 0])) (L' := [(5, .slice A5_0 x5_0.length c5_0), (6, .slice A6_0 x6_0.length c6_0), (7, .slice A7_0 x7_0.length c7_0), (8, .slice A85 ((x8_1 ++ ([U32 (t74 + t79), t81] : List Int)).length) c87), (10, .int .i64 (I64 (x10_1 + 1)))]) (w' := W88) (by kernel_rfl) ?_
                          exact ih1 k (by omega) A85 c87 (x8_1 ++ ([U32 (t74 + t79), t81] : List Int)) (I64 (x10_1 + 1)) _ (hM.pick [1, 2, 3, 4] rfl rfl) h
                        · replace h := of_false h c89
                          cases h
                      · replace h := of_false h c72
                        refine RunF.know 63 (b := false) (by kernel_rfl) c72 ?_
                        refine RunF.go 10 [2, 3, 4] (k' := (pl Go.Proofs.Try.f11 [1, 1, 1, 1, 1, 1])) (L' := [(2, .slice A8_1 x8_1.length c8_1), (3, .slice A7_0 x7_0.length c7_0), (4, .int .i64 0)]) (w' := W) (by kernel_rfl) ?_
                        obtain rfl := Option.some.inj h
                        exact RunF.ret3 2 3 4 (.slice A8_1 x8_1.length c8_1) (.slice A7_0 x7_0.length c7_0) (.int .i64 0) (fn := Go.Proofs.Try.f11) Go.Proofs.Try.func11 (by kernel_rfl) (by kernel_rfl) (by kernel_rfl) (by kernel_rfl) (by kernel_rfl) ⟨_, rfl, A8_1, x8_1.length, c8_1, A7_0, x7_0.length, c7_0, rfl, (hM.pick [3, 2] rfl rfl)⟩
                exact l1 k (Nat.le_refl _) none 0 ([] : List Int) 0 _ (hM.pick [1, 2, 3, 0] rfl rfl) h
        exact l0 k (Nat.le_refl _) none 0 ([] : List Int) none 0 ([] : List Int) none 0 ([] : List Int) 0 _ (hM.pick [2, 1, 0] rfl rfl) h
    · replace h := of_false h c2
      refine RunF.know 21 (b := false) (by kernel_rfl) c2 ?_
      refine RunF.go 21 [0, 5, 6, 7, 8, 9] (k' := (pl Go.Proofs.Try.f11 [1, 1, 1, 0, 1, 0, 0])) (L' := [(0, .slice Ap0 a0.length cp0), (5, .slice none 0 0), (6, .slice none 0 0), (7, .slice none 0 0), (8, .slice none 0 0), (9, .int .i64 0)]) (w' := w) (by kernel_rfl) ?_
      replace hM := hM.nil 37
      replace hM := hM.nil 37
      replace hM := hM.nil 37
      have l2 : ∀ (k_ : Nat), k_ ≤ k → ∀ (A5_2 : Option Addr) (c5_2 : Nat) (x5_2 : List Int) (A6_2 : Option Addr) (c6_2 : Nat) (x6_2 : List Int) (A7_2 : Option Addr) (c7_2 : Nat) (x7_2 : List Int) (x9_2 : Int) (W : World) (hM : Mem w W [⟨.slice A5_2 x5_2.length c5_2, 37, 1, nums .u32 x5_2⟩, ⟨.slice A6_2 x6_2.length c6_2, 37, 1, nums .u32 x6_2⟩, ⟨.slice A7_2 x7_2.length c7_2, 37, 1, nums .u32 x7_2⟩]) (h : scrimref9_Keys.l2 k_ a0 x5_2 x6_2 x7_2 x9_2 = some r), RunF Go.Proofs.Try.prog (Ret fun v w' => ∃ A0' n0' c0', ∃ A1' n1' c1', v = .tuple #[.slice A0' n0' c0', .slice A1' n1' c1', .int .i64 r.2.2] ∧ Mem w w' [⟨.slice A0' n0' c0', 37, 1, nums .u32 r.1⟩, ⟨.slice A1' n1' c1', 37, 1, nums .u32 r.2.1⟩]) 11 (pl Go.Proofs.Try.f11 [1, 1, 1, 0, 1, 0, 0]) 93 [(0, .slice Ap0 a0.length cp0), (5, .slice A5_2 x5_2.length c5_2), (6, .slice A6_2 x6_2.length c6_2), (7, .slice A7_2 x7_2.length c7_2), (8, .slice none 0 0), (9, .int .i64 x9_2)] W := by
        intro k_
        induction k_ using Nat.strongRecOn with
        | _ k_ ih2 =>
          intro hk A5_2 c5_2 x5_2 A6_2 c6_2 x6_2 A7_2 c7_2 x7_2 x9_2 W hM h
          cases k_ with
          | zero => exact absurd h (by simp [scrimref9_Keys.l2])
          | succ k =>
            simp only [scrimref9_Keys.l2] at h
            replace ih2 : ∀ m, m ≤ k → _ := fun m hm => ih2 m (by omega) (by omega)
            refine RunF.go 8 [0, 5, 6, 7, 8, 9, 29] (k' := (pl Go.Proofs.Try.f11 [1, 1, 1, 0, 1, 0, 0, 0, 1])) (L' := [(0, .slice Ap0 a0.length cp0), (5, .slice A5_2 x5_2.length c5_2), (6, .slice A6_2 x6_2.length c6_2), (7, .slice A7_2 x7_2.length c7_2), (8, .slice none 0 0), (9, .int .i64 x9_2), (29, .bool (decide (x9_2 < (a0.length : Int))))]) (w' := W) (by kernel_rfl) ?_
            rcases two (decide (x9_2 < (a0.length : Int))) with c97 | c97
            · replace h := of_true h c97
              refine RunF.know 29 (b := true) (by kernel_rfl) c97 ?_
              refine RunF.go 11 [0, 6, 7, 8, 9, 32, 33, 34, 36] (k' := (pin Go.Proofs.Try.f11 [1, 1, 1, 0, 1, 0, 0, 1, 0, 0, 0] 5)) (L' := [(0, .slice Ap0 a0.length cp0), (6, .slice A6_2 x6_2.length c6_2), (7, .slice A7_2 x7_2.length c7_2), (8, .slice none 0 0), (9, .int .i64 x9_2), (32, .slice A5_2 x5_2.length c5_2), (33, .slice Ap0 a0.length cp0), (34, .int .i64 x9_2), (36, .int .i64 (I64 (x9_2 + 4)))]) (w' := W) (by kernel_rfl) ?_
              rcases two (decide (0 ≤ x9_2)) with c98 | c98
              · replace h := of_true h c98
                rcases two (decide (x9_2 ≤ (I64 (x9_2 + 4)))) with c99 | c99
                · replace h := of_true h c99
                  rcases two (decide ((I64 (x9_2 + 4)) ≤ (a0.length : Int))) with c100 | c100
                  · replace h := of_true h c100
                    have zc98 := of_decide_eq_true c98
                    have zc99 := of_decide_eq_true c99
                    have zc100 := of_decide_eq_true c100
                    obtain ⟨A101, n102, c103, hy104, rfl, hs105⟩ := cut (P := Go.Proofs.Try.prog) (n := 93) (k := (pin Go.Proofs.Try.f11 [1, 1, 1, 0, 1, 0, 0, 1, 0, 0, 0] 5)) (L := [(0, .slice Ap0 a0.length cp0), (6, .slice A6_2 x6_2.length c6_2), (7, .slice A7_2 x7_2.length c7_2), (8, .slice none 0 0), (9, .int .i64 x9_2), (32, .slice A5_2 x5_2.length c5_2), (33, .slice Ap0 a0.length cp0), (34, .int .i64 x9_2), (36, .int .i64 (I64 (x9_2 + 4)))]) (d := some 37) (A := Ap0) (m := a0.length) (c := cp0) (l := x9_2) (h := I64 (x9_2 + 4)) (k2 := (pin Go.Proofs.Try.f11 [1, 1, 1, 0, 1, 0, 0, 1, 0, 0, 0] 6)) .u8 a0 (by kernel_rfl) (by omega) (by omega) (by omega) (hr0.mono hM.below)
                    clear zc98
                    clear zc99
                    clear zc100
                    refine RunF.y hy104 trivial ?_
                    obtain ⟨t107, ht107, h⟩ := Option.bind_eq_some_iff.mp h
                    refine RunF.call (d := some 38) (g := 20) (args := #[.slice A101 (((a0.take (I64 (x9_2 + 4) : Int).toNat).drop (x9_2 : Int).toNat).length) c103]) (k2 := (pin Go.Proofs.Try.f11 [1, 1, 1, 0, 1, 0, 0, 1, 0, 0, 0] 7)) (by kernel_rfl) (scrimref1_Little.calls k A101 (((a0.take (I64 (x9_2 + 4) : Int).toNat).drop (x9_2 : Int).toNat).length) c103 ((a0.take (I64 (x9_2 + 4) : Int).toNat).drop (x9_2 : Int).toNat) t107 _ (hs105 _ (hr0.mono hM.below)) ht107) ?_
                    rintro _ W106 ⟨rfl, hM_⟩
                    replace hM := hM.call hM_
                    clear hM_ ht107
                    refine RunF.go 1 [0, 6, 7, 8, 9, 32, 39] (k' := (pin Go.Proofs.Try.f11 [1, 1, 1, 0, 1, 0, 0, 1, 0, 0, 0] 8)) (L' := [(0, .slice Ap0 a0.length cp0), (6, .slice A6_2 x6_2.length c6_2), (7, .slice A7_2 x7_2.length c7_2), (8, .slice none 0 0), (9, .int .i64 x9_2), (32, .slice A5_2 x5_2.length c5_2), (39, .int .u32 (U32 (t107)))]) (w' := W106) (by kernel_rfl) ?_
                    refine RunF.new 37 1 1 (nums .u32 [U32 (t107)]) (d := some 40) (k2 := (pin Go.Proofs.Try.f11 [1, 1, 1, 0, 1, 0, 0, 1, 0, 0, 0] 9)) hM (by simp [nums, bools, strs]) (by kernel_rfl) (by kernel_rfl) ?_
                    replace hM := hM
                    intro g108 W109 hM
                    rcases two (decide (x5_2.length + ([U32 (t107)] : List Int).length ≤ 1000000000)) with c115 | c115
                    · replace h := of_true h c115
                      have h_ := of_decide_eq_true c115
                      obtain ⟨A111, n112, c113, W114, hD, hM', hS_⟩ := app_does (P := Go.Proofs.Try.prog) (n := 93) (k := (pin Go.Proofs.Try.f11 [1, 1, 1, 0, 1, 0, 0, 1, 0, 0, 0] 9)) (L := (upd [(0, .slice Ap0 a0.length cp0), (6, .slice A6_2 x6_2.length c6_2), (7, .slice A7_2 x7_2.length c7_2), (8, .slice none 0 0), (9, .int .i64 x9_2), (32, .slice A5_2 x5_2.length c5_2), (39, .int .u32 (U32 (t107)))] (some 40) (.slice (some ⟨g108, 0, none⟩) 1 1))) (d := some 41) (e := 37) (A := A5_2) (m := x5_2.length) (c := c5_2) (A2 := (some ⟨g108, 0, none⟩)) (m2 := 1) (c2 := 1) (cs := nums .u32 x5_2) (ys := nums .u32 ([U32 (t107)] : List Int)) (k2 := (pin Go.Proofs.Try.f11 [1, 1, 1, 0, 1, 0, 0, 1, 0, 0, 0] 10)) [⟨.slice (some ⟨g108, 0, none⟩) 1 1, 37, 1, nums .u32 [U32 (t107)]⟩] [⟨.slice A6_2 x6_2.length c6_2, 37, 1, nums .u32 x6_2⟩, ⟨.slice A7_2 x7_2.length c7_2, 37, 1, nums .u32 x7_2⟩] (by kernel_rfl) (hM.pick [0, 1, 2, 3] rfl rfl) (hM.rd 0 rfl) (one_nums _ _) (by omega)
                      rw [nums_append] at hM'
                      replace hM := hM'; clear h_ hM'
                      obtain rfl : (x5_2 ++ ([U32 (t107)] : List Int)).length = n112 := by have h_ := (hM.rd 1 rfl).1; simpa only [nums_length, bools_length, strs_length] using h_
                      refine RunF.does hD ?_
                      clear hD hS_
                      refine RunF.go 10 [0, 5, 7, 8, 9, 42, 43, 45, 47] (k' := (pin Go.Proofs.Try.f11 [1, 1, 1, 0, 1, 0, 0, 1, 0, 0, 1, 0] 6)) (L' := [(0, .slice Ap0 a0.length cp0), (5, .slice A111 ((x5_2 ++ ([U32 (t107)] : List Int)).length) c113), (7, .slice A7_2 x7_2.length c7_2), (8, .slice none 0 0), (9, .int .i64 x9_2), (42, .slice A6_2 x6_2.length c6_2), (43, .slice Ap0 a0.length cp0), (45, .int .i64 (I64 (x9_2 + 4))), (47, .int .i64 (I64 (x9_2 + 8)))]) (w' := W114) (by kernel_rfl) ?_
                      rcases two (decide (0 ≤ (I64 (x9_2 + 4)))) with c117 | c117
                      · replace h := of_true h c117
                        rcases two (decide ((I64 (x9_2 + 4)) ≤ (I64 (x9_2 + 8)))) with c118 | c118
                        · replace h := of_true h c118
                          rcases two (decide ((I64 (x9_2 + 8)) ≤ (a0.length : Int))) with c119 | c119
                          · replace h := of_true h c119
                            have zc117 := of_decide_eq_true c117
                            have zc118 := of_decide_eq_true c118
                            have zc119 := of_decide_eq_true c119
                            obtain ⟨A120, n121, c122, hy123, rfl, hs124⟩ := cut (P := Go.Proofs.Try.prog) (n := 93) (k := (pin Go.Proofs.Try.f11 [1, 1, 1, 0, 1, 0, 0, 1, 0, 0, 1, 0] 6)) (L := [(0, .slice Ap0 a0.length cp0), (5, .slice A111 ((x5_2 ++ ([U32 (t107)] : List Int)).length) c113), (7, .slice A7_2 x7_2.length c7_2), (8, .slice none 0 0), (9, .int .i64 x9_2), (42, .slice A6_2 x6_2.length c6_2), (43, .slice Ap0 a0.length cp0), (45, .int .i64 (I64 (x9_2 + 4))), (47, .int .i64 (I64 (x9_2 + 8)))]) (d := some 48) (A := Ap0) (m := a0.length) (c := cp0) (l := I64 (x9_2 + 4)) (h := I64 (x9_2 + 8)) (k2 := (pin Go.Proofs.Try.f11 [1, 1, 1, 0, 1, 0, 0, 1, 0, 0, 1, 0] 7)) .u8 a0 (by kernel_rfl) (by omega) (by omega) (by omega) (hr0.mono hM.below)
                            clear zc117
                            clear zc118
                            clear zc119
                            refine RunF.y hy123 trivial ?_
                            obtain ⟨t126, ht126, h⟩ := Option.bind_eq_some_iff.mp h
                            refine RunF.call (d := some 49) (g := 20) (args := #[.slice A120 (((a0.take (I64 (x9_2 + 8) : Int).toNat).drop (I64 (x9_2 + 4) : Int).toNat).length) c122]) (k2 := (pin Go.Proofs.Try.f11 [1, 1, 1, 0, 1, 0, 0, 1, 0, 0, 1, 0] 8)) (by kernel_rfl) (scrimref1_Little.calls k A120 (((a0.take (I64 (x9_2 + 8) : Int).toNat).drop (I64 (x9_2 + 4) : Int).toNat).length) c122 ((a0.take (I64 (x9_2 + 8) : Int).toNat).drop (I64 (x9_2 + 4) : Int).toNat) t126 _ (hs124 _ (hr0.mono hM.below)) ht126) ?_
                            rintro _ W125 ⟨rfl, hM_⟩
                            replace hM := hM.call hM_
                            clear hM_ ht126
                            refine RunF.go 1 [0, 5, 7, 8, 9, 42, 50] (k' := (pin Go.Proofs.Try.f11 [1, 1, 1, 0, 1, 0, 0, 1, 0, 0, 1, 0] 9)) (L' := [(0, .slice Ap0 a0.length cp0), (5, .slice A111 ((x5_2 ++ ([U32 (t107)] : List Int)).length) c113), (7, .slice A7_2 x7_2.length c7_2), (8, .slice none 0 0), (9, .int .i64 x9_2), (42, .slice A6_2 x6_2.length c6_2), (50, .int .u32 (U32 (t126)))]) (w' := W125) (by kernel_rfl) ?_
                            refine RunF.new 37 1 1 (nums .u32 [U32 (t126)]) (d := some 51) (k2 := (pin Go.Proofs.Try.f11 [1, 1, 1, 0, 1, 0, 0, 1, 0, 0, 1, 0] 10)) hM (by simp [nums, bools, strs]) (by kernel_rfl) (by kernel_rfl) ?_
                            replace hM := hM
                            intro g127 W128 hM
                            rcases two (decide (x6_2.length + ([U32 (t126)] : List Int).length ≤ 1000000000)) with c134 | c134
                            · replace h := of_true h c134
                              have h_ := of_decide_eq_true c134
                              obtain ⟨A130, n131, c132, W133, hD, hM', hS_⟩ := app_does (P := Go.Proofs.Try.prog) (n := 93) (k := (pin Go.Proofs.Try.f11 [1, 1, 1, 0, 1, 0, 0, 1, 0, 0, 1, 0] 10)) (L := (upd [(0, .slice Ap0 a0.length cp0), (5, .slice A111 ((x5_2 ++ ([U32 (t107)] : List Int)).length) c113), (7, .slice A7_2 x7_2.length c7_2), (8, .slice none 0 0), (9, .int .i64 x9_2), (42, .slice A6_2 x6_2.length c6_2), (50, .int .u32 (U32 (t126)))] (some 51) (.slice (some ⟨g127, 0, none⟩) 1 1))) (d := some 52) (e := 37) (A := A6_2) (m := x6_2.length) (c := c6_2) (A2 := (some ⟨g127, 0, none⟩)) (m2 := 1) (c2 := 1) (cs := nums .u32 x6_2) (ys := nums .u32 ([U32 (t126)] : List Int)) (k2 := (pin Go.Proofs.Try.f11 [1, 1, 1, 0, 1, 0, 0, 1, 0, 0, 1, 0] 11)) [⟨.slice (some ⟨g127, 0, none⟩) 1 1, 37, 1, nums .u32 [U32 (t126)]⟩, ⟨.slice (some ⟨g108, 0, none⟩) 1 1, 37, 1, nums .u32 [U32 (t107)]⟩, ⟨.slice A111 ((x5_2 ++ ([U32 (t107)] : List Int)).length) c113, 37, 1, nums .u32 (x5_2 ++ ([U32 (t107)] : List Int))⟩] [⟨.slice A7_2 x7_2.length c7_2, 37, 1, nums .u32 x7_2⟩] (by kernel_rfl) (hM.pick [0, 1, 2, 3, 4] rfl rfl) (hM.rd 0 rfl) (one_nums _ _) (by omega)
                              rw [nums_append] at hM'
                              replace hM := hM'; clear h_ hM'
                              obtain rfl : (x6_2 ++ ([U32 (t126)] : List Int)).length = n131 := by have h_ := (hM.rd 3 rfl).1; simpa only [nums_length, bools_length, strs_length] using h_
                              refine RunF.does hD ?_
                              clear hD hS_
                              refine RunF.go 7 [0, 5, 6, 7, 8, 9, 53, 54, 56] (k' := (pin Go.Proofs.Try.f11 [1, 1, 1, 0, 1, 0, 0, 1, 0, 0, 1, 1] 4)) (L' := [(0, .slice Ap0 a0.length cp0), (5, .slice A111 ((x5_2 ++ ([U32 (t107)] : List Int)).length) c113), (6, .slice A130 ((x6_2 ++ ([U32 (t126)] : List Int)).length) c132), (7, .slice A7_2 x7_2.length c7_2), (8, .slice none 0 0), (9, .int .i64 x9_2), (53, .slice Ap0 a0.length cp0), (54, .int .i64 x9_2), (56, .int .i64 (I64 (x9_2 + 8)))]) (w' := W133) (by kernel_rfl) ?_
                              rcases two (decide (0 ≤ x9_2)) with c136 | c136
                              · replace h := of_true h c136
                                rcases two (decide (x9_2 ≤ (I64 (x9_2 + 8)))) with c137 | c137
                                · replace h := of_true h c137
                                  rcases two (decide ((I64 (x9_2 + 8)) ≤ (a0.length : Int))) with c138 | c138
                                  · replace h := of_true h c138
                                    have zc136 := of_decide_eq_true c136
                                    have zc137 := of_decide_eq_true c137
                                    have zc138 := of_decide_eq_true c138
                                    obtain ⟨A139, n140, c141, hy142, rfl, hs143⟩ := cut (P := Go.Proofs.Try.prog) (n := 93) (k := (pin Go.Proofs.Try.f11 [1, 1, 1, 0, 1, 0, 0, 1, 0, 0, 1, 1] 4)) (L := [(0, .slice Ap0 a0.length cp0), (5, .slice A111 ((x5_2 ++ ([U32 (t107)] : List Int)).length) c113), (6, .slice A130 ((x6_2 ++ ([U32 (t126)] : List Int)).length) c132), (7, .slice A7_2 x7_2.length c7_2), (8, .slice none 0 0), (9, .int .i64 x9_2), (53, .slice Ap0 a0.length cp0), (54, .int .i64 x9_2), (56, .int .i64 (I64 (x9_2 + 8)))]) (d := some 57) (A := Ap0) (m := a0.length) (c := cp0) (l := x9_2) (h := I64 (x9_2 + 8)) (k2 := (pin Go.Proofs.Try.f11 [1, 1, 1, 0, 1, 0, 0, 1, 0, 0, 1, 1] 5)) .u8 a0 (by kernel_rfl) (by omega) (by omega) (by omega) (hr0.mono hM.below)
                                    clear zc136
                                    clear zc137
                                    clear zc138
                                    refine RunF.y hy142 trivial ?_
                                    obtain ⟨t145, ht145, h⟩ := Option.bind_eq_some_iff.mp h
                                    refine RunF.call (d := some 58) (g := 29) (args := #[.slice A139 (((a0.take (I64 (x9_2 + 8) : Int).toNat).drop (x9_2 : Int).toNat).length) c141]) (k2 := (pin Go.Proofs.Try.f11 [1, 1, 1, 0, 1, 0, 0, 1, 0, 0, 1, 1] 6)) (by kernel_rfl) (scrimref9_told.calls k A139 (((a0.take (I64 (x9_2 + 8) : Int).toNat).drop (x9_2 : Int).toNat).length) c141 ((a0.take (I64 (x9_2 + 8) : Int).toNat).drop (x9_2 : Int).toNat) t145 _ (hs143 _ (hr0.mono hM.below)) ht145) ?_
                                    rintro _ W144 ⟨rfl, hM_⟩
                                    replace hM := hM.call hM_
                                    clear hM_ ht145
                                    refine RunF.new 37 1 1 (nums .u32 [t145]) (d := some 59) (k2 := (pin Go.Proofs.Try.f11 [1, 1, 1, 0, 1, 0, 0, 1, 0, 0, 1, 1] 7)) hM (by simp [nums, bools, strs]) (by kernel_rfl) (by kernel_rfl) ?_
                                    replace hM := hM
                                    intro g146 W147 hM
                                    refine RunF.go 1 [0, 5, 6, 8, 9, 59, 60] (k' := (pin Go.Proofs.Try.f11 [1, 1, 1, 0, 1, 0, 0, 1, 0, 0, 1, 1] 8)) (L' := [(0, .slice Ap0 a0.length cp0), (5, .slice A111 ((x5_2 ++ ([U32 (t107)] : List Int)).length) c113), (6, .slice A130 ((x6_2 ++ ([U32 (t126)] : List Int)).length) c132), (8, .slice none 0 0), (9, .int .i64 x9_2), (59, .slice (some ⟨g146, 0, none⟩) 1 1), (60, .slice A7_2 x7_2.length c7_2)]) (w' := W147) (by kernel_rfl) ?_
                                    rcases two (decide (([t145] : List Int).length + x7_2.length ≤ 1000000000)) with c153 | c153
                                    · replace h := of_true h c153
                                      have h_ := of_decide_eq_true c153
                                      obtain ⟨A149, n150, c151, W152, hD, hM', hS_⟩ := app_does (P := Go.Proofs.Try.prog) (n := 93) (k := (pin Go.Proofs.Try.f11 [1, 1, 1, 0, 1, 0, 0, 1, 0, 0, 1, 1] 8)) (L := [(0, .slice Ap0 a0.length cp0), (5, .slice A111 ((x5_2 ++ ([U32 (t107)] : List Int)).length) c113), (6, .slice A130 ((x6_2 ++ ([U32 (t126)] : List Int)).length) c132), (8, .slice none 0 0), (9, .int .i64 x9_2), (59, .slice (some ⟨g146, 0, none⟩) 1 1), (60, .slice A7_2 x7_2.length c7_2)]) (d := some 61) (e := 37) (A := (some ⟨g146, 0, none⟩)) (m := 1) (c := 1) (A2 := A7_2) (m2 := x7_2.length) (c2 := c7_2) (cs := nums .u32 ([t145] : List Int)) (ys := nums .u32 x7_2) (k2 := (pin Go.Proofs.Try.f11 [1, 1, 1, 0, 1, 0, 0, 1, 0, 0, 1, 1] 9)) [] [⟨.slice (some ⟨g127, 0, none⟩) 1 1, 37, 1, nums .u32 [U32 (t126)]⟩, ⟨.slice (some ⟨g108, 0, none⟩) 1 1, 37, 1, nums .u32 [U32 (t107)]⟩, ⟨.slice A111 ((x5_2 ++ ([U32 (t107)] : List Int)).length) c113, 37, 1, nums .u32 (x5_2 ++ ([U32 (t107)] : List Int))⟩, ⟨.slice A130 ((x6_2 ++ ([U32 (t126)] : List Int)).length) c132, 37, 1, nums .u32 (x6_2 ++ ([U32 (t126)] : List Int))⟩, ⟨.slice A7_2 x7_2.length c7_2, 37, 1, nums .u32 x7_2⟩] (by kernel_rfl) (hM.pick [0, 1, 2, 3, 4, 5] rfl rfl) (hM.rd 5 rfl) (one_nums _ _) (by omega)
                                      rw [nums_append] at hM'
                                      replace hM := hM'; clear h_ hM'
                                      obtain rfl : (([t145] : List Int) ++ x7_2).length = n150 := by have h_ := (hM.rd 0 rfl).1; simpa only [nums_length, bools_length, strs_length] using h_
                                      refine RunF.does hD ?_
                                      clear hD hS_
                                      refine RunF.go 9 [0, 5, 6, 7, 8, 9] (k' := (pl Go.Proofs.Try.f11 [1, 1, 1, 0, 1, 0, 0])) (L' := [(0, .slice Ap0 a0.length cp0), (5, .slice A111 ((x5_2 ++ ([U32 (t107)] : List Int)).length) c113), (6, .slice A130 ((x6_2 ++ ([U32 (t126)] : List Int)).length) c132), (7, .slice A149 ((([t145] : List Int) ++ x7_2).length) c151), (8, .slice none 0 0), (9, .int .i64 (I64 (x9_2 + 8)))]) (w' := W152) (by kernel_rfl) ?_
                                      exact ih2 k (by omega) A111 c113 (x5_2 ++ ([U32 (t107)] : List Int)) A130 c132 (x6_2 ++ ([U32 (t126)] : List Int)) A149 c151 (([t145] : List Int) ++ x7_2) (I64 (x9_2 + 8)) _ (hM.pick [3, 4, 0] rfl rfl) h
                                    · replace h := of_false h c153
                                      cases h
                                  · replace h := of_false h c138
                                    cases h
                                · replace h := of_false h c137
                                  cases h
                              · replace h := of_false h c136
                                cases h
                            · replace h := of_false h c134
                              cases h
                          · replace h := of_false h c119
                            cases h
                        · replace h := of_false h c118
                          cases h
                      · replace h := of_false h c117
                        cases h
                    · replace h := of_false h c115
                      cases h
                  · replace h := of_false h c100
                    cases h
                · replace h := of_false h c99
                  cases h
              · replace h := of_false h c98
                cases h
            · replace h := of_false h c97
              refine RunF.know 29 (b := false) (by kernel_rfl) c97 ?_
              refine RunF.go 9 [5, 6, 7, 8, 10] (k' := (pl Go.Proofs.Try.f11 [1, 1, 1, 1, 0, 1, 0, 0])) (L' := [(5, .slice A5_2 x5_2.length c5_2), (6, .slice A6_2 x6_2.length c6_2), (7, .slice A7_2 x7_2.length c7_2), (8, .slice none 0 0), (10, .int .i64 0)]) (w' := W) (by kernel_rfl) ?_
              replace hM := hM.nil 37
              have l3 : ∀ (k_ : Nat), k_ ≤ k → ∀ (A8_3 : Option Addr) (c8_3 : Nat) (x8_3 : List Int) (x10_3 : Int) (W : World) (hM : Mem w W [⟨.slice A5_2 x5_2.length c5_2, 37, 1, nums .u32 x5_2⟩, ⟨.slice A6_2 x6_2.length c6_2, 37, 1, nums .u32 x6_2⟩, ⟨.slice A7_2 x7_2.length c7_2, 37, 1, nums .u32 x7_2⟩, ⟨.slice A8_3 x8_3.length c8_3, 37, 1, nums .u32 x8_3⟩]) (h : scrimref9_Keys.l3 k_ x5_2 x6_2 x7_2 x8_3 x10_3 = some r), RunF Go.Proofs.Try.prog (Ret fun v w' => ∃ A0' n0' c0', ∃ A1' n1' c1', v = .tuple #[.slice A0' n0' c0', .slice A1' n1' c1', .int .i64 r.2.2] ∧ Mem w w' [⟨.slice A0' n0' c0', 37, 1, nums .u32 r.1⟩, ⟨.slice A1' n1' c1', 37, 1, nums .u32 r.2.1⟩]) 11 (pl Go.Proofs.Try.f11 [1, 1, 1, 1, 0, 1, 0, 0]) 93 [(5, .slice A5_2 x5_2.length c5_2), (6, .slice A6_2 x6_2.length c6_2), (7, .slice A7_2 x7_2.length c7_2), (8, .slice A8_3 x8_3.length c8_3), (10, .int .i64 x10_3)] W := by
                intro k_
                induction k_ using Nat.strongRecOn with
                | _ k_ ih3 =>
                  intro hk A8_3 c8_3 x8_3 x10_3 W hM h
                  cases k_ with
                  | zero => exact absurd h (by simp [scrimref9_Keys.l3])
                  | succ k =>
                    simp only [scrimref9_Keys.l3] at h
                    replace ih3 : ∀ m, m ≤ k → _ := fun m hm => ih3 m (by omega) (by omega)
                    replace ih2 : ∀ m, m ≤ k → _ := fun m hm => ih2 m (by omega)
                    refine RunF.go 6 [5, 6, 7, 8, 10, 63] (k' := (pl Go.Proofs.Try.f11 [1, 1, 1, 1, 0, 1, 0, 0, 0, 1])) (L' := [(5, .slice A5_2 x5_2.length c5_2), (6, .slice A6_2 x6_2.length c6_2), (7, .slice A7_2 x7_2.length c7_2), (8, .slice A8_3 x8_3.length c8_3), (10, .int .i64 x10_3), (63, .bool (decide (x10_3 < 20)))]) (w' := W) (by kernel_rfl) ?_
                    rcases two (decide (x10_3 < 20)) with c157 | c157
                    · replace h := of_true h c157
                      refine RunF.know 63 (b := true) (by kernel_rfl) c157 ?_
                      refine RunF.go 11 [5, 6, 7, 8, 10, 69, 70] (k' := (pin Go.Proofs.Try.f11 [1, 1, 1, 1, 0, 1, 0, 0, 1, 0, 0, 0] 5)) (L' := [(5, .slice A5_2 x5_2.length c5_2), (6, .slice A6_2 x6_2.length c6_2), (7, .slice A7_2 x7_2.length c7_2), (8, .slice A8_3 x8_3.length c8_3), (10, .int .i64 x10_3), (69, .int .u32 (U32 ((U32 (I64 (2 * x10_3))) * 16843009))), (70, .slice A5_2 x5_2.length c5_2)]) (w' := W) (by kernel_rfl) ?_
                      obtain ⟨t159, ht159, h⟩ := Option.bind_eq_some_iff.mp h
                      refine RunF.call (d := some 71) (g := 17) (args := #[.int .u32 (U32 ((U32 (I64 (2 * x10_3))) * 16843009)), .slice A5_2 x5_2.length c5_2]) (k2 := (pin Go.Proofs.Try.f11 [1, 1, 1, 1, 0, 1, 0, 0, 1, 0, 0, 0] 6)) (by kernel_rfl) (scrimref9_H.calls k (U32 ((U32 (I64 (2 * x10_3))) * 16843009)) A5_2 x5_2.length c5_2 x5_2 t159 _ (hM.rd 0 rfl) ht159) ?_
                      rintro _ W158 ⟨rfl, hM_⟩
                      replace hM := hM.call hM_
                      clear hM_ ht159
                      refine RunF.go 10 [5, 6, 7, 8, 10, 11, 76, 77] (k' := (pin Go.Proofs.Try.f11 [1, 1, 1, 1, 0, 1, 0, 0, 1, 0, 0, 1, 0] 6)) (L' := [(5, .slice A5_2 x5_2.length c5_2), (6, .slice A6_2 x6_2.length c6_2), (7, .slice A7_2 x7_2.length c7_2), (8, .slice A8_3 x8_3.length c8_3), (10, .int .i64 x10_3), (11, .int .u32 t159), (76, .int .u32 (U32 ((U32 (I64 ((I64 (2 * x10_3)) + 1))) * 16843009))), (77, .slice A6_2 x6_2.length c6_2)]) (w' := W158) (by kernel_rfl) ?_
                      obtain ⟨y160, hy, h⟩ := Option.bind_eq_some_iff.mp h
                      rw [show (U32 ((U32 (I64 ((I64 (2 * x10_3)) + 1))) * 16843009)) = y160 from Option.some.inj hy]
                      clear hy
                      obtain ⟨t162, ht162, h⟩ := Option.bind_eq_some_iff.mp h
                      refine RunF.call (d := some 78) (g := 17) (args := #[.int .u32 y160, .slice A6_2 x6_2.length c6_2]) (k2 := (pin Go.Proofs.Try.f11 [1, 1, 1, 1, 0, 1, 0, 0, 1, 0, 0, 1, 0] 7)) (by kernel_rfl) (scrimref9_H.calls k y160 A6_2 x6_2.length c6_2 x6_2 t162 _ (hM.rd 1 rfl) ht162) ?_
                      rintro _ W161 ⟨rfl, hM_⟩
                      replace hM := hM.call hM_
                      clear hM_ ht162
                      obtain ⟨t164, ht164, h⟩ := Option.bind_eq_some_iff.mp h
                      refine RunF.call (d := some 79) (g := 21) (args := #[.int .u32 t162, .int .i64 8]) (k2 := (pin Go.Proofs.Try.f11 [1, 1, 1, 1, 0, 1, 0, 0, 1, 0, 0, 1, 0] 8)) (by kernel_rfl) (scrimref1_Rol32.calls k t162 8 t164 _ ht164) ?_
                      rintro _ W163 ⟨rfl, hM_⟩
                      replace hM := hM.call hM_
                      clear hM_ ht164
                      refine RunF.go 11 [5, 6, 7, 10, 80, 83, 87] (k' := (pin Go.Proofs.Try.f11 [1, 1, 1, 1, 0, 1, 0, 0, 1, 0, 0, 1, 1] 8)) (L' := [(5, .slice A5_2 x5_2.length c5_2), (6, .slice A6_2 x6_2.length c6_2), (7, .slice A7_2 x7_2.length c7_2), (10, .int .i64 x10_3), (80, .slice A8_3 x8_3.length c8_3), (83, .int .u32 (U32 (t159 + t164))), (87, .int .u32 (U32 (t159 + (U32 (2 * t164)))))]) (w' := W163) (by kernel_rfl) ?_
                      obtain ⟨t166, ht166, h⟩ := Option.bind_eq_some_iff.mp h
                      refine RunF.call (d := some 88) (g := 21) (args := #[.int .u32 (U32 (t159 + (U32 (2 * t164)))), .int .i64 9]) (k2 := (pin Go.Proofs.Try.f11 [1, 1, 1, 1, 0, 1, 0, 0, 1, 0, 0, 1, 1] 9)) (by kernel_rfl) (scrimref1_Rol32.calls k (U32 (t159 + (U32 (2 * t164)))) 9 t166 _ ht166) ?_
                      rintro _ W165 ⟨rfl, hM_⟩
                      replace hM := hM.call hM_
                      clear hM_ ht166
                      refine RunF.new 37 1 2 (nums .u32 [U32 (t159 + t164), t166]) (d := some 89) (k2 := (pin Go.Proofs.Try.f11 [1, 1, 1, 1, 0, 1, 0, 0, 1, 0, 0, 1, 1] 10)) hM (by simp [nums, bools, strs]) (by kernel_rfl) (by kernel_rfl) ?_
                      replace hM := hM
                      intro g167 W168 hM
                      rcases two (decide (x8_3.length + ([U32 (t159 + t164), t166] : List Int).length ≤ 1000000000)) with c174 | c174
                      · replace h := of_true h c174
                        have h_ := of_decide_eq_true c174
                        obtain ⟨A170, n171, c172, W173, hD, hM', hS_⟩ := app_does (P := Go.Proofs.Try.prog) (n := 93) (k := (pin Go.Proofs.Try.f11 [1, 1, 1, 1, 0, 1, 0, 0, 1, 0, 0, 1, 1] 10)) (L := (upd (upd [(5, .slice A5_2 x5_2.length c5_2), (6, .slice A6_2 x6_2.length c6_2), (7, .slice A7_2 x7_2.length c7_2), (10, .int .i64 x10_3), (80, .slice A8_3 x8_3.length c8_3), (83, .int .u32 (U32 (t159 + t164))), (87, .int .u32 (U32 (t159 + (U32 (2 * t164)))))] (some 88) (.int .u32 t166)) (some 89) (.slice (some ⟨g167, 0, none⟩) 2 2))) (d := some 90) (e := 37) (A := A8_3) (m := x8_3.length) (c := c8_3) (A2 := (some ⟨g167, 0, none⟩)) (m2 := 2) (c2 := 2) (cs := nums .u32 x8_3) (ys := nums .u32 ([U32 (t159 + t164), t166] : List Int)) (k2 := (pin Go.Proofs.Try.f11 [1, 1, 1, 1, 0, 1, 0, 0, 1, 0, 0, 1, 1] 11)) [⟨.slice (some ⟨g167, 0, none⟩) 2 2, 37, 1, nums .u32 [U32 (t159 + t164), t166]⟩, ⟨.slice A5_2 x5_2.length c5_2, 37, 1, nums .u32 x5_2⟩, ⟨.slice A6_2 x6_2.length c6_2, 37, 1, nums .u32 x6_2⟩, ⟨.slice A7_2 x7_2.length c7_2, 37, 1, nums .u32 x7_2⟩] [] (by kernel_rfl) (hM.pick [0, 1, 2, 3, 4] rfl rfl) (hM.rd 0 rfl) (one_nums _ _) (by omega)
                        rw [nums_append] at hM'
                        replace hM := hM'; clear h_ hM'
                        obtain rfl : (x8_3 ++ ([U32 (t159 + t164), t166] : List Int)).length = n171 := by have h_ := (hM.rd 4 rfl).1; simpa only [nums_length, bools_length, strs_length] using h_
                        refine RunF.does hD ?_
                        clear hD hS_
                        refine RunF.go 9 [5, 6, 7, 8, 10] (k' := (pl Go.Proofs.Try.f11 [1, 1, 1, 1, 0, 1, 0, 0])) (L' := [(5, .slice A5_2 x5_2.length c5_2), (6, .slice A6_2 x6_2.length c6_2), (7, .slice A7_2 x7_2.length c7_2), (8, .slice A170 ((x8_3 ++ ([U32 (t159 + t164), t166] : List Int)).length) c172), (10, .int .i64 (I64 (x10_3 + 1)))]) (w' := W173) (by kernel_rfl) ?_
                        exact ih3 k (by omega) A170 c172 (x8_3 ++ ([U32 (t159 + t164), t166] : List Int)) (I64 (x10_3 + 1)) _ (hM.pick [1, 2, 3, 4] rfl rfl) h
                      · replace h := of_false h c174
                        cases h
                    · replace h := of_false h c157
                      refine RunF.know 63 (b := false) (by kernel_rfl) c157 ?_
                      refine RunF.go 10 [2, 3, 4] (k' := (pl Go.Proofs.Try.f11 [1, 1, 1, 1, 1, 1])) (L' := [(2, .slice A8_3 x8_3.length c8_3), (3, .slice A7_2 x7_2.length c7_2), (4, .int .i64 0)]) (w' := W) (by kernel_rfl) ?_
                      obtain rfl := Option.some.inj h
                      exact RunF.ret3 2 3 4 (.slice A8_3 x8_3.length c8_3) (.slice A7_2 x7_2.length c7_2) (.int .i64 0) (fn := Go.Proofs.Try.f11) Go.Proofs.Try.func11 (by kernel_rfl) (by kernel_rfl) (by kernel_rfl) (by kernel_rfl) (by kernel_rfl) ⟨_, rfl, A8_3, x8_3.length, c8_3, A7_2, x7_2.length, c7_2, rfl, (hM.pick [3, 2] rfl rfl)⟩
              exact l3 k (Nat.le_refl _) none 0 ([] : List Int) 0 _ (hM.pick [1, 2, 3, 0] rfl rfl) h
      exact l2 k (Nat.le_refl _) none 0 ([] : List Int) none 0 ([] : List Int) none 0 ([] : List Int) 0 _ (hM.pick [2, 1, 0] rfl rfl) h
  · replace h := of_false h c1
    refine RunF.know 16 (b := false) (by kernel_rfl) c1 ?_
    refine RunF.go 26 [0, 5, 6, 7, 8, 9] (k' := (pl Go.Proofs.Try.f11 [1, 1, 1, 0, 1, 0, 0])) (L' := [(0, .slice Ap0 a0.length cp0), (5, .slice none 0 0), (6, .slice none 0 0), (7, .slice none 0 0), (8, .slice none 0 0), (9, .int .i64 0)]) (w' := w) (by kernel_rfl) ?_
    replace hM := hM.nil 37
    replace hM := hM.nil 37
    replace hM := hM.nil 37
    have l4 : ∀ (k_ : Nat), k_ ≤ k → ∀ (A5_4 : Option Addr) (c5_4 : Nat) (x5_4 : List Int) (A6_4 : Option Addr) (c6_4 : Nat) (x6_4 : List Int) (A7_4 : Option Addr) (c7_4 : Nat) (x7_4 : List Int) (x9_4 : Int) (W : World) (hM : Mem w W [⟨.slice A5_4 x5_4.length c5_4, 37, 1, nums .u32 x5_4⟩, ⟨.slice A6_4 x6_4.length c6_4, 37, 1, nums .u32 x6_4⟩, ⟨.slice A7_4 x7_4.length c7_4, 37, 1, nums .u32 x7_4⟩]) (h : scrimref9_Keys.l4 k_ a0 x5_4 x6_4 x7_4 x9_4 = some r), RunF Go.Proofs.Try.prog (Ret fun v w' => ∃ A0' n0' c0', ∃ A1' n1' c1', v = .tuple #[.slice A0' n0' c0', .slice A1' n1' c1', .int .i64 r.2.2] ∧ Mem w w' [⟨.slice A0' n0' c0', 37, 1, nums .u32 r.1⟩, ⟨.slice A1' n1' c1', 37, 1, nums .u32 r.2.1⟩]) 11 (pl Go.Proofs.Try.f11 [1, 1, 1, 0, 1, 0, 0]) 93 [(0, .slice Ap0 a0.length cp0), (5, .slice A5_4 x5_4.length c5_4), (6, .slice A6_4 x6_4.length c6_4), (7, .slice A7_4 x7_4.length c7_4), (8, .slice none 0 0), (9, .int .i64 x9_4)] W := by
      intro k_
      induction k_ using Nat.strongRecOn with
      | _ k_ ih4 =>
        intro hk A5_4 c5_4 x5_4 A6_4 c6_4 x6_4 A7_4 c7_4 x7_4 x9_4 W hM h
        cases k_ with
        | zero => exact absurd h (by simp [scrimref9_Keys.l4])
        | succ k =>
          simp only [scrimref9_Keys.l4] at h
          replace ih4 : ∀ m, m ≤ k → _ := fun m hm => ih4 m (by omega) (by omega)
          refine RunF.go 8 [0, 5, 6, 7, 8, 9, 29] (k' := (pl Go.Proofs.Try.f11 [1, 1, 1, 0, 1, 0, 0, 0, 1])) (L' := [(0, .slice Ap0 a0.length cp0), (5, .slice A5_4 x5_4.length c5_4), (6, .slice A6_4 x6_4.length c6_4), (7, .slice A7_4 x7_4.length c7_4), (8, .slice none 0 0), (9, .int .i64 x9_4), (29, .bool (decide (x9_4 < (a0.length : Int))))]) (w' := W) (by kernel_rfl) ?_
          rcases two (decide (x9_4 < (a0.length : Int))) with c182 | c182
          · replace h := of_true h c182
            refine RunF.know 29 (b := true) (by kernel_rfl) c182 ?_
            refine RunF.go 11 [0, 6, 7, 8, 9, 32, 33, 34, 36] (k' := (pin Go.Proofs.Try.f11 [1, 1, 1, 0, 1, 0, 0, 1, 0, 0, 0] 5)) (L' := [(0, .slice Ap0 a0.length cp0), (6, .slice A6_4 x6_4.length c6_4), (7, .slice A7_4 x7_4.length c7_4), (8, .slice none 0 0), (9, .int .i64 x9_4), (32, .slice A5_4 x5_4.length c5_4), (33, .slice Ap0 a0.length cp0), (34, .int .i64 x9_4), (36, .int .i64 (I64 (x9_4 + 4)))]) (w' := W) (by kernel_rfl) ?_
            rcases two (decide (0 ≤ x9_4)) with c183 | c183
            · replace h := of_true h c183
              rcases two (decide (x9_4 ≤ (I64 (x9_4 + 4)))) with c184 | c184
              · replace h := of_true h c184
                rcases two (decide ((I64 (x9_4 + 4)) ≤ (a0.length : Int))) with c185 | c185
                · replace h := of_true h c185
                  have zc183 := of_decide_eq_true c183
                  have zc184 := of_decide_eq_true c184
                  have zc185 := of_decide_eq_true c185
                  obtain ⟨A186, n187, c188, hy189, rfl, hs190⟩ := cut (P := Go.Proofs.Try.prog) (n := 93) (k := (pin Go.Proofs.Try.f11 [1, 1, 1, 0, 1, 0, 0, 1, 0, 0, 0] 5)) (L := [(0, .slice Ap0 a0.length cp0), (6, .slice A6_4 x6_4.length c6_4), (7, .slice A7_4 x7_4.length c7_4), (8, .slice none 0 0), (9, .int .i64 x9_4), (32, .slice A5_4 x5_4.length c5_4), (33, .slice Ap0 a0.length cp0), (34, .int .i64 x9_4), (36, .int .i64 (I64 (x9_4 + 4)))]) (d := some 37) (A := Ap0) (m := a0.length) (c := cp0) (l := x9_4) (h := I64 (x9_4 + 4)) (k2 := (pin Go.Proofs.Try.f11 [1, 1, 1, 0, 1, 0, 0, 1, 0, 0, 0] 6)) .u8 a0 (by kernel_rfl) (by omega) (by omega) (by omega) (hr0.mono hM.below)
                  clear zc183
                  clear zc184
                  clear zc185
                  refine RunF.y hy189 trivial ?_
                  obtain ⟨t192, ht192, h⟩ := Option.bind_eq_some_iff.mp h
                  refine RunF.call (d := some 38) (g := 20) (args := #[.slice A186 (((a0.take (I64 (x9_4 + 4) : Int).toNat).drop (x9_4 : Int).toNat).length) c188]) (k2 := (pin Go.Proofs.Try.f11 [1, 1, 1, 0, 1, 0, 0, 1, 0, 0, 0] 7)) (by kernel_rfl) (scrimref1_Little.calls k A186 (((a0.take (I64 (x9_4 + 4) : Int).toNat).drop (x9_4 : Int).toNat).length) c188 ((a0.take (I64 (x9_4 + 4) : Int).toNat).drop (x9_4 : Int).toNat) t192 _ (hs190 _ (hr0.mono hM.below)) ht192) ?_
                  rintro _ W191 ⟨rfl, hM_⟩
                  replace hM := hM.call hM_
                  clear hM_ ht192
                  refine RunF.go 1 [0, 6, 7, 8, 9, 32, 39] (k' := (pin Go.Proofs.Try.f11 [1, 1, 1, 0, 1, 0, 0, 1, 0, 0, 0] 8)) (L' := [(0, .slice Ap0 a0.length cp0), (6, .slice A6_4 x6_4.length c6_4), (7, .slice A7_4 x7_4.length c7_4), (8, .slice none 0 0), (9, .int .i64 x9_4), (32, .slice A5_4 x5_4.length c5_4), (39, .int .u32 (U32 (t192)))]) (w' := W191) (by kernel_rfl) ?_
                  refine RunF.new 37 1 1 (nums .u32 [U32 (t192)]) (d := some 40) (k2 := (pin Go.Proofs.Try.f11 [1, 1, 1, 0, 1, 0, 0, 1, 0, 0, 0] 9)) hM (by simp [nums, bools, strs]) (by kernel_rfl) (by kernel_rfl) ?_
                  replace hM := hM
                  intro g193 W194 hM
                  rcases two (decide (x5_4.length + ([U32 (t192)] : List Int).length ≤ 1000000000)) with c200 | c200
                  · replace h := of_true h c200
                    have h_ := of_decide_eq_true c200
                    obtain ⟨A196, n197, c198, W199, hD, hM', hS_⟩ := app_does (P := Go.Proofs.Try.prog) (n := 93) (k := (pin Go.Proofs.Try.f11 [1, 1, 1, 0, 1, 0, 0, 1, 0, 0, 0] 9)) (L := (upd [(0, .slice Ap0 a0.length cp0), (6, .slice A6_4 x6_4.length c6_4), (7, .slice A7_4 x7_4.length c7_4), (8, .slice none 0 0), (9, .int .i64 x9_4), (32, .slice A5_4 x5_4.length c5_4), (39, .int .u32 (U32 (t192)))] (some 40) (.slice (some ⟨g193, 0, none⟩) 1 1))) (d := some 41) (e := 37) (A := A5_4) (m := x5_4.length) (c := c5_4) (A2 := (some ⟨g193, 0, none⟩)) (m2 := 1) (c2 := 1) (cs := nums .u32 x5_4) (ys := nums .u32 ([U32 (t192)] : List Int)) (k2 := (pin Go.Proofs.Try.f11 [1, 1, 1, 0, 1, 0, 0, 1, 0, 0, 0] 10)) [⟨.slice (some ⟨g193, 0, none⟩) 1 1, 37, 1, nums .u32 [U32 (t192)]⟩] [⟨.slice A6_4 x6_4.length c6_4, 37, 1, nums .u32 x6_4⟩, ⟨.slice A7_4 x7_4.length c7_4, 37, 1, nums .u32 x7_4⟩] (by kernel_rfl) (hM.pick [0, 1, 2, 3] rfl rfl) (hM.rd 0 rfl) (one_nums _ _) (by omega)
                    rw [nums_append] at hM'
                    replace hM := hM'; clear h_ hM'
                    obtain rfl : (x5_4 ++ ([U32 (t192)] : List Int)).length = n197 := by have h_ := (hM.rd 1 rfl).1; simpa only [nums_length, bools_length, strs_length] using h_
                    refine RunF.does hD ?_
                    clear hD hS_
                    refine RunF.go 10 [0, 5, 7, 8, 9, 42, 43, 45, 47] (k' := (pin Go.Proofs.Try.f11 [1, 1, 1, 0, 1, 0, 0, 1, 0, 0, 1, 0] 6)) (L' := [(0, .slice Ap0 a0.length cp0), (5, .slice A196 ((x5_4 ++ ([U32 (t192)] : List Int)).length) c198), (7, .slice A7_4 x7_4.length c7_4), (8, .slice none 0 0), (9, .int .i64 x9_4), (42, .slice A6_4 x6_4.length c6_4), (43, .slice Ap0 a0.length cp0), (45, .int .i64 (I64 (x9_4 + 4))), (47, .int .i64 (I64 (x9_4 + 8)))]) (w' := W199) (by kernel_rfl) ?_
                    rcases two (decide (0 ≤ (I64 (x9_4 + 4)))) with c202 | c202
                    · replace h := of_true h c202
                      rcases two (decide ((I64 (x9_4 + 4)) ≤ (I64 (x9_4 + 8)))) with c203 | c203
                      · replace h := of_true h c203
                        rcases two (decide ((I64 (x9_4 + 8)) ≤ (a0.length : Int))) with c204 | c204
                        · replace h := of_true h c204
                          have zc202 := of_decide_eq_true c202
                          have zc203 := of_decide_eq_true c203
                          have zc204 := of_decide_eq_true c204
                          obtain ⟨A205, n206, c207, hy208, rfl, hs209⟩ := cut (P := Go.Proofs.Try.prog) (n := 93) (k := (pin Go.Proofs.Try.f11 [1, 1, 1, 0, 1, 0, 0, 1, 0, 0, 1, 0] 6)) (L := [(0, .slice Ap0 a0.length cp0), (5, .slice A196 ((x5_4 ++ ([U32 (t192)] : List Int)).length) c198), (7, .slice A7_4 x7_4.length c7_4), (8, .slice none 0 0), (9, .int .i64 x9_4), (42, .slice A6_4 x6_4.length c6_4), (43, .slice Ap0 a0.length cp0), (45, .int .i64 (I64 (x9_4 + 4))), (47, .int .i64 (I64 (x9_4 + 8)))]) (d := some 48) (A := Ap0) (m := a0.length) (c := cp0) (l := I64 (x9_4 + 4)) (h := I64 (x9_4 + 8)) (k2 := (pin Go.Proofs.Try.f11 [1, 1, 1, 0, 1, 0, 0, 1, 0, 0, 1, 0] 7)) .u8 a0 (by kernel_rfl) (by omega) (by omega) (by omega) (hr0.mono hM.below)
                          clear zc202
                          clear zc203
                          clear zc204
                          refine RunF.y hy208 trivial ?_
                          obtain ⟨t211, ht211, h⟩ := Option.bind_eq_some_iff.mp h
                          refine RunF.call (d := some 49) (g := 20) (args := #[.slice A205 (((a0.take (I64 (x9_4 + 8) : Int).toNat).drop (I64 (x9_4 + 4) : Int).toNat).length) c207]) (k2 := (pin Go.Proofs.Try.f11 [1, 1, 1, 0, 1, 0, 0, 1, 0, 0, 1, 0] 8)) (by kernel_rfl) (scrimref1_Little.calls k A205 (((a0.take (I64 (x9_4 + 8) : Int).toNat).drop (I64 (x9_4 + 4) : Int).toNat).length) c207 ((a0.take (I64 (x9_4 + 8) : Int).toNat).drop (I64 (x9_4 + 4) : Int).toNat) t211 _ (hs209 _ (hr0.mono hM.below)) ht211) ?_
                          rintro _ W210 ⟨rfl, hM_⟩
                          replace hM := hM.call hM_
                          clear hM_ ht211
                          refine RunF.go 1 [0, 5, 7, 8, 9, 42, 50] (k' := (pin Go.Proofs.Try.f11 [1, 1, 1, 0, 1, 0, 0, 1, 0, 0, 1, 0] 9)) (L' := [(0, .slice Ap0 a0.length cp0), (5, .slice A196 ((x5_4 ++ ([U32 (t192)] : List Int)).length) c198), (7, .slice A7_4 x7_4.length c7_4), (8, .slice none 0 0), (9, .int .i64 x9_4), (42, .slice A6_4 x6_4.length c6_4), (50, .int .u32 (U32 (t211)))]) (w' := W210) (by kernel_rfl) ?_
                          refine RunF.new 37 1 1 (nums .u32 [U32 (t211)]) (d := some 51) (k2 := (pin Go.Proofs.Try.f11 [1, 1, 1, 0, 1, 0, 0, 1, 0, 0, 1, 0] 10)) hM (by simp [nums, bools, strs]) (by kernel_rfl) (by kernel_rfl) ?_
                          replace hM := hM
                          intro g212 W213 hM
                          rcases two (decide (x6_4.length + ([U32 (t211)] : List Int).length ≤ 1000000000)) with c219 | c219
                          · replace h := of_true h c219
                            have h_ := of_decide_eq_true c219
                            obtain ⟨A215, n216, c217, W218, hD, hM', hS_⟩ := app_does (P := Go.Proofs.Try.prog) (n := 93) (k := (pin Go.Proofs.Try.f11 [1, 1, 1, 0, 1, 0, 0, 1, 0, 0, 1, 0] 10)) (L := (upd [(0, .slice Ap0 a0.length cp0), (5, .slice A196 ((x5_4 ++ ([U32 (t192)] : List Int)).length) c198), (7, .slice A7_4 x7_4.length c7_4), (8, .slice none 0 0), (9, .int .i64 x9_4), (42, .slice A6_4 x6_4.length c6_4), (50, .int .u32 (U32 (t211)))] (some 51) (.slice (some ⟨g212, 0, none⟩) 1 1))) (d := some 52) (e := 37) (A := A6_4) (m := x6_4.length) (c := c6_4) (A2 := (some ⟨g212, 0, none⟩)) (m2 := 1) (c2 := 1) (cs := nums .u32 x6_4) (ys := nums .u32 ([U32 (t211)] : List Int)) (k2 := (pin Go.Proofs.Try.f11 [1, 1, 1, 0, 1, 0, 0, 1, 0, 0, 1, 0] 11)) [⟨.slice (some ⟨g212, 0, none⟩) 1 1, 37, 1, nums .u32 [U32 (t211)]⟩, ⟨.slice (some ⟨g193, 0, none⟩) 1 1, 37, 1, nums .u32 [U32 (t192)]⟩, ⟨.slice A196 ((x5_4 ++ ([U32 (t192)] : List Int)).length) c198, 37, 1, nums .u32 (x5_4 ++ ([U32 (t192)] : List Int))⟩] [⟨.slice A7_4 x7_4.length c7_4, 37, 1, nums .u32 x7_4⟩] (by kernel_rfl) (hM.pick [0, 1, 2, 3, 4] rfl rfl) (hM.rd 0 rfl) (one_nums _ _) (by omega)
                            rw [nums_append] at hM'
                            replace hM := hM'; clear h_ hM'
                            obtain rfl : (x6_4 ++ ([U32 (t211)] : List Int)).length = n216 := by have h_ := (hM.rd 3 rfl).1; simpa only [nums_length, bools_length, strs_length] using h_
                            refine RunF.does hD ?_
                            clear hD hS_
                            refine RunF.go 7 [0, 5, 6, 7, 8, 9, 53, 54, 56] (k' := (pin Go.Proofs.Try.f11 [1, 1, 1, 0, 1, 0, 0, 1, 0, 0, 1, 1] 4)) (L' := [(0, .slice Ap0 a0.length cp0), (5, .slice A196 ((x5_4 ++ ([U32 (t192)] : List Int)).length) c198), (6, .slice A215 ((x6_4 ++ ([U32 (t211)] : List Int)).length) c217), (7, .slice A7_4 x7_4.length c7_4), (8, .slice none 0 0), (9, .int .i64 x9_4), (53, .slice Ap0 a0.length cp0), (54, .int .i64 x9_4), (56, .int .i64 (I64 (x9_4 + 8)))]) (w' := W218) (by kernel_rfl) ?_
                            rcases two (decide (0 ≤ x9_4)) with c221 | c221
                            · replace h := of_true h c221
                              rcases two (decide (x9_4 ≤ (I64 (x9_4 + 8)))) with c222 | c222
                              · replace h := of_true h c222
                                rcases two (decide ((I64 (x9_4 + 8)) ≤ (a0.length : Int))) with c223 | c223
                                · replace h := of_true h c223
                                  have zc221 := of_decide_eq_true c221
                                  have zc222 := of_decide_eq_true c222
                                  have zc223 := of_decide_eq_true c223
                                  obtain ⟨A224, n225, c226, hy227, rfl, hs228⟩ := cut (P := Go.Proofs.Try.prog) (n := 93) (k := (pin Go.Proofs.Try.f11 [1, 1, 1, 0, 1, 0, 0, 1, 0, 0, 1, 1] 4)) (L := [(0, .slice Ap0 a0.length cp0), (5, .slice A196 ((x5_4 ++ ([U32 (t192)] : List Int)).length) c198), (6, .slice A215 ((x6_4 ++ ([U32 (t211)] : List Int)).length) c217), (7, .slice A7_4 x7_4.length c7_4), (8, .slice none 0 0), (9, .int .i64 x9_4), (53, .slice Ap0 a0.length cp0), (54, .int .i64 x9_4), (56, .int .i64 (I64 (x9_4 + 8)))]) (d := some 57) (A := Ap0) (m := a0.length) (c := cp0) (l := x9_4) (h := I64 (x9_4 + 8)) (k2 := (pin Go.Proofs.Try.f11 [1, 1, 1, 0, 1, 0, 0, 1, 0, 0, 1, 1] 5)) .u8 a0 (by kernel_rfl) (by omega) (by omega) (by omega) (hr0.mono hM.below)
                                  clear zc221
                                  clear zc222
                                  clear zc223
                                  refine RunF.y hy227 trivial ?_
                                  obtain ⟨t230, ht230, h⟩ := Option.bind_eq_some_iff.mp h
                                  refine RunF.call (d := some 58) (g := 29) (args := #[.slice A224 (((a0.take (I64 (x9_4 + 8) : Int).toNat).drop (x9_4 : Int).toNat).length) c226]) (k2 := (pin Go.Proofs.Try.f11 [1, 1, 1, 0, 1, 0, 0, 1, 0, 0, 1, 1] 6)) (by kernel_rfl) (scrimref9_told.calls k A224 (((a0.take (I64 (x9_4 + 8) : Int).toNat).drop (x9_4 : Int).toNat).length) c226 ((a0.take (I64 (x9_4 + 8) : Int).toNat).drop (x9_4 : Int).toNat) t230 _ (hs228 _ (hr0.mono hM.below)) ht230) ?_
                                  rintro _ W229 ⟨rfl, hM_⟩
                                  replace hM := hM.call hM_
                                  clear hM_ ht230
                                  refine RunF.new 37 1 1 (nums .u32 [t230]) (d := some 59) (k2 := (pin Go.Proofs.Try.f11 [1, 1, 1, 0, 1, 0, 0, 1, 0, 0, 1, 1] 7)) hM (by simp [nums, bools, strs]) (by kernel_rfl) (by kernel_rfl) ?_
                                  replace hM := hM
                                  intro g231 W232 hM
                                  refine RunF.go 1 [0, 5, 6, 8, 9, 59, 60] (k' := (pin Go.Proofs.Try.f11 [1, 1, 1, 0, 1, 0, 0, 1, 0, 0, 1, 1] 8)) (L' := [(0, .slice Ap0 a0.length cp0), (5, .slice A196 ((x5_4 ++ ([U32 (t192)] : List Int)).length) c198), (6, .slice A215 ((x6_4 ++ ([U32 (t211)] : List Int)).length) c217), (8, .slice none 0 0), (9, .int .i64 x9_4), (59, .slice (some ⟨g231, 0, none⟩) 1 1), (60, .slice A7_4 x7_4.length c7_4)]) (w' := W232) (by kernel_rfl) ?_
                                  rcases two (decide (([t230] : List Int).length + x7_4.length ≤ 1000000000)) with c238 | c238
                                  · replace h := of_true h c238
                                    have h_ := of_decide_eq_true c238
                                    obtain ⟨A234, n235, c236, W237, hD, hM', hS_⟩ := app_does (P := Go.Proofs.Try.prog) (n := 93) (k := (pin Go.Proofs.Try.f11 [1, 1, 1, 0, 1, 0, 0, 1, 0, 0, 1, 1] 8)) (L := [(0, .slice Ap0 a0.length cp0), (5, .slice A196 ((x5_4 ++ ([U32 (t192)] : List Int)).length) c198), (6, .slice A215 ((x6_4 ++ ([U32 (t211)] : List Int)).length) c217), (8, .slice none 0 0), (9, .int .i64 x9_4), (59, .slice (some ⟨g231, 0, none⟩) 1 1), (60, .slice A7_4 x7_4.length c7_4)]) (d := some 61) (e := 37) (A := (some ⟨g231, 0, none⟩)) (m := 1) (c := 1) (A2 := A7_4) (m2 := x7_4.length) (c2 := c7_4) (cs := nums .u32 ([t230] : List Int)) (ys := nums .u32 x7_4) (k2 := (pin Go.Proofs.Try.f11 [1, 1, 1, 0, 1, 0, 0, 1, 0, 0, 1, 1] 9)) [] [⟨.slice (some ⟨g212, 0, none⟩) 1 1, 37, 1, nums .u32 [U32 (t211)]⟩, ⟨.slice (some ⟨g193, 0, none⟩) 1 1, 37, 1, nums .u32 [U32 (t192)]⟩, ⟨.slice A196 ((x5_4 ++ ([U32 (t192)] : List Int)).length) c198, 37, 1, nums .u32 (x5_4 ++ ([U32 (t192)] : List Int))⟩, ⟨.slice A215 ((x6_4 ++ ([U32 (t211)] : List Int)).length) c217, 37, 1, nums .u32 (x6_4 ++ ([U32 (t211)] : List Int))⟩, ⟨.slice A7_4 x7_4.length c7_4, 37, 1, nums .u32 x7_4⟩] (by kernel_rfl) (hM.pick [0, 1, 2, 3, 4, 5] rfl rfl) (hM.rd 5 rfl) (one_nums _ _) (by omega)
                                    rw [nums_append] at hM'
                                    replace hM := hM'; clear h_ hM'
                                    obtain rfl : (([t230] : List Int) ++ x7_4).length = n235 := by have h_ := (hM.rd 0 rfl).1; simpa only [nums_length, bools_length, strs_length] using h_
                                    refine RunF.does hD ?_
                                    clear hD hS_
                                    refine RunF.go 9 [0, 5, 6, 7, 8, 9] (k' := (pl Go.Proofs.Try.f11 [1, 1, 1, 0, 1, 0, 0])) (L' := [(0, .slice Ap0 a0.length cp0), (5, .slice A196 ((x5_4 ++ ([U32 (t192)] : List Int)).length) c198), (6, .slice A215 ((x6_4 ++ ([U32 (t211)] : List Int)).length) c217), (7, .slice A234 ((([t230] : List Int) ++ x7_4).length) c236), (8, .slice none 0 0), (9, .int .i64 (I64 (x9_4 + 8)))]) (w' := W237) (by kernel_rfl) ?_
                                    exact ih4 k (by omega) A196 c198 (x5_4 ++ ([U32 (t192)] : List Int)) A215 c217 (x6_4 ++ ([U32 (t211)] : List Int)) A234 c236 (([t230] : List Int) ++ x7_4) (I64 (x9_4 + 8)) _ (hM.pick [3, 4, 0] rfl rfl) h
                                  · replace h := of_false h c238
                                    cases h
                                · replace h := of_false h c223
                                  cases h
                              · replace h := of_false h c222
                                cases h
                            · replace h := of_false h c221
                              cases h
                          · replace h := of_false h c219
                            cases h
                        · replace h := of_false h c204
                          cases h
                      · replace h := of_false h c203
                        cases h
                    · replace h := of_false h c202
                      cases h
                  · replace h := of_false h c200
                    cases h
                · replace h := of_false h c185
                  cases h
              · replace h := of_false h c184
                cases h
            · replace h := of_false h c183
              cases h
          · replace h := of_false h c182
            refine RunF.know 29 (b := false) (by kernel_rfl) c182 ?_
            refine RunF.go 9 [5, 6, 7, 8, 10] (k' := (pl Go.Proofs.Try.f11 [1, 1, 1, 1, 0, 1, 0, 0])) (L' := [(5, .slice A5_4 x5_4.length c5_4), (6, .slice A6_4 x6_4.length c6_4), (7, .slice A7_4 x7_4.length c7_4), (8, .slice none 0 0), (10, .int .i64 0)]) (w' := W) (by kernel_rfl) ?_
            replace hM := hM.nil 37
            have l5 : ∀ (k_ : Nat), k_ ≤ k → ∀ (A8_5 : Option Addr) (c8_5 : Nat) (x8_5 : List Int) (x10_5 : Int) (W : World) (hM : Mem w W [⟨.slice A5_4 x5_4.length c5_4, 37, 1, nums .u32 x5_4⟩, ⟨.slice A6_4 x6_4.length c6_4, 37, 1, nums .u32 x6_4⟩, ⟨.slice A7_4 x7_4.length c7_4, 37, 1, nums .u32 x7_4⟩, ⟨.slice A8_5 x8_5.length c8_5, 37, 1, nums .u32 x8_5⟩]) (h : scrimref9_Keys.l5 k_ x5_4 x6_4 x7_4 x8_5 x10_5 = some r), RunF Go.Proofs.Try.prog (Ret fun v w' => ∃ A0' n0' c0', ∃ A1' n1' c1', v = .tuple #[.slice A0' n0' c0', .slice A1' n1' c1', .int .i64 r.2.2] ∧ Mem w w' [⟨.slice A0' n0' c0', 37, 1, nums .u32 r.1⟩, ⟨.slice A1' n1' c1', 37, 1, nums .u32 r.2.1⟩]) 11 (pl Go.Proofs.Try.f11 [1, 1, 1, 1, 0, 1, 0, 0]) 93 [(5, .slice A5_4 x5_4.length c5_4), (6, .slice A6_4 x6_4.length c6_4), (7, .slice A7_4 x7_4.length c7_4), (8, .slice A8_5 x8_5.length c8_5), (10, .int .i64 x10_5)] W := by
              intro k_
              induction k_ using Nat.strongRecOn with
              | _ k_ ih5 =>
                intro hk A8_5 c8_5 x8_5 x10_5 W hM h
                cases k_ with
                | zero => exact absurd h (by simp [scrimref9_Keys.l5])
                | succ k =>
                  simp only [scrimref9_Keys.l5] at h
                  replace ih5 : ∀ m, m ≤ k → _ := fun m hm => ih5 m (by omega) (by omega)
                  replace ih4 : ∀ m, m ≤ k → _ := fun m hm => ih4 m (by omega)
                  refine RunF.go 6 [5, 6, 7, 8, 10, 63] (k' := (pl Go.Proofs.Try.f11 [1, 1, 1, 1, 0, 1, 0, 0, 0, 1])) (L' := [(5, .slice A5_4 x5_4.length c5_4), (6, .slice A6_4 x6_4.length c6_4), (7, .slice A7_4 x7_4.length c7_4), (8, .slice A8_5 x8_5.length c8_5), (10, .int .i64 x10_5), (63, .bool (decide (x10_5 < 20)))]) (w' := W) (by kernel_rfl) ?_
                  rcases two (decide (x10_5 < 20)) with c242 | c242
                  · replace h := of_true h c242
                    refine RunF.know 63 (b := true) (by kernel_rfl) c242 ?_
                    refine RunF.go 11 [5, 6, 7, 8, 10, 69, 70] (k' := (pin Go.Proofs.Try.f11 [1, 1, 1, 1, 0, 1, 0, 0, 1, 0, 0, 0] 5)) (L' := [(5, .slice A5_4 x5_4.length c5_4), (6, .slice A6_4 x6_4.length c6_4), (7, .slice A7_4 x7_4.length c7_4), (8, .slice A8_5 x8_5.length c8_5), (10, .int .i64 x10_5), (69, .int .u32 (U32 ((U32 (I64 (2 * x10_5))) * 16843009))), (70, .slice A5_4 x5_4.length c5_4)]) (w' := W) (by kernel_rfl) ?_
                    obtain ⟨t244, ht244, h⟩ := Option.bind_eq_some_iff.mp h
                    refine RunF.call (d := some 71) (g := 17) (args := #[.int .u32 (U32 ((U32 (I64 (2 * x10_5))) * 16843009)), .slice A5_4 x5_4.length c5_4]) (k2 := (pin Go.Proofs.Try.f11 [1, 1, 1, 1, 0, 1, 0, 0, 1, 0, 0, 0] 6)) (by kernel_rfl) (scrimref9_H.calls k (U32 ((U32 (I64 (2 * x10_5))) * 16843009)) A5_4 x5_4.length c5_4 x5_4 t244 _ (hM.rd 0 rfl) ht244) ?_
                    rintro _ W243 ⟨rfl, hM_⟩
                    replace hM := hM.call hM_
                    clear hM_ ht244
                    refine RunF.go 10 [5, 6, 7, 8, 10, 11, 76, 77] (k' := (pin Go.Proofs.Try.f11 [1, 1, 1, 1, 0, 1, 0, 0, 1, 0, 0, 1, 0] 6)) (L' := [(5, .slice A5_4 x5_4.length c5_4), (6, .slice A6_4 x6_4.length c6_4), (7, .slice A7_4 x7_4.length c7_4), (8, .slice A8_5 x8_5.length c8_5), (10, .int .i64 x10_5), (11, .int .u32 t244), (76, .int .u32 (U32 ((U32 (I64 ((I64 (2 * x10_5)) + 1))) * 16843009))), (77, .slice A6_4 x6_4.length c6_4)]) (w' := W243) (by kernel_rfl) ?_
                    obtain ⟨y245, hy, h⟩ := Option.bind_eq_some_iff.mp h
                    rw [show (U32 ((U32 (I64 ((I64 (2 * x10_5)) + 1))) * 16843009)) = y245 from Option.some.inj hy]
                    clear hy
                    obtain ⟨t247, ht247, h⟩ := Option.bind_eq_some_iff.mp h
                    refine RunF.call (d := some 78) (g := 17) (args := #[.int .u32 y245, .slice A6_4 x6_4.length c6_4]) (k2 := (pin Go.Proofs.Try.f11 [1, 1, 1, 1, 0, 1, 0, 0, 1, 0, 0, 1, 0] 7)) (by kernel_rfl) (scrimref9_H.calls k y245 A6_4 x6_4.length c6_4 x6_4 t247 _ (hM.rd 1 rfl) ht247) ?_
                    rintro _ W246 ⟨rfl, hM_⟩
                    replace hM := hM.call hM_
                    clear hM_ ht247
                    obtain ⟨t249, ht249, h⟩ := Option.bind_eq_some_iff.mp h
                    refine RunF.call (d := some 79) (g := 21) (args := #[.int .u32 t247, .int .i64 8]) (k2 := (pin Go.Proofs.Try.f11 [1, 1, 1, 1, 0, 1, 0, 0, 1, 0, 0, 1, 0] 8)) (by kernel_rfl) (scrimref1_Rol32.calls k t247 8 t249 _ ht249) ?_
                    rintro _ W248 ⟨rfl, hM_⟩
                    replace hM := hM.call hM_
                    clear hM_ ht249
                    refine RunF.go 11 [5, 6, 7, 10, 80, 83, 87] (k' := (pin Go.Proofs.Try.f11 [1, 1, 1, 1, 0, 1, 0, 0, 1, 0, 0, 1, 1] 8)) (L' := [(5, .slice A5_4 x5_4.length c5_4), (6, .slice A6_4 x6_4.length c6_4), (7, .slice A7_4 x7_4.length c7_4), (10, .int .i64 x10_5), (80, .slice A8_5 x8_5.length c8_5), (83, .int .u32 (U32 (t244 + t249))), (87, .int .u32 (U32 (t244 + (U32 (2 * t249)))))]) (w' := W248) (by kernel_rfl) ?_
                    obtain ⟨t251, ht251, h⟩ := Option.bind_eq_some_iff.mp h
                    refine RunF.call (d := some 88) (g := 21) (args := #[.int .u32 (U32 (t244 + (U32 (2 * t249)))), .int .i64 9]) (k2 := (pin Go.Proofs.Try.f11 [1, 1, 1, 1, 0, 1, 0, 0, 1, 0, 0, 1, 1] 9)) (by kernel_rfl) (scrimref1_Rol32.calls k (U32 (t244 + (U32 (2 * t249)))) 9 t251 _ ht251) ?_
                    rintro _ W250 ⟨rfl, hM_⟩
                    replace hM := hM.call hM_
                    clear hM_ ht251
                    refine RunF.new 37 1 2 (nums .u32 [U32 (t244 + t249), t251]) (d := some 89) (k2 := (pin Go.Proofs.Try.f11 [1, 1, 1, 1, 0, 1, 0, 0, 1, 0, 0, 1, 1] 10)) hM (by simp [nums, bools, strs]) (by kernel_rfl) (by kernel_rfl) ?_
                    replace hM := hM
                    intro g252 W253 hM
                    rcases two (decide (x8_5.length + ([U32 (t244 + t249), t251] : List Int).length ≤ 1000000000)) with c259 | c259
                    · replace h := of_true h c259
                      have h_ := of_decide_eq_true c259
                      obtain ⟨A255, n256, c257, W258, hD, hM', hS_⟩ := app_does (P := Go.Proofs.Try.prog) (n := 93) (k := (pin Go.Proofs.Try.f11 [1, 1, 1, 1, 0, 1, 0, 0, 1, 0, 0, 1, 1] 10)) (L := (upd (upd [(5, .slice A5_4 x5_4.length c5_4), (6, .slice A6_4 x6_4.length c6_4), (7, .slice A7_4 x7_4.length c7_4), (10, .int .i64 x10_5), (80, .slice A8_5 x8_5.length c8_5), (83, .int .u32 (U32 (t244 + t249))), (87, .int .u32 (U32 (t244 + (U32 (2 * t249)))))] (some 88) (.int .u32 t251)) (some 89) (.slice (some ⟨g252, 0, none⟩) 2 2))) (d := some 90) (e := 37) (A := A8_5) (m := x8_5.length) (c := c8_5) (A2 := (some ⟨g252, 0, none⟩)) (m2 := 2) (c2 := 2) (cs := nums .u32 x8_5) (ys := nums .u32 ([U32 (t244 + t249), t251] : List Int)) (k2 := (pin Go.Proofs.Try.f11 [1, 1, 1, 1, 0, 1, 0, 0, 1, 0, 0, 1, 1] 11)) [⟨.slice (some ⟨g252, 0, none⟩) 2 2, 37, 1, nums .u32 [U32 (t244 + t249), t251]⟩, ⟨.slice A5_4 x5_4.length c5_4, 37, 1, nums .u32 x5_4⟩, ⟨.slice A6_4 x6_4.length c6_4, 37, 1, nums .u32 x6_4⟩, ⟨.slice A7_4 x7_4.length c7_4, 37, 1, nums .u32 x7_4⟩] [] (by kernel_rfl) (hM.pick [0, 1, 2, 3, 4] rfl rfl) (hM.rd 0 rfl) (one_nums _ _) (by omega)
                      rw [nums_append] at hM'
                      replace hM := hM'; clear h_ hM'
                      obtain rfl : (x8_5 ++ ([U32 (t244 + t249), t251] : List Int)).length = n256 := by have h_ := (hM.rd 4 rfl).1; simpa only [nums_length, bools_length, strs_length] using h_
                      refine RunF.does hD ?_
                      clear hD hS_
                      refine RunF.go 9 [5, 6, 7, 8, 10] (k' := (pl Go.Proofs.Try.f11 [1, 1, 1, 1, 0, 1, 0, 0])) (L' := [(5, .slice A5_4 x5_4.length c5_4), (6, .slice A6_4 x6_4.length c6_4), (7, .slice A7_4 x7_4.length c7_4), (8, .slice A255 ((x8_5 ++ ([U32 (t244 + t249), t251] : List Int)).length) c257), (10, .int .i64 (I64 (x10_5 + 1)))]) (w' := W258) (by kernel_rfl) ?_
                      exact ih5 k (by omega) A255 c257 (x8_5 ++ ([U32 (t244 + t249), t251] : List Int)) (I64 (x10_5 + 1)) _ (hM.pick [1, 2, 3, 4] rfl rfl) h
                    · replace h := of_false h c259
                      cases h
                  · replace h := of_false h c242
                    refine RunF.know 63 (b := false) (by kernel_rfl) c242 ?_
                    refine RunF.go 10 [2, 3, 4] (k' := (pl Go.Proofs.Try.f11 [1, 1, 1, 1, 1, 1])) (L' := [(2, .slice A8_5 x8_5.length c8_5), (3, .slice A7_4 x7_4.length c7_4), (4, .int .i64 0)]) (w' := W) (by kernel_rfl) ?_
                    obtain rfl := Option.some.inj h
                    exact RunF.ret3 2 3 4 (.slice A8_5 x8_5.length c8_5) (.slice A7_4 x7_4.length c7_4) (.int .i64 0) (fn := Go.Proofs.Try.f11) Go.Proofs.Try.func11 (by kernel_rfl) (by kernel_rfl) (by kernel_rfl) (by kernel_rfl) (by kernel_rfl) ⟨_, rfl, A8_5, x8_5.length, c8_5, A7_4, x7_4.length, c7_4, rfl, (hM.pick [3, 2] rfl rfl)⟩
            exact l5 k (Nat.le_refl _) none 0 ([] : List Int) 0 _ (hM.pick [1, 2, 3, 0] rfl rfl) h
    exact l4 k (Nat.le_refl _) none 0 ([] : List Int) none 0 ([] : List Int) none 0 ([] : List Int) 0 _ (hM.pick [2, 1, 0] rfl rfl) h

/-! ### scrim/scrimlaw9.alike: function 12 -/
def scrimlaw9_alike.l0 : Nat → (List Int) → (List Int) → Int → Option (Bool)
  | 0, _, _, _ => none
  | k + 1, a0, a1, x5_0 => if (decide (x5_0 < (a0.length : Int))) = true then (if (decide (0 ≤ x5_0)) = true then (if (decide (x5_0 < (a0.length : Int))) = true then (if (decide (0 ≤ x5_0)) = true then (if (decide (x5_0 < (a1.length : Int))) = true then (if ((rd a0 x5_0) != (rd a1 x5_0)) = true then (some false) else (scrimlaw9_alike.l0 k a0 a1 (I64 (x5_0 + 1)))) else (none)) else (none)) else (none)) else (none)) else (some true)
def scrimlaw9_alike.f (k : Nat) (a0 : List Int) (a1 : List Int) : Option (Bool) := if ((a0.length : Int) != (a1.length : Int)) = true then (some false) else (scrimlaw9_alike.l0 k a0 a1 0)
set_option maxRecDepth 100000 in
theorem scrimlaw9_alike.calls (k : Nat) (Ap0 : Option Addr) (np0 cp0 : Nat) (a0 : List Int) (Ap1 : Option Addr) (np1 cp1 : Nat) (a1 : List Int) (r : Bool) (w : World) (hr0 : Rd w (.slice Ap0 np0 cp0) (nums .u32 a0)) (hr1 : Rd w (.slice Ap1 np1 cp1) (nums .u32 a1)) (h : scrimlaw9_alike.f k a0 a1 = some r) :
    Calls Go.Proofs.Try.prog 12 #[(.slice Ap0 np0 cp0), (.slice Ap1 np1 cp1)] w (Ret fun v w' => v = .bool r ∧ Mem w w' []) := by
  obtain rfl : a0.length = np0 := by have h_ := hr0.1; simpa [nums_length, bools_length, strs_length] using h_
  obtain rfl : a1.length = np1 := by have h_ := hr1.1; simpa [nums_length, bools_length, strs_length] using h_
  unfold scrimlaw9_alike.f at h
  refine calls_of [.slice Ap0 a0.length cp0, .slice Ap1 a1.length cp1] (fn := Go.Proofs.Try.f12) Go.Proofs.Try.func12 (by kernel_rfl) (by kernel_rfl) ?_
  have hM := Mem.refl w
  refine RunF.go 13 [0, 1, 10] (k' := (pl Go.Proofs.Try.f12 [1, 0, 1])) (L' := [(0, .slice Ap0 a0.length cp0), (1, .slice Ap1 a1.length cp1), (10, .bool ((a0.length : Int) != (a1.length : Int)))]) (w' := w) (by kernel_rfl) ?_
  rcases two (((a0.length : Int) != (a1.length : Int))) with c1 | c1
  · replace h := of_true h c1
    refine RunF.know 10 (b := true) (by kernel_rfl) c1 ?_
    refine RunF.go 5 [4] (k' := (pl Go.Proofs.Try.f12 [1, 0, 1, 0, 1])) (L' := [(4, .bool false)]) (w' := w) (by kernel_rfl) ?_
    obtain rfl := Option.some.inj h
    exact RunF.ret1 4 (.bool false) (fn := Go.Proofs.Try.f12) Go.Proofs.Try.func12 (by kernel_rfl) (by kernel_rfl) (by kernel_rfl) ⟨_, rfl, rfl, (hM.pick [] rfl rfl)⟩
  · replace h := of_false h c1
    refine RunF.know 10 (b := false) (by kernel_rfl) c1 ?_
    refine RunF.go 9 [0, 1, 5] (k' := (pl Go.Proofs.Try.f12 [1, 1, 0, 1, 0, 0])) (L' := [(0, .slice Ap0 a0.length cp0), (1, .slice Ap1 a1.length cp1), (5, .int .i64 0)]) (w' := w) (by kernel_rfl) ?_
    have l0 : ∀ (k_ : Nat), k_ ≤ k → ∀ (x5_0 : Int) (W : World) (hM : Mem w W []) (h : scrimlaw9_alike.l0 k_ a0 a1 x5_0 = some r), RunF Go.Proofs.Try.prog (Ret fun v w' => v = .bool r ∧ Mem w w' []) 12 (pl Go.Proofs.Try.f12 [1, 1, 0, 1, 0, 0]) 26 [(0, .slice Ap0 a0.length cp0), (1, .slice Ap1 a1.length cp1), (5, .int .i64 x5_0)] W := by
      intro k_
      induction k_ using Nat.strongRecOn with
      | _ k_ ih0 =>
        intro hk x5_0 W hM h
        cases k_ with
        | zero => exact absurd h (by simp [scrimlaw9_alike.l0])
        | succ k =>
          simp only [scrimlaw9_alike.l0] at h
          replace ih0 : ∀ m, m ≤ k → _ := fun m hm => ih0 m (by omega) (by omega)
          refine RunF.go 8 [0, 1, 5, 14] (k' := (pl Go.Proofs.Try.f12 [1, 1, 0, 1, 0, 0, 0, 1])) (L' := [(0, .slice Ap0 a0.length cp0), (1, .slice Ap1 a1.length cp1), (5, .int .i64 x5_0), (14, .bool (decide (x5_0 < (a0.length : Int))))]) (w' := W) (by kernel_rfl) ?_
          rcases two (decide (x5_0 < (a0.length : Int))) with c2 | c2
          · replace h := of_true h c2
            refine RunF.know 14 (b := true) (by kernel_rfl) c2 ?_
            refine RunF.go 5 [0, 1, 5] (k' := (pl Go.Proofs.Try.f12 [1, 1, 0, 1, 0, 0, 1, 0, 0, 0])) (L' := [(0, .slice Ap0 a0.length cp0), (1, .slice Ap1 a1.length cp1), (5, .int .i64 x5_0)]) (w' := W) (by kernel_rfl) ?_
            refine RunF.draw (Still ({ W with drawn := W.drawn + 1 } : World) []) (by kernel_rfl) (by kernel_rfl) ?_
            have hMd4 := hM.drew
            have hS := Still.refl ({ W with drawn := W.drawn + 1 } : World) []
            generalize ({ W with drawn := W.drawn + 1 } : World) = W3 at hMd4 hS ⊢
            replace hM := hMd4
            refine RunAny.y 0 (by kernel_rfl) (yl_pure (d := some 17) (v := .slice Ap0 a0.length cp0) (k2 := [.inRegion (opsOf (pl Go.Proofs.Try.f12 [1, 1, 0, 1, 0, 0, 1, 0, 0, 0])) []]) fun w => by kernel_rfl) (fun _ _ => trivial) hS ?_
            refine RunAny.y 1 (by kernel_rfl) (yl_pure (d := some 18) (v := .int .i64 x5_0) (k2 := [.inRegion (opsOf (pl Go.Proofs.Try.f12 [1, 1, 0, 1, 0, 0, 1, 0, 0, 0])) []]) fun w => by kernel_rfl) (fun _ _ => trivial) hS ?_
            rcases two (decide (0 ≤ x5_0)) with c6 | c6
            · replace h := of_true h c6
              rcases two (decide (x5_0 < (a0.length : Int))) with c7 | c7
              · replace h := of_true h c7
                obtain ⟨q5, hAq5, hcq5⟩ := Rd.num (hr0.mono hM.below) (i := x5_0) (of_decide_eq_true c6) (by have h_ := of_decide_eq_true c7; omega)
                refine RunAny.y 2 (by kernel_rfl) (idx_y (d := some 19) (A := Ap0) (m := a0.length) (i := x5_0) (k2 := [.inRegion (opsOf (pl Go.Proofs.Try.f12 [1, 1, 0, 1, 0, 0, 1, 0, 0, 0])) []]) (by kernel_rfl) (of_decide_eq_true c6) (by have h_ := of_decide_eq_true c7; omega) hAq5) (fun _ _ => trivial) hS ?_
                refine RunAny.y 3 (by kernel_rfl) (ld_y (d := some 20) (p := (q5.add (x5_0 : Int).toNat)) (k2 := [.inRegion (opsOf (pl Go.Proofs.Try.f12 [1, 1, 0, 1, 0, 0, 1, 0, 0, 0])) []]) (.int .u32 (rd a0 x5_0)) (by kernel_rfl)) (fun _ hs => hs.cell hcq5 (by simp)) hS ?_
                refine RunAny.y 4 (by kernel_rfl) (yl_pure (d := some 21) (v := .slice Ap1 a1.length cp1) (k2 := [.inRegion (opsOf (pl Go.Proofs.Try.f12 [1, 1, 0, 1, 0, 0, 1, 0, 0, 0])) []]) fun w => by kernel_rfl) (fun _ _ => trivial) hS ?_
                refine RunAny.y 5 (by kernel_rfl) (yl_pure (d := some 22) (v := .int .i64 x5_0) (k2 := [.inRegion (opsOf (pl Go.Proofs.Try.f12 [1, 1, 0, 1, 0, 0, 1, 0, 0, 0])) []]) fun w => by kernel_rfl) (fun _ _ => trivial) hS ?_
                rcases two (decide (0 ≤ x5_0)) with c9 | c9
                · replace h := of_true h c9
                  rcases two (decide (x5_0 < (a1.length : Int))) with c10 | c10
                  · replace h := of_true h c10
                    obtain ⟨q8, hAq8, hcq8⟩ := Rd.num (hr1.mono hM.below) (i := x5_0) (of_decide_eq_true c9) (by have h_ := of_decide_eq_true c10; omega)
                    refine RunAny.y 6 (by kernel_rfl) (idx_y (d := some 23) (A := Ap1) (m := a1.length) (i := x5_0) (k2 := [.inRegion (opsOf (pl Go.Proofs.Try.f12 [1, 1, 0, 1, 0, 0, 1, 0, 0, 0])) []]) (by kernel_rfl) (of_decide_eq_true c9) (by have h_ := of_decide_eq_true c10; omega) hAq8) (fun _ _ => trivial) hS ?_
                    refine RunAny.y 7 (by kernel_rfl) (ld_y (d := some 24) (p := (q8.add (x5_0 : Int).toNat)) (k2 := [.inRegion (opsOf (pl Go.Proofs.Try.f12 [1, 1, 0, 1, 0, 0, 1, 0, 0, 0])) []]) (.int .u32 (rd a1 x5_0)) (by kernel_rfl)) (fun _ hs => hs.cell hcq8 (by simp)) hS ?_
                    refine RunAny.y 8 (by kernel_rfl) (yl_pure (d := some 25) (v := .bool ((rd a0 x5_0) != (rd a1 x5_0))) (k2 := [.inRegion (opsOf (pl Go.Proofs.Try.f12 [1, 1, 0, 1, 0, 0, 1, 0, 0, 0])) []]) fun w => by kernel_rfl) (fun _ _ => trivial) hS ?_
                    refine RunAny.done (by kernel_rfl) ?_
                    clear hS
                    rcases two (((rd a0 x5_0) != (rd a1 x5_0))) with c11 | c11
                    · replace h := of_true h c11
                      refine RunF.know 25 (b := true) (by kernel_rfl) c11 ?_
                      refine RunF.go 5 [4] (k' := (pl Go.Proofs.Try.f12 [1, 1, 0, 1, 0, 0, 1, 0, 0, 1, 0, 1])) (L' := [(4, .bool false)]) (w' := W3) (by kernel_rfl) ?_
                      obtain rfl := Option.some.inj h
                      exact RunF.ret1 4 (.bool false) (fn := Go.Proofs.Try.f12) Go.Proofs.Try.func12 (by kernel_rfl) (by kernel_rfl) (by kernel_rfl) ⟨_, rfl, rfl, (hM.pick [] rfl rfl)⟩
                    · replace h := of_false h c11
                      refine RunF.know 25 (b := false) (by kernel_rfl) c11 ?_
                      refine RunF.go 9 [0, 1, 5] (k' := (pl Go.Proofs.Try.f12 [1, 1, 0, 1, 0, 0])) (L' := [(0, .slice Ap0 a0.length cp0), (1, .slice Ap1 a1.length cp1), (5, .int .i64 (I64 (x5_0 + 1)))]) (w' := W3) (by kernel_rfl) ?_
                      exact ih0 k (by omega) (I64 (x5_0 + 1)) _ (hM.pick [] rfl rfl) h
                  · replace h := of_false h c10
                    cases h
                · replace h := of_false h c9
                  cases h
              · replace h := of_false h c7
                cases h
            · replace h := of_false h c6
              cases h
          · replace h := of_false h c2
            refine RunF.know 14 (b := false) (by kernel_rfl) c2 ?_
            refine RunF.go 6 [4] (k' := (pl Go.Proofs.Try.f12 [1, 1, 1, 1])) (L' := [(4, .bool true)]) (w' := W) (by kernel_rfl) ?_
            obtain rfl := Option.some.inj h
            exact RunF.ret1 4 (.bool true) (fn := Go.Proofs.Try.f12) Go.Proofs.Try.func12 (by kernel_rfl) (by kernel_rfl) (by kernel_rfl) ⟨_, rfl, rfl, (hM.pick [] rfl rfl)⟩
    exact l0 k (Nat.le_refl _) 0 _ (hM.pick [] rfl rfl) h

/-! ### scrim/scrimlaw9.TwofishKeys: function 3 -/
def scrimlaw9_TwofishKeys.f (k : Nat) (a0 : List Int) (a1 : Int) (a2 : List Int) : Option (Bool) := (scrimlaw9_known.f k).bind fun t2 => (if (!t2) = true then (some false) else (if (decide ((a2.length : Int) > 60)) = true then (some true) else ((scrimlaw9_key.f k a0 a1).bind fun t6 => ((twofish_Keys.f k t6).bind fun t12 => ((scrimlaw9_key.f k a0 a1).bind fun t22 => ((scrimref9_Keys.f k t22).bind fun t28 => ((twofish_Keys.f k a2).bind fun t38 => ((scrimref9_Keys.f k a2).bind fun t48 => (if (t12.2.2 == t28.2.2) = true then ((scrimlaw9_alike.f k t12.1 t28.1).bind fun t59 => (if t59 = true then ((scrimlaw9_alike.f k t12.2.1 t28.2.1).bind fun t62 => (if t62 = true then (if (t38.2.2 == t48.2.2) = true then ((scrimlaw9_alike.f k t38.1 t48.1).bind fun t66 => (if t66 = true then ((scrimlaw9_alike.f k t38.2.1 t48.2.1).bind fun t69 => (some t69)) else (some false))) else (some false)) else (some false))) else (some false))) else (some false))))))))))
set_option maxRecDepth 100000 in
theorem scrimlaw9_TwofishKeys.calls (k : Nat) (Ap0 : Option Addr) (np0 cp0 : Nat) (a0 : List Int) (a1 : Int) (Ap2 : Option Addr) (np2 cp2 : Nat) (a2 : List Int) (r : Bool) (w : World) (hr0 : Rd w (.slice Ap0 np0 cp0) (nums .u8 a0)) (hr2 : Rd w (.slice Ap2 np2 cp2) (nums .u8 a2)) (h : scrimlaw9_TwofishKeys.f k a0 a1 a2 = some r) :
    Calls Go.Proofs.Try.prog 3 #[(.slice Ap0 np0 cp0), .int .i64 a1, (.slice Ap2 np2 cp2)] w (Ret fun v w' => v = .bool r ∧ Mem w w' []) := by
  obtain rfl : a0.length = np0 := by have h_ := hr0.1; simpa [nums_length, bools_length, strs_length] using h_
  obtain rfl : a2.length = np2 := by have h_ := hr2.1; simpa [nums_length, bools_length, strs_length] using h_
  unfold scrimlaw9_TwofishKeys.f at h
  refine calls_of [.slice Ap0 a0.length cp0, .int .i64 a1, .slice Ap2 a2.length cp2] (fn := Go.Proofs.Try.f3) Go.Proofs.Try.func3 (by kernel_rfl) (by kernel_rfl) ?_
  have hM := Mem.refl w
  refine RunF.go 7 [0, 1, 2] (k' := (pin Go.Proofs.Try.f3 [1, 0, 0] 0)) (L' := [(0, .slice Ap0 a0.length cp0), (1, .int .i64 a1), (2, .slice Ap2 a2.length cp2)]) (w' := w) (by kernel_rfl) ?_
  obtain ⟨t2, ht2, h⟩ := Option.bind_eq_some_iff.mp h
  refine RunF.call (d := some 19) (g := 8) (args := #[]) (k2 := (pin Go.Proofs.Try.f3 [1, 0, 0] 1)) (by kernel_rfl) (scrimlaw9_known.calls k t2 _ ht2) ?_
  rintro _ W1 ⟨rfl, hM_⟩
  replace hM := hM.call hM_
  clear hM_ ht2
  refine RunF.go 2 [0, 1, 2, 20] (k' := (pl Go.Proofs.Try.f3 [1, 0, 1])) (L' := [(0, .slice Ap0 a0.length cp0), (1, .int .i64 a1), (2, .slice Ap2 a2.length cp2), (20, .bool (!t2))]) (w' := W1) (by kernel_rfl) ?_
  rcases two (!t2) with c3 | c3
  · replace h := of_true h c3
    refine RunF.know 20 (b := true) (by kernel_rfl) c3 ?_
    refine RunF.go 5 [6] (k' := (pl Go.Proofs.Try.f3 [1, 0, 1, 0, 1])) (L' := [(6, .bool false)]) (w' := W1) (by kernel_rfl) ?_
    obtain rfl := Option.some.inj h
    exact RunF.ret1 6 (.bool false) (fn := Go.Proofs.Try.f3) Go.Proofs.Try.func3 (by kernel_rfl) (by kernel_rfl) (by kernel_rfl) ⟨_, rfl, rfl, (hM.pick [] rfl rfl)⟩
  · replace h := of_false h c3
    refine RunF.know 20 (b := false) (by kernel_rfl) c3 ?_
    refine RunF.go 9 [0, 1, 2, 23] (k' := (pl Go.Proofs.Try.f3 [1, 1, 0, 1])) (L' := [(0, .slice Ap0 a0.length cp0), (1, .int .i64 a1), (2, .slice Ap2 a2.length cp2), (23, .bool (decide ((a2.length : Int) > 60)))]) (w' := W1) (by kernel_rfl) ?_
    rcases two (decide ((a2.length : Int) > 60)) with c4 | c4
    · replace h := of_true h c4
      refine RunF.know 23 (b := true) (by kernel_rfl) c4 ?_
      refine RunF.go 5 [6] (k' := (pl Go.Proofs.Try.f3 [1, 1, 0, 1, 0, 1])) (L' := [(6, .bool true)]) (w' := W1) (by kernel_rfl) ?_
      obtain rfl := Option.some.inj h
      exact RunF.ret1 6 (.bool true) (fn := Go.Proofs.Try.f3) Go.Proofs.Try.func3 (by kernel_rfl) (by kernel_rfl) (by kernel_rfl) ⟨_, rfl, rfl, (hM.pick [] rfl rfl)⟩
    · replace h := of_false h c4
      refine RunF.know 23 (b := false) (by kernel_rfl) c4 ?_
      refine RunF.go 6 [0, 1, 2, 25, 26] (k' := (pin Go.Proofs.Try.f3 [1, 1, 1, 0] 2)) (L' := [(0, .slice Ap0 a0.length cp0), (1, .int .i64 a1), (2, .slice Ap2 a2.length cp2), (25, .slice Ap0 a0.length cp0), (26, .int .i64 a1)]) (w' := W1) (by kernel_rfl) ?_
      obtain ⟨t6, ht6, h⟩ := Option.bind_eq_some_iff.mp h
      refine RunF.call (d := some 27) (g := 10) (args := #[.slice Ap0 a0.length cp0, .int .i64 a1]) (k2 := (pin Go.Proofs.Try.f3 [1, 1, 1, 0] 3)) (by kernel_rfl) (scrimlaw9_key.calls k Ap0 a0.length cp0 a0 a1 t6 _ (hr0.mono hM.below) ht6) ?_
      rintro _ W5 ⟨A7, n8, c9, rfl, hM_⟩
      obtain rfl : t6.length = n8 := by have h_ := (hM_.rd 0 rfl).1; simpa [nums_length, bools_length, strs_length] using h_
      replace hM := hM.call hM_
      clear hM_ ht6
      obtain ⟨t12, ht12, h⟩ := Option.bind_eq_some_iff.mp h
      refine RunF.call (d := some 28) (g := 9) (args := #[.slice A7 t6.length c9]) (k2 := (pin Go.Proofs.Try.f3 [1, 1, 1, 0] 4)) (by kernel_rfl) (twofish_Keys.calls k A7 t6.length c9 t6 t12 _ (hM.rd 0 rfl) ht12) ?_
      rintro _ W11 ⟨A13, n14, c15, A16, n17, c18, rfl, hM_⟩
      obtain rfl : t12.1.length = n14 := by have h_ := (hM_.rd 0 rfl).1; simpa [nums_length, bools_length, strs_length] using h_
      obtain rfl : t12.2.1.length = n17 := by have h_ := (hM_.rd 1 rfl).1; simpa [nums_length, bools_length, strs_length] using h_
      replace hM := hM.call hM_
      clear hM_ ht12
      refine RunF.go 12 [2, 7, 8, 9, 33, 34] (k' := (pin Go.Proofs.Try.f3 [1, 1, 1, 1, 0] 2)) (L' := [(2, .slice Ap2 a2.length cp2), (7, .slice A13 t12.1.length c15), (8, .slice A16 t12.2.1.length c18), (9, .int .i64 t12.2.2), (33, .slice Ap0 a0.length cp0), (34, .int .i64 a1)]) (w' := W11) (by kernel_rfl) ?_
      obtain ⟨t22, ht22, h⟩ := Option.bind_eq_some_iff.mp h
      refine RunF.call (d := some 35) (g := 10) (args := #[.slice Ap0 a0.length cp0, .int .i64 a1]) (k2 := (pin Go.Proofs.Try.f3 [1, 1, 1, 1, 0] 3)) (by kernel_rfl) (scrimlaw9_key.calls k Ap0 a0.length cp0 a0 a1 t22 _ (hr0.mono hM.below) ht22) ?_
      rintro _ W21 ⟨A23, n24, c25, rfl, hM_⟩
      obtain rfl : t22.length = n24 := by have h_ := (hM_.rd 0 rfl).1; simpa [nums_length, bools_length, strs_length] using h_
      replace hM := hM.call hM_
      clear hM_ ht22
      obtain ⟨t28, ht28, h⟩ := Option.bind_eq_some_iff.mp h
      refine RunF.call (d := some 36) (g := 11) (args := #[.slice A23 t22.length c25]) (k2 := (pin Go.Proofs.Try.f3 [1, 1, 1, 1, 0] 4)) (by kernel_rfl) (scrimref9_Keys.calls k A23 t22.length c25 t22 t28 _ (hM.rd 0 rfl) ht28) ?_
      rintro _ W27 ⟨A29, n30, c31, A32, n33, c34, rfl, hM_⟩
      obtain rfl : t28.1.length = n30 := by have h_ := (hM_.rd 0 rfl).1; simpa [nums_length, bools_length, strs_length] using h_
      obtain rfl : t28.2.1.length = n33 := by have h_ := (hM_.rd 1 rfl).1; simpa [nums_length, bools_length, strs_length] using h_
      replace hM := hM.call hM_
      clear hM_ ht28
      refine RunF.go 11 [2, 7, 8, 9, 10, 11, 12, 41] (k' := (pin Go.Proofs.Try.f3 [1, 1, 1, 1, 1, 0] 1)) (L' := [(2, .slice Ap2 a2.length cp2), (7, .slice A13 t12.1.length c15), (8, .slice A16 t12.2.1.length c18), (9, .int .i64 t12.2.2), (10, .slice A29 t28.1.length c31), (11, .slice A32 t28.2.1.length c34), (12, .int .i64 t28.2.2), (41, .slice Ap2 a2.length cp2)]) (w' := W27) (by kernel_rfl) ?_
      obtain ⟨t38, ht38, h⟩ := Option.bind_eq_some_iff.mp h
      refine RunF.call (d := some 42) (g := 9) (args := #[.slice Ap2 a2.length cp2]) (k2 := (pin Go.Proofs.Try.f3 [1, 1, 1, 1, 1, 0] 2)) (by kernel_rfl) (twofish_Keys.calls k Ap2 a2.length cp2 a2 t38 _ (hr2.mono hM.below) ht38) ?_
      rintro _ W37 ⟨A39, n40, c41, A42, n43, c44, rfl, hM_⟩
      obtain rfl : t38.1.length = n40 := by have h_ := (hM_.rd 0 rfl).1; simpa [nums_length, bools_length, strs_length] using h_
      obtain rfl : t38.2.1.length = n43 := by have h_ := (hM_.rd 1 rfl).1; simpa [nums_length, bools_length, strs_length] using h_
      replace hM := hM.call hM_
      clear hM_ ht38
      refine RunF.go 11 [7, 8, 9, 10, 11, 12, 13, 14, 15, 47] (k' := (pin Go.Proofs.Try.f3 [1, 1, 1, 1, 1, 1, 0] 1)) (L' := [(7, .slice A13 t12.1.length c15), (8, .slice A16 t12.2.1.length c18), (9, .int .i64 t12.2.2), (10, .slice A29 t28.1.length c31), (11, .slice A32 t28.2.1.length c34), (12, .int .i64 t28.2.2), (13, .slice A39 t38.1.length c41), (14, .slice A42 t38.2.1.length c44), (15, .int .i64 t38.2.2), (47, .slice Ap2 a2.length cp2)]) (w' := W37) (by kernel_rfl) ?_
      obtain ⟨t48, ht48, h⟩ := Option.bind_eq_some_iff.mp h
      refine RunF.call (d := some 48) (g := 11) (args := #[.slice Ap2 a2.length cp2]) (k2 := (pin Go.Proofs.Try.f3 [1, 1, 1, 1, 1, 1, 0] 2)) (by kernel_rfl) (scrimref9_Keys.calls k Ap2 a2.length cp2 a2 t48 _ (hr2.mono hM.below) ht48) ?_
      rintro _ W47 ⟨A49, n50, c51, A52, n53, c54, rfl, hM_⟩
      obtain rfl : t48.1.length = n50 := by have h_ := (hM_.rd 0 rfl).1; simpa [nums_length, bools_length, strs_length] using h_
      obtain rfl : t48.2.1.length = n53 := by have h_ := (hM_.rd 1 rfl).1; simpa [nums_length, bools_length, strs_length] using h_
      replace hM := hM.call hM_
      clear hM_ ht48
      refine RunF.go 14 [7, 8, 10, 11, 13, 14, 15, 16, 17, 18, 55] (k' := (pin Go.Proofs.Try.f3 [1, 1, 1, 1, 1, 1, 1, 0] 4)) (L' := [(7, .slice A13 t12.1.length c15), (8, .slice A16 t12.2.1.length c18), (10, .slice A29 t28.1.length c31), (11, .slice A32 t28.2.1.length c34), (13, .slice A39 t38.1.length c41), (14, .slice A42 t38.2.1.length c44), (15, .int .i64 t38.2.2), (16, .slice A49 t48.1.length c51), (17, .slice A52 t48.2.1.length c54), (18, .int .i64 t48.2.2), (55, .bool (t12.2.2 == t28.2.2))]) (w' := W47) (by kernel_rfl) ?_
      rcases two ((t12.2.2 == t28.2.2)) with c57 | c57
      · replace h := of_true h c57
        refine RunF.know 55 (b := true) (by kernel_rfl) c57 ?_
        refine RunF.go 2 [8, 11, 13, 14, 15, 16, 17, 18, 55, 56, 57] (k' := (pin Go.Proofs.Try.f3 [1, 1, 1, 1, 1, 1, 1, 0] 6)) (L' := [(8, .slice A16 t12.2.1.length c18), (11, .slice A32 t28.2.1.length c34), (13, .slice A39 t38.1.length c41), (14, .slice A42 t38.2.1.length c44), (15, .int .i64 t38.2.2), (16, .slice A49 t48.1.length c51), (17, .slice A52 t48.2.1.length c54), (18, .int .i64 t48.2.2), (55, .bool true), (56, .slice A13 t12.1.length c15), (57, .slice A29 t28.1.length c31)]) (w' := W47) (by kernel_rfl) ?_
        obtain ⟨t59, ht59, h⟩ := Option.bind_eq_some_iff.mp h
        refine RunF.call (d := some 58) (g := 12) (args := #[.slice A13 t12.1.length c15, .slice A29 t28.1.length c31]) (k2 := (pin Go.Proofs.Try.f3 [1, 1, 1, 1, 1, 1, 1, 0] 7)) (by kernel_rfl) (scrimlaw9_alike.calls k A13 t12.1.length c15 t12.1 A29 t28.1.length c31 t28.1 t59 _ (hM.rd 7 rfl) (hM.rd 4 rfl) ht59) ?_
        rintro _ W58 ⟨rfl, hM_⟩
        replace hM := hM.call hM_
        clear hM_ ht59
        refine RunF.go 2 [8, 11, 13, 14, 15, 16, 17, 18, 60] (k' := (pin Go.Proofs.Try.f3 [1, 1, 1, 1, 1, 1, 1, 0] 9)) (L' := [(8, .slice A16 t12.2.1.length c18), (11, .slice A32 t28.2.1.length c34), (13, .slice A39 t38.1.length c41), (14, .slice A42 t38.2.1.length c44), (15, .int .i64 t38.2.2), (16, .slice A49 t48.1.length c51), (17, .slice A52 t48.2.1.length c54), (18, .int .i64 t48.2.2), (60, .bool t59)]) (w' := W58) (by kernel_rfl) ?_
        rcases two (t59) with c60 | c60
        · replace h := of_true h c60
          refine RunF.know 60 (b := true) (by kernel_rfl) c60 ?_
          refine RunF.go 2 [13, 14, 15, 16, 17, 18, 60, 61, 62] (k' := (pin Go.Proofs.Try.f3 [1, 1, 1, 1, 1, 1, 1, 0] 11)) (L' := [(13, .slice A39 t38.1.length c41), (14, .slice A42 t38.2.1.length c44), (15, .int .i64 t38.2.2), (16, .slice A49 t48.1.length c51), (17, .slice A52 t48.2.1.length c54), (18, .int .i64 t48.2.2), (60, .bool true), (61, .slice A16 t12.2.1.length c18), (62, .slice A32 t28.2.1.length c34)]) (w' := W58) (by kernel_rfl) ?_
          obtain ⟨t62, ht62, h⟩ := Option.bind_eq_some_iff.mp h
          refine RunF.call (d := some 63) (g := 12) (args := #[.slice A16 t12.2.1.length c18, .slice A32 t28.2.1.length c34]) (k2 := (pin Go.Proofs.Try.f3 [1, 1, 1, 1, 1, 1, 1, 0] 12)) (by kernel_rfl) (scrimlaw9_alike.calls k A16 t12.2.1.length c18 t12.2.1 A32 t28.2.1.length c34 t28.2.1 t62 _ (hM.rd 8 rfl) (hM.rd 5 rfl) ht62) ?_
          rintro _ W61 ⟨rfl, hM_⟩
          replace hM := hM.call hM_
          clear hM_ ht62
          refine RunF.go 2 [13, 14, 15, 16, 17, 18, 65] (k' := (pin Go.Proofs.Try.f3 [1, 1, 1, 1, 1, 1, 1, 0] 14)) (L' := [(13, .slice A39 t38.1.length c41), (14, .slice A42 t38.2.1.length c44), (15, .int .i64 t38.2.2), (16, .slice A49 t48.1.length c51), (17, .slice A52 t48.2.1.length c54), (18, .int .i64 t48.2.2), (65, .bool t62)]) (w' := W61) (by kernel_rfl) ?_
          rcases two (t62) with c63 | c63
          · replace h := of_true h c63
            refine RunF.know 65 (b := true) (by kernel_rfl) c63 ?_
            refine RunF.go 5 [13, 14, 16, 17, 70] (k' := (pin Go.Proofs.Try.f3 [1, 1, 1, 1, 1, 1, 1, 0] 19)) (L' := [(13, .slice A39 t38.1.length c41), (14, .slice A42 t38.2.1.length c44), (16, .slice A49 t48.1.length c51), (17, .slice A52 t48.2.1.length c54), (70, .bool (t38.2.2 == t48.2.2))]) (w' := W61) (by kernel_rfl) ?_
            rcases two ((t38.2.2 == t48.2.2)) with c64 | c64
            · replace h := of_true h c64
              refine RunF.know 70 (b := true) (by kernel_rfl) c64 ?_
              refine RunF.go 2 [14, 17, 70, 71, 72] (k' := (pin Go.Proofs.Try.f3 [1, 1, 1, 1, 1, 1, 1, 0] 21)) (L' := [(14, .slice A42 t38.2.1.length c44), (17, .slice A52 t48.2.1.length c54), (70, .bool true), (71, .slice A39 t38.1.length c41), (72, .slice A49 t48.1.length c51)]) (w' := W61) (by kernel_rfl) ?_
              obtain ⟨t66, ht66, h⟩ := Option.bind_eq_some_iff.mp h
              refine RunF.call (d := some 73) (g := 12) (args := #[.slice A39 t38.1.length c41, .slice A49 t48.1.length c51]) (k2 := (pin Go.Proofs.Try.f3 [1, 1, 1, 1, 1, 1, 1, 0] 22)) (by kernel_rfl) (scrimlaw9_alike.calls k A39 t38.1.length c41 t38.1 A49 t48.1.length c51 t48.1 t66 _ (hM.rd 2 rfl) (hM.rd 0 rfl) ht66) ?_
              rintro _ W65 ⟨rfl, hM_⟩
              replace hM := hM.call hM_
              clear hM_ ht66
              refine RunF.go 2 [14, 17, 75] (k' := (pin Go.Proofs.Try.f3 [1, 1, 1, 1, 1, 1, 1, 0] 24)) (L' := [(14, .slice A42 t38.2.1.length c44), (17, .slice A52 t48.2.1.length c54), (75, .bool t66)]) (w' := W65) (by kernel_rfl) ?_
              rcases two (t66) with c67 | c67
              · replace h := of_true h c67
                refine RunF.know 75 (b := true) (by kernel_rfl) c67 ?_
                refine RunF.go 2 [75, 76, 77] (k' := (pin Go.Proofs.Try.f3 [1, 1, 1, 1, 1, 1, 1, 0] 26)) (L' := [(75, .bool true), (76, .slice A42 t38.2.1.length c44), (77, .slice A52 t48.2.1.length c54)]) (w' := W65) (by kernel_rfl) ?_
                obtain ⟨t69, ht69, h⟩ := Option.bind_eq_some_iff.mp h
                refine RunF.call (d := some 78) (g := 12) (args := #[.slice A42 t38.2.1.length c44, .slice A52 t48.2.1.length c54]) (k2 := (pin Go.Proofs.Try.f3 [1, 1, 1, 1, 1, 1, 1, 0] 27)) (by kernel_rfl) (scrimlaw9_alike.calls k A42 t38.2.1.length c44 t38.2.1 A52 t48.2.1.length c54 t48.2.1 t69 _ (hM.rd 3 rfl) (hM.rd 1 rfl) ht69) ?_
                rintro _ W68 ⟨rfl, hM_⟩
                replace hM := hM.call hM_
                clear hM_ ht69
                refine RunF.go 3 [6] (k' := (pl Go.Proofs.Try.f3 [1, 1, 1, 1, 1, 1, 1, 1])) (L' := [(6, .bool t69)]) (w' := W68) (by kernel_rfl) ?_
                obtain rfl := Option.some.inj h
                exact RunF.ret1 6 (.bool t69) (fn := Go.Proofs.Try.f3) Go.Proofs.Try.func3 (by kernel_rfl) (by kernel_rfl) (by kernel_rfl) ⟨_, rfl, rfl, (hM.pick [] rfl rfl)⟩
              · replace h := of_false h c67
                refine RunF.know 75 (b := false) (by kernel_rfl) c67 ?_
                refine RunF.go 6 [6] (k' := (pl Go.Proofs.Try.f3 [1, 1, 1, 1, 1, 1, 1, 1])) (L' := [(6, .bool false)]) (w' := W65) (by kernel_rfl) ?_
                obtain rfl := Option.some.inj h
                exact RunF.ret1 6 (.bool false) (fn := Go.Proofs.Try.f3) Go.Proofs.Try.func3 (by kernel_rfl) (by kernel_rfl) (by kernel_rfl) ⟨_, rfl, rfl, (hM.pick [] rfl rfl)⟩
            · replace h := of_false h c64
              refine RunF.know 70 (b := false) (by kernel_rfl) c64 ?_
              refine RunF.go 11 [6] (k' := (pl Go.Proofs.Try.f3 [1, 1, 1, 1, 1, 1, 1, 1])) (L' := [(6, .bool false)]) (w' := W61) (by kernel_rfl) ?_
              obtain rfl := Option.some.inj h
              exact RunF.ret1 6 (.bool false) (fn := Go.Proofs.Try.f3) Go.Proofs.Try.func3 (by kernel_rfl) (by kernel_rfl) (by kernel_rfl) ⟨_, rfl, rfl, (hM.pick [] rfl rfl)⟩
          · replace h := of_false h c63
            refine RunF.know 65 (b := false) (by kernel_rfl) c63 ?_
            refine RunF.go 16 [6] (k' := (pl Go.Proofs.Try.f3 [1, 1, 1, 1, 1, 1, 1, 1])) (L' := [(6, .bool false)]) (w' := W61) (by kernel_rfl) ?_
            obtain rfl := Option.some.inj h
            exact RunF.ret1 6 (.bool false) (fn := Go.Proofs.Try.f3) Go.Proofs.Try.func3 (by kernel_rfl) (by kernel_rfl) (by kernel_rfl) ⟨_, rfl, rfl, (hM.pick [] rfl rfl)⟩
        · replace h := of_false h c60
          refine RunF.know 60 (b := false) (by kernel_rfl) c60 ?_
          refine RunF.go 21 [6] (k' := (pl Go.Proofs.Try.f3 [1, 1, 1, 1, 1, 1, 1, 1])) (L' := [(6, .bool false)]) (w' := W58) (by kernel_rfl) ?_
          obtain rfl := Option.some.inj h
          exact RunF.ret1 6 (.bool false) (fn := Go.Proofs.Try.f3) Go.Proofs.Try.func3 (by kernel_rfl) (by kernel_rfl) (by kernel_rfl) ⟨_, rfl, rfl, (hM.pick [] rfl rfl)⟩
      · replace h := of_false h c57
        refine RunF.know 55 (b := false) (by kernel_rfl) c57 ?_
        refine RunF.go 26 [6] (k' := (pl Go.Proofs.Try.f3 [1, 1, 1, 1, 1, 1, 1, 1])) (L' := [(6, .bool false)]) (w' := W47) (by kernel_rfl) ?_
        obtain rfl := Option.some.inj h
        exact RunF.ret1 6 (.bool false) (fn := Go.Proofs.Try.f3) Go.Proofs.Try.func3 (by kernel_rfl) (by kernel_rfl) (by kernel_rfl) ⟨_, rfl, rfl, (hM.pick [] rfl rfl)⟩


end Go.Scr.S
