/- The functions that the law TwofishH reaches, as plain functions, and that each call answers so. -/
import Derived.Test.YtngagagokcnnaaaProg
import Derived.Test.YtngagagokcnnaaaFnTwofishH0
set_option linter.unusedVariables false
set_option linter.unusedSimpArgs false
set_option linter.unnecessarySimpa false
namespace Go.Scr.S
open Go.RowKit (Below)
/-! ### scrim/twofish.Keys: function 9 -/
mutual
def twofish_Keys.l0 : Nat → (List Int) → (List Int) → (List Int) → (List Int) → Option (List Int × List Int × Int)
  | 0, _, _, _, _ => none
  | k + 1, x3_0, x5_0, x6_0, x7_0 => if (decide ((x7_0.length : Int) > 0)) = true then (if (decide (0 ≤ 4)) = true then (if (decide (4 ≤ (x7_0.length : Int))) = true then ((words_Le32.f k ((x7_0.take (4 : Int).toNat).drop (0 : Int).toNat)).bind fun t21 => (if (decide (4 ≤ 8)) = true then (if (decide (8 ≤ (x7_0.length : Int))) = true then ((words_Le32.f k ((x7_0.take (8 : Int).toNat).drop (4 : Int).toNat)).bind fun t30 => (if (decide (0 ≤ 8)) = true then (if (decide (8 ≤ (x7_0.length : Int))) = true then (if (decide (x5_0.length + ([t21.1] : List Int).length ≤ 35184372088832)) = true then (if (decide (x6_0.length + ([t30.1] : List Int).length ≤ 35184372088832)) = true then ((twofish_folded.f k ((x7_0.take (8 : Int).toNat).drop (0 : Int).toNat)).bind fun t77 => (if (decide (x3_0.length + ([t77] : List Int).length ≤ 35184372088832)) = true then (if (decide (8 ≤ (x7_0.length : Int))) = true then (twofish_Keys.l0 k (x3_0 ++ ([t77] : List Int)) (x5_0 ++ ([t21.1] : List Int)) (x6_0 ++ ([t30.1] : List Int)) ((x7_0.take ((x7_0.length : Int) : Int).toNat).drop (8 : Int).toNat)) else (none)) else (none))) else (none)) else (none)) else (none)) else (none))) else (none)) else (none))) else (none)) else (none)) else ((slices_Reverse_uint32_uint32.f k x3_0).bind fun t129 => (twofish_Keys.l1 k x5_0 x6_0 ([] : List Int) t129 0))
def twofish_Keys.l1 : Nat → (List Int) → (List Int) → (List Int) → (List Int) → Int → Option (List Int × List Int × Int)
  | 0, _, _, _, _, _ => none
  | k + 1, x5_0, x6_0, x2_1, x3_1, x12_1 => (twofish_H.f k (U32 ((U32 (2 * x12_1)) * 16843009)) x5_0).bind fun t134 => ((some (U32 ((U32 ((U32 (2 * x12_1)) + 1)) * 16843009) : Int)).bind fun y135 => ((twofish_H.f k y135 x6_0).bind fun t137 => ((words_Rol32.f k t137 8).bind fun t139 => ((words_Rol32.f k (U32 (t134 + (U32 (2 * t139)))) 9).bind fun t141 => (if (decide (x2_1.length + ([U32 (t134 + t139), t141] : List Int).length ≤ 35184372088832)) = true then (if (decide ((U32 (x12_1 + 1)) < 20)) = true then (twofish_Keys.l1 k x5_0 x6_0 (x2_1 ++ ([U32 (t134 + t139), t141] : List Int)) x3_1 (U32 (x12_1 + 1))) else ((slices_Clone_uint32_uint32.f k (x2_1 ++ ([U32 (t134 + t139), t141] : List Int))).bind fun t153 => ((slices_Clone_uint32_uint32.f k x3_1).bind fun t159 => (some (t153, t159, 0))))) else (none))))))
def twofish_Keys.l2 : Nat → (List Int) → (List Int) → (List Int) → (List Int) → Option (List Int × List Int × Int)
  | 0, _, _, _, _ => none
  | k + 1, x3_2, x5_2, x6_2, x7_2 => if (decide ((x7_2.length : Int) > 0)) = true then (if (decide (0 ≤ 4)) = true then (if (decide (4 ≤ (x7_2.length : Int))) = true then ((words_Le32.f k ((x7_2.take (4 : Int).toNat).drop (0 : Int).toNat)).bind fun t179 => (if (decide (4 ≤ 8)) = true then (if (decide (8 ≤ (x7_2.length : Int))) = true then ((words_Le32.f k ((x7_2.take (8 : Int).toNat).drop (4 : Int).toNat)).bind fun t188 => (if (decide (0 ≤ 8)) = true then (if (decide (8 ≤ (x7_2.length : Int))) = true then (if (decide (x5_2.length + ([t179.1] : List Int).length ≤ 35184372088832)) = true then (if (decide (x6_2.length + ([t188.1] : List Int).length ≤ 35184372088832)) = true then ((twofish_folded.f k ((x7_2.take (8 : Int).toNat).drop (0 : Int).toNat)).bind fun t235 => (if (decide (x3_2.length + ([t235] : List Int).length ≤ 35184372088832)) = true then (if (decide (8 ≤ (x7_2.length : Int))) = true then (twofish_Keys.l2 k (x3_2 ++ ([t235] : List Int)) (x5_2 ++ ([t179.1] : List Int)) (x6_2 ++ ([t188.1] : List Int)) ((x7_2.take ((x7_2.length : Int) : Int).toNat).drop (8 : Int).toNat)) else (none)) else (none))) else (none)) else (none)) else (none)) else (none))) else (none)) else (none))) else (none)) else (none)) else ((slices_Reverse_uint32_uint32.f k x3_2).bind fun t287 => (twofish_Keys.l3 k x5_2 x6_2 ([] : List Int) t287 0))
def twofish_Keys.l3 : Nat → (List Int) → (List Int) → (List Int) → (List Int) → Int → Option (List Int × List Int × Int)
  | 0, _, _, _, _, _ => none
  | k + 1, x5_2, x6_2, x2_3, x3_3, x12_3 => (twofish_H.f k (U32 ((U32 (2 * x12_3)) * 16843009)) x5_2).bind fun t292 => ((some (U32 ((U32 ((U32 (2 * x12_3)) + 1)) * 16843009) : Int)).bind fun y293 => ((twofish_H.f k y293 x6_2).bind fun t295 => ((words_Rol32.f k t295 8).bind fun t297 => ((words_Rol32.f k (U32 (t292 + (U32 (2 * t297)))) 9).bind fun t299 => (if (decide (x2_3.length + ([U32 (t292 + t297), t299] : List Int).length ≤ 35184372088832)) = true then (if (decide ((U32 (x12_3 + 1)) < 20)) = true then (twofish_Keys.l3 k x5_2 x6_2 (x2_3 ++ ([U32 (t292 + t297), t299] : List Int)) x3_3 (U32 (x12_3 + 1))) else ((slices_Clone_uint32_uint32.f k (x2_3 ++ ([U32 (t292 + t297), t299] : List Int))).bind fun t311 => ((slices_Clone_uint32_uint32.f k x3_3).bind fun t317 => (some (t311, t317, 0))))) else (none))))))
def twofish_Keys.l4 : Nat → (List Int) → (List Int) → (List Int) → (List Int) → Option (List Int × List Int × Int)
  | 0, _, _, _, _ => none
  | k + 1, x3_4, x5_4, x6_4, x7_4 => if (decide ((x7_4.length : Int) > 0)) = true then (if (decide (0 ≤ 4)) = true then (if (decide (4 ≤ (x7_4.length : Int))) = true then ((words_Le32.f k ((x7_4.take (4 : Int).toNat).drop (0 : Int).toNat)).bind fun t337 => (if (decide (4 ≤ 8)) = true then (if (decide (8 ≤ (x7_4.length : Int))) = true then ((words_Le32.f k ((x7_4.take (8 : Int).toNat).drop (4 : Int).toNat)).bind fun t346 => (if (decide (0 ≤ 8)) = true then (if (decide (8 ≤ (x7_4.length : Int))) = true then (if (decide (x5_4.length + ([t337.1] : List Int).length ≤ 35184372088832)) = true then (if (decide (x6_4.length + ([t346.1] : List Int).length ≤ 35184372088832)) = true then ((twofish_folded.f k ((x7_4.take (8 : Int).toNat).drop (0 : Int).toNat)).bind fun t393 => (if (decide (x3_4.length + ([t393] : List Int).length ≤ 35184372088832)) = true then (if (decide (8 ≤ (x7_4.length : Int))) = true then (twofish_Keys.l4 k (x3_4 ++ ([t393] : List Int)) (x5_4 ++ ([t337.1] : List Int)) (x6_4 ++ ([t346.1] : List Int)) ((x7_4.take ((x7_4.length : Int) : Int).toNat).drop (8 : Int).toNat)) else (none)) else (none))) else (none)) else (none)) else (none)) else (none))) else (none)) else (none))) else (none)) else (none)) else ((slices_Reverse_uint32_uint32.f k x3_4).bind fun t445 => (twofish_Keys.l5 k x5_4 x6_4 ([] : List Int) t445 0))
def twofish_Keys.l5 : Nat → (List Int) → (List Int) → (List Int) → (List Int) → Int → Option (List Int × List Int × Int)
  | 0, _, _, _, _, _ => none
  | k + 1, x5_4, x6_4, x2_5, x3_5, x12_5 => (twofish_H.f k (U32 ((U32 (2 * x12_5)) * 16843009)) x5_4).bind fun t450 => ((some (U32 ((U32 ((U32 (2 * x12_5)) + 1)) * 16843009) : Int)).bind fun y451 => ((twofish_H.f k y451 x6_4).bind fun t453 => ((words_Rol32.f k t453 8).bind fun t455 => ((words_Rol32.f k (U32 (t450 + (U32 (2 * t455)))) 9).bind fun t457 => (if (decide (x2_5.length + ([U32 (t450 + t455), t457] : List Int).length ≤ 35184372088832)) = true then (if (decide ((U32 (x12_5 + 1)) < 20)) = true then (twofish_Keys.l5 k x5_4 x6_4 (x2_5 ++ ([U32 (t450 + t455), t457] : List Int)) x3_5 (U32 (x12_5 + 1))) else ((slices_Clone_uint32_uint32.f k (x2_5 ++ ([U32 (t450 + t455), t457] : List Int))).bind fun t469 => ((slices_Clone_uint32_uint32.f k x3_5).bind fun t475 => (some (t469, t475, 0))))) else (none))))))
end
def twofish_Keys.f (k : Nat) (a0 : List Int) : Option (List Int × List Int × Int) := if ((a0.length : Int) != 16) = true then (if ((a0.length : Int) != 24) = true then (if ((a0.length : Int) != 32) = true then (some (([] : List Int), ([] : List Int), 4)) else (twofish_Keys.l0 k ([] : List Int) ([] : List Int) ([] : List Int) a0)) else (twofish_Keys.l2 k ([] : List Int) ([] : List Int) ([] : List Int) a0)) else (twofish_Keys.l4 k ([] : List Int) ([] : List Int) ([] : List Int) a0)
set_option maxRecDepth 100000 in
set_option maxHeartbeats 8000000 in
theorem twofish_Keys.calls (k : Nat) (Ap0 : Option Addr) (np0 cp0 : Nat) (a0 : List Int) (r : List Int × List Int × Int) (w : World) (hr0 : Rd w (.slice Ap0 np0 cp0) (nums .u8 a0)) (h : twofish_Keys.f k a0 = some r) :
    Calls Go.Proofs.Try.prog 9 #[(.slice Ap0 np0 cp0)] w (Ret fun v w' => ∃ A0' n0' c0', ∃ A1' n1' c1', v = .tuple #[.slice A0' n0' c0', .slice A1' n1' c1', .int .i64 r.2.2] ∧ Mem w w' [⟨.slice A0' n0' c0', 37, 1, nums .u32 r.1⟩, ⟨.slice A1' n1' c1', 37, 1, nums .u32 r.2.1⟩]) := by
  obtain rfl : a0.length = np0 := by have h_ := hr0.1; simpa [nums_length, bools_length, strs_length] using h_
  unfold twofish_Keys.f at h
  refine calls_of [.slice Ap0 a0.length cp0] (fn := Go.Proofs.Try.f9) Go.Proofs.Try.func9 (by kernel_rfl) (by kernel_rfl) ?_
  have hM := Mem.refl w
  refine RunF.go 14 [0, 2, 3, 18] (k' := (pin Go.Proofs.Try.f9 [1, 0, 0, 0] 4)) (L' := [(0, .slice Ap0 a0.length cp0), (2, .slice none 0 0), (3, .slice none 0 0), (18, .bool ((a0.length : Int) != 16))]) (w' := w) (by kernel_rfl) ?_
  rcases two (((a0.length : Int) != 16)) with c1 | c1
  · replace h := of_true h c1
    refine RunF.know 18 (b := true) (by kernel_rfl) c1 ?_
    refine RunF.go 5 [0, 2, 3, 23] (k' := (pin Go.Proofs.Try.f9 [1, 0, 0, 0] 9)) (L' := [(0, .slice Ap0 a0.length cp0), (2, .slice none 0 0), (3, .slice none 0 0), (23, .bool ((a0.length : Int) != 24))]) (w' := w) (by kernel_rfl) ?_
    rcases two (((a0.length : Int) != 24)) with c2 | c2
    · replace h := of_true h c2
      refine RunF.know 23 (b := true) (by kernel_rfl) c2 ?_
      refine RunF.go 5 [0, 2, 3, 27] (k' := (pl Go.Proofs.Try.f9 [1, 0, 0, 1])) (L' := [(0, .slice Ap0 a0.length cp0), (2, .slice none 0 0), (3, .slice none 0 0), (27, .bool ((a0.length : Int) != 32))]) (w' := w) (by kernel_rfl) ?_
      rcases two (((a0.length : Int) != 32)) with c3 | c3
      · replace h := of_true h c3
        refine RunF.know 27 (b := true) (by kernel_rfl) c3 ?_
        refine RunF.go 7 [2, 3, 4] (k' := (pl Go.Proofs.Try.f9 [1, 0, 0, 1, 0, 1])) (L' := [(2, .slice none 0 0), (3, .slice none 0 0), (4, .int .i64 4)]) (w' := w) (by kernel_rfl) ?_
        replace hM := hM.nil 37
        replace hM := hM.nil 37
        obtain rfl := Option.some.inj h
        exact RunF.ret3 2 3 4 (.slice none 0 0) (.slice none 0 0) (.int .i64 4) (fn := Go.Proofs.Try.f9) Go.Proofs.Try.func9 (by kernel_rfl) (by kernel_rfl) (by kernel_rfl) (by kernel_rfl) (by kernel_rfl) ⟨_, rfl, none, 0, 0, none, 0, 0, rfl, (hM.pick [1, 0] rfl rfl)⟩
      · replace h := of_false h c3
        refine RunF.know 27 (b := false) (by kernel_rfl) c3 ?_
        refine RunF.go 15 [2, 3, 5, 6, 7] (k' := (pl Go.Proofs.Try.f9 [1, 0, 1, 1, 0, 1, 0, 0])) (L' := [(2, .slice none 0 0), (3, .slice none 0 0), (5, .slice none 0 0), (6, .slice none 0 0), (7, .slice Ap0 a0.length cp0)]) (w' := w) (by kernel_rfl) ?_
        replace hM := hM.nil 37
        replace hM := hM.nil 37
        replace hM := hM.nil 37
        have l0 : ∀ (k_ : Nat), k_ ≤ k → ∀ (A3_0 : Option Addr) (c3_0 : Nat) (x3_0 : List Int) (A5_0 : Option Addr) (c5_0 : Nat) (x5_0 : List Int) (A6_0 : Option Addr) (c6_0 : Nat) (x6_0 : List Int) (A7_0 : Option Addr) (c7_0 : Nat) (x7_0 : List Int) (W : World) (hM : Mem w W [⟨.slice A3_0 x3_0.length c3_0, 37, 1, nums .u32 x3_0⟩, ⟨.slice A5_0 x5_0.length c5_0, 37, 1, nums .u32 x5_0⟩, ⟨.slice A6_0 x6_0.length c6_0, 37, 1, nums .u32 x6_0⟩]) (hrx7_0 : Rd w (.slice A7_0 x7_0.length c7_0) (nums .u8 x7_0)) (h : twofish_Keys.l0 k_  x3_0 x5_0 x6_0 x7_0 = some r), RunF Go.Proofs.Try.prog (Ret fun v w' => ∃ A0' n0' c0', ∃ A1' n1' c1', v = .tuple #[.slice A0' n0' c0', .slice A1' n1' c1', .int .i64 r.2.2] ∧ Mem w w' [⟨.slice A0' n0' c0', 37, 1, nums .u32 r.1⟩, ⟨.slice A1' n1' c1', 37, 1, nums .u32 r.2.1⟩]) 9 (pl Go.Proofs.Try.f9 [1, 0, 1, 1, 0, 1, 0, 0]) 93 [(2, .slice none 0 0), (3, .slice A3_0 x3_0.length c3_0), (5, .slice A5_0 x5_0.length c5_0), (6, .slice A6_0 x6_0.length c6_0), (7, .slice A7_0 x7_0.length c7_0)] W := by
          intro k_
          induction k_ using Nat.strongRecOn with
          | _ k_ ih0 =>
            intro hk A3_0 c3_0 x3_0 A5_0 c5_0 x5_0 A6_0 c6_0 x6_0 A7_0 c7_0 x7_0 W hM hrx7_0 h
            cases k_ with
            | zero => exact absurd h (by simp [twofish_Keys.l0])
            | succ k =>
              simp only [twofish_Keys.l0] at h
              replace ih0 : ∀ m, m ≤ k → _ := fun m hm => ih0 m (by omega) (by omega)
              refine RunF.go 7 [2, 3, 5, 6, 7, 31] (k' := (pl Go.Proofs.Try.f9 [1, 0, 1, 1, 0, 1, 0, 0, 0, 1])) (L' := [(2, .slice none 0 0), (3, .slice A3_0 x3_0.length c3_0), (5, .slice A5_0 x5_0.length c5_0), (6, .slice A6_0 x6_0.length c6_0), (7, .slice A7_0 x7_0.length c7_0), (31, .bool (decide ((x7_0.length : Int) > 0)))]) (w' := W) (by kernel_rfl) ?_
              rcases two (decide ((x7_0.length : Int) > 0)) with c12 | c12
              · replace h := of_true h c12
                refine RunF.know 31 (b := true) (by kernel_rfl) c12 ?_
                refine RunF.go 7 [2, 3, 5, 6, 7, 35] (k' := (pin Go.Proofs.Try.f9 [1, 0, 1, 1, 0, 1, 0, 0, 1, 0, 0, 0] 1)) (L' := [(2, .slice none 0 0), (3, .slice A3_0 x3_0.length c3_0), (5, .slice A5_0 x5_0.length c5_0), (6, .slice A6_0 x6_0.length c6_0), (7, .slice A7_0 x7_0.length c7_0), (35, .slice A7_0 x7_0.length c7_0)]) (w' := W) (by kernel_rfl) ?_
                rcases two (decide (0 ≤ 4)) with c13 | c13
                · replace h := of_true h c13
                  rcases two (decide (4 ≤ (x7_0.length : Int))) with c14 | c14
                  · replace h := of_true h c14
                    have zc13 := of_decide_eq_true c13
                    have zc14 := of_decide_eq_true c14
                    obtain ⟨A15, n16, c17, hy18, rfl, hs19⟩ := cut (P := Go.Proofs.Try.prog) (n := 93) (k := (pin Go.Proofs.Try.f9 [1, 0, 1, 1, 0, 1, 0, 0, 1, 0, 0, 0] 1)) (L := [(2, .slice none 0 0), (3, .slice A3_0 x3_0.length c3_0), (5, .slice A5_0 x5_0.length c5_0), (6, .slice A6_0 x6_0.length c6_0), (7, .slice A7_0 x7_0.length c7_0), (35, .slice A7_0 x7_0.length c7_0)]) (d := some 36) (A := A7_0) (m := x7_0.length) (c := c7_0) (l := 0) (h := 4) (k2 := (pin Go.Proofs.Try.f9 [1, 0, 1, 1, 0, 1, 0, 0, 1, 0, 0, 0] 2)) .u8 x7_0 (by kernel_rfl) (by omega) (by omega) (by omega) (hrx7_0.mono hM.below)
                    clear zc13
                    clear zc14
                    refine RunF.y hy18 trivial ?_
                    obtain ⟨t21, ht21, h⟩ := Option.bind_eq_some_iff.mp h
                    refine RunF.call (d := some 37) (g := 24) (args := #[.slice A15 (((x7_0.take (4 : Int).toNat).drop (0 : Int).toNat).length) c17]) (k2 := (pin Go.Proofs.Try.f9 [1, 0, 1, 1, 0, 1, 0, 0, 1, 0, 0, 0] 3)) (by kernel_rfl) (words_Le32.calls k A15 (((x7_0.take (4 : Int).toNat).drop (0 : Int).toNat).length) c17 ((x7_0.take (4 : Int).toNat).drop (0 : Int).toNat) t21 _ (hs19 _ (hrx7_0.mono hM.below)) ht21) ?_
                    rintro _ W20 ⟨rfl, hM_⟩
                    replace hM := hM.call hM_
                    clear hM_ ht21
                    refine RunF.go 9 [2, 3, 5, 6, 7, 8, 41] (k' := (pin Go.Proofs.Try.f9 [1, 0, 1, 1, 0, 1, 0, 0, 1, 0, 0, 1, 0] 1)) (L' := [(2, .slice none 0 0), (3, .slice A3_0 x3_0.length c3_0), (5, .slice A5_0 x5_0.length c5_0), (6, .slice A6_0 x6_0.length c6_0), (7, .slice A7_0 x7_0.length c7_0), (8, .int .u32 t21.1), (41, .slice A7_0 x7_0.length c7_0)]) (w' := W20) (by kernel_rfl) ?_
                    rcases two (decide (4 ≤ 8)) with c22 | c22
                    · replace h := of_true h c22
                      rcases two (decide (8 ≤ (x7_0.length : Int))) with c23 | c23
                      · replace h := of_true h c23
                        have zc22 := of_decide_eq_true c22
                        have zc23 := of_decide_eq_true c23
                        obtain ⟨A24, n25, c26, hy27, rfl, hs28⟩ := cut (P := Go.Proofs.Try.prog) (n := 93) (k := (pin Go.Proofs.Try.f9 [1, 0, 1, 1, 0, 1, 0, 0, 1, 0, 0, 1, 0] 1)) (L := [(2, .slice none 0 0), (3, .slice A3_0 x3_0.length c3_0), (5, .slice A5_0 x5_0.length c5_0), (6, .slice A6_0 x6_0.length c6_0), (7, .slice A7_0 x7_0.length c7_0), (8, .int .u32 t21.1), (41, .slice A7_0 x7_0.length c7_0)]) (d := some 42) (A := A7_0) (m := x7_0.length) (c := c7_0) (l := 4) (h := 8) (k2 := (pin Go.Proofs.Try.f9 [1, 0, 1, 1, 0, 1, 0, 0, 1, 0, 0, 1, 0] 2)) .u8 x7_0 (by kernel_rfl) (by omega) (by omega) (by omega) (hrx7_0.mono hM.below)
                        clear zc22
                        clear zc23
                        refine RunF.y hy27 trivial ?_
                        obtain ⟨t30, ht30, h⟩ := Option.bind_eq_some_iff.mp h
                        refine RunF.call (d := some 43) (g := 24) (args := #[.slice A24 (((x7_0.take (8 : Int).toNat).drop (4 : Int).toNat).length) c26]) (k2 := (pin Go.Proofs.Try.f9 [1, 0, 1, 1, 0, 1, 0, 0, 1, 0, 0, 1, 0] 3)) (by kernel_rfl) (words_Le32.calls k A24 (((x7_0.take (8 : Int).toNat).drop (4 : Int).toNat).length) c26 ((x7_0.take (8 : Int).toNat).drop (4 : Int).toNat) t30 _ (hs28 _ (hrx7_0.mono hM.below)) ht30) ?_
                        rintro _ W29 ⟨rfl, hM_⟩
                        replace hM := hM.call hM_
                        clear hM_ ht30
                        refine RunF.go 6 [2, 3, 5, 6, 7, 8, 10] (k' := (pl Go.Proofs.Try.f9 [1, 0, 1, 1, 0, 1, 0, 0, 1, 0, 0, 1, 1])) (L' := [(2, .slice none 0 0), (3, .slice A3_0 x3_0.length c3_0), (5, .slice A5_0 x5_0.length c5_0), (6, .slice A6_0 x6_0.length c6_0), (7, .slice A7_0 x7_0.length c7_0), (8, .int .u32 t21.1), (10, .int .u32 t30.1)]) (w' := W29) (by kernel_rfl) ?_
                        refine RunF.draw (Still ({ W29 with drawn := W29.drawn + 1 } : World) [.slice A5_0 x5_0.length c5_0, .slice A6_0 x6_0.length c6_0, .slice A3_0 x3_0.length c3_0]) (by kernel_rfl) (by kernel_rfl) ?_
                        have hMd32 := hM.drew
                        have hS := Still.refl ({ W29 with drawn := W29.drawn + 1 } : World) [.slice A5_0 x5_0.length c5_0, .slice A6_0 x6_0.length c6_0, .slice A3_0 x3_0.length c3_0]
                        generalize ({ W29 with drawn := W29.drawn + 1 } : World) = W31 at hMd32 hS ⊢
                        replace hM := hMd32
                        refine RunAny.y 0 (by kernel_rfl) (yl_pure (d := some 46) (v := .slice A5_0 x5_0.length c5_0) (k2 := [.inRegion (opsOf (pl Go.Proofs.Try.f9 [1, 0, 1, 1, 0, 1, 0, 0, 1, 0, 0, 1, 1])) []]) fun w => by kernel_rfl) (fun _ _ => trivial) hS ?_
                        refine RunAny.y 1 (by kernel_rfl) (yl_pure (d := some 47) (v := .int .u32 t21.1) (k2 := [.inRegion (opsOf (pl Go.Proofs.Try.f9 [1, 0, 1, 1, 0, 1, 0, 0, 1, 0, 0, 1, 1])) []]) fun w => by kernel_rfl) (fun _ _ => trivial) hS ?_
                        refine RunAny.y 4 (by kernel_rfl) (yl_pure (d := some 50) (v := .slice A6_0 x6_0.length c6_0) (k2 := [.inRegion (opsOf (pl Go.Proofs.Try.f9 [1, 0, 1, 1, 0, 1, 0, 0, 1, 0, 0, 1, 1])) []]) fun w => by kernel_rfl) (fun _ _ => trivial) hS ?_
                        refine RunAny.y 5 (by kernel_rfl) (yl_pure (d := some 51) (v := .int .u32 t30.1) (k2 := [.inRegion (opsOf (pl Go.Proofs.Try.f9 [1, 0, 1, 1, 0, 1, 0, 0, 1, 0, 0, 1, 1])) []]) fun w => by kernel_rfl) (fun _ _ => trivial) hS ?_
                        refine RunAny.y 8 (by kernel_rfl) (yl_pure (d := some 54) (v := .slice A3_0 x3_0.length c3_0) (k2 := [.inRegion (opsOf (pl Go.Proofs.Try.f9 [1, 0, 1, 1, 0, 1, 0, 0, 1, 0, 0, 1, 1])) []]) fun w => by kernel_rfl) (fun _ _ => trivial) hS ?_
                        refine RunAny.y 9 (by kernel_rfl) (yl_pure (d := some 55) (v := .slice A7_0 x7_0.length c7_0) (k2 := [.inRegion (opsOf (pl Go.Proofs.Try.f9 [1, 0, 1, 1, 0, 1, 0, 0, 1, 0, 0, 1, 1])) []]) fun w => by kernel_rfl) (fun _ _ => trivial) hS ?_
                        rcases two (decide (0 ≤ 8)) with c33 | c33
                        · replace h := of_true h c33
                          rcases two (decide (8 ≤ (x7_0.length : Int))) with c34 | c34
                          · replace h := of_true h c34
                            have zc33 := of_decide_eq_true c33
                            have zc34 := of_decide_eq_true c34
                            obtain ⟨A35, n36, c37, hy38, rfl, hs39⟩ := cut (P := Go.Proofs.Try.prog) (n := 93) (k := (one (opsOf (pl Go.Proofs.Try.f9 [1, 0, 1, 1, 0, 1, 0, 0, 1, 0, 0, 1, 1])) 10)) (L := (upd (upd (upd (upd (upd (upd [(2, .slice none 0 0), (3, .slice A3_0 x3_0.length c3_0), (5, .slice A5_0 x5_0.length c5_0), (6, .slice A6_0 x6_0.length c6_0), (7, .slice A7_0 x7_0.length c7_0), (8, .int .u32 t21.1), (10, .int .u32 t30.1)] (some 46) (.slice A5_0 x5_0.length c5_0)) (some 47) (.int .u32 t21.1)) (some 50) (.slice A6_0 x6_0.length c6_0)) (some 51) (.int .u32 t30.1)) (some 54) (.slice A3_0 x3_0.length c3_0)) (some 55) (.slice A7_0 x7_0.length c7_0))) (d := some 56) (A := A7_0) (m := x7_0.length) (c := c7_0) (l := 0) (h := 8) (k2 := [.inRegion (opsOf (pl Go.Proofs.Try.f9 [1, 0, 1, 1, 0, 1, 0, 0, 1, 0, 0, 1, 1])) []]) .u8 x7_0 (by kernel_rfl) (by omega) (by omega) (by omega) (hrx7_0.mono hM.below)
                            clear zc33
                            clear zc34
                            refine RunAny.y 10 (by kernel_rfl) hy38 (fun _ _ => trivial) hS ?_
                            rcases two (decide (x5_0.length + ([t21.1] : List Int).length ≤ 35184372088832)) with c67 | c67
                            · replace h := of_true h c67
                              have J68 : ∀ (g40 : Nat) (A46 : Option Addr) (c48 : Nat) (g58 : Nat) (W69 : World) (hS : Still W69 [.slice A5_0 x5_0.length c5_0, .slice A6_0 x6_0.length c6_0, .slice A3_0 x3_0.length c3_0] W69) (hM : Mem w W69 [⟨.slice (some ⟨g40, 0, none⟩) 1 1, 37, 1, nums .u32 [t21.1]⟩, ⟨.slice A46 ((x5_0 ++ ([t21.1] : List Int)).length) c48, 37, 1, nums .u32 (x5_0 ++ ([t21.1] : List Int))⟩, ⟨.slice (some ⟨g58, 0, none⟩) 1 1, 37, 1, nums .u32 [t30.1]⟩, ⟨.slice A3_0 x3_0.length c3_0, 37, 1, nums .u32 x3_0⟩, ⟨.slice A6_0 x6_0.length c6_0, 37, 1, nums .u32 x6_0⟩]) , RunAny Go.Proofs.Try.prog (Ret fun v w' => ∃ A0' n0' c0', ∃ A1' n1' c1', v = .tuple #[.slice A0' n0' c0', .slice A1' n1' c1', .int .i64 r.2.2] ∧ Mem w w' [⟨.slice A0' n0' c0', 37, 1, nums .u32 r.1⟩, ⟨.slice A1' n1' c1', 37, 1, nums .u32 r.2.1⟩]) 9 (rest1 (pl Go.Proofs.Try.f9 [1, 0, 1, 1, 0, 1, 0, 0, 1, 0, 0, 1, 1])) 93 (opsOf (pl Go.Proofs.Try.f9 [1, 0, 1, 1, 0, 1, 0, 0, 1, 0, 0, 1, 1])) (Still W69 [.slice A5_0 x5_0.length c5_0, .slice A6_0 x6_0.length c6_0, .slice A3_0 x3_0.length c3_0]) 7 [0, 1, 4, 5, 8, 9, 10, 2, 3, 6] [(2, .slice none 0 0), (3, .slice A3_0 x3_0.length c3_0), (5, .slice A5_0 x5_0.length c5_0), (6, .slice A6_0 x6_0.length c6_0), (7, .slice A7_0 x7_0.length c7_0), (8, .int .u32 t21.1), (10, .int .u32 t30.1), (46, .slice A5_0 x5_0.length c5_0), (47, .int .u32 t21.1), (48, .slice (some ⟨g40, 0, none⟩) 1 1), (49, .slice A46 ((x5_0 ++ ([t21.1] : List Int)).length) c48), (50, .slice A6_0 x6_0.length c6_0), (51, .int .u32 t30.1), (52, .slice (some ⟨g58, 0, none⟩) 1 1), (54, .slice A3_0 x3_0.length c3_0), (55, .slice A7_0 x7_0.length c7_0), (56, .slice A35 (((x7_0.take (8 : Int).toNat).drop (0 : Int).toNat).length) c37)] W69 := by
                                intro g40 A46 c48 g58 W69 hS hM 
                                rcases two (decide (x6_0.length + ([t30.1] : List Int).length ≤ 35184372088832)) with c74 | c74
                                · replace h := of_true h c74
                                  have h_ := of_decide_eq_true c74
                                  obtain ⟨A70, n71, c72, W73, hD, hM', hS_⟩ := app_doesW (P := Go.Proofs.Try.prog) (n := 93) (k := (one (opsOf (pl Go.Proofs.Try.f9 [1, 0, 1, 1, 0, 1, 0, 0, 1, 0, 0, 1, 1])) 7)) (L := [(2, .slice none 0 0), (3, .slice A3_0 x3_0.length c3_0), (5, .slice A5_0 x5_0.length c5_0), (6, .slice A6_0 x6_0.length c6_0), (7, .slice A7_0 x7_0.length c7_0), (8, .int .u32 t21.1), (10, .int .u32 t30.1), (46, .slice A5_0 x5_0.length c5_0), (47, .int .u32 t21.1), (48, .slice (some ⟨g40, 0, none⟩) 1 1), (49, .slice A46 ((x5_0 ++ ([t21.1] : List Int)).length) c48), (50, .slice A6_0 x6_0.length c6_0), (51, .int .u32 t30.1), (52, .slice (some ⟨g58, 0, none⟩) 1 1), (54, .slice A3_0 x3_0.length c3_0), (55, .slice A7_0 x7_0.length c7_0), (56, .slice A35 (((x7_0.take (8 : Int).toNat).drop (0 : Int).toNat).length) c37)]) (d := some 53) (e := 37) (A := A6_0) (m := x6_0.length) (c := c6_0) (A2 := (some ⟨g58, 0, none⟩)) (m2 := 1) (c2 := 1) (cs := nums .u32 x6_0) (ys := nums .u32 ([t30.1] : List Int)) (k2 := [.inRegion (opsOf (pl Go.Proofs.Try.f9 [1, 0, 1, 1, 0, 1, 0, 0, 1, 0, 0, 1, 1])) []]) [⟨.slice (some ⟨g40, 0, none⟩) 1 1, 37, 1, nums .u32 [t21.1]⟩, ⟨.slice A46 ((x5_0 ++ ([t21.1] : List Int)).length) c48, 37, 1, nums .u32 (x5_0 ++ ([t21.1] : List Int))⟩, ⟨.slice (some ⟨g58, 0, none⟩) 1 1, 37, 1, nums .u32 [t30.1]⟩, ⟨.slice A3_0 x3_0.length c3_0, 37, 1, nums .u32 x3_0⟩] [] (by kernel_rfl) (hM.pick [0, 1, 2, 3, 4] rfl rfl) (hM.rd 2 rfl) (one_nums _ _) (by omega) (by kernel_rfl)
                                  rw [nums_append] at hM'
                                  replace hM := hM'; clear h_ hM'
                                  obtain rfl : (x6_0 ++ ([t30.1] : List Int)).length = n71 := by have h_ := (hM.rd 4 rfl).1; simpa only [nums_length, bools_length, strs_length] using h_
                                  refine RunAny.does 7 (by kernel_rfl) hD (hS.app hS_ (by simp)) ?_
                                  clear hD
                                  replace hS := (hS.app hS_ (by simp)); clear hS_
                                  refine RunAny.rebase hS ?_
                                  replace hS := Still.refl W73 [.slice A5_0 x5_0.length c5_0, .slice A6_0 x6_0.length c6_0, .slice A3_0 x3_0.length c3_0]
                                  obtain ⟨t77, ht77, h⟩ := Option.bind_eq_some_iff.mp h
                                  refine RunAny.call 11 (d := some 57) (g := 25) (args := #[.slice A35 (((x7_0.take (8 : Int).toNat).drop (0 : Int).toNat).length) c37]) (by kernel_rfl) (by kernel_rfl) (twofish_folded.calls k A35 (((x7_0.take (8 : Int).toNat).drop (0 : Int).toNat).length) c37 ((x7_0.take (8 : Int).toNat).drop (0 : Int).toNat) t77 _ (hs39 _ (hrx7_0.mono hM.below)) ht77) (by rintro _ _ ⟨rfl, hM_⟩; exact hS.below hM_.below) ?_
                                  rintro _ W76 ⟨rfl, hM_⟩
                                  replace hS := hS.below hM_.below
                                  replace hM := hM.call hM_
                                  clear hM_ ht77
                                  refine RunAny.rebase hS ?_
                                  replace hS := Still.refl W76 [.slice A5_0 x5_0.length c5_0, .slice A6_0 x6_0.length c6_0, .slice A3_0 x3_0.length c3_0]
                                  refine RunAny.new 12 37 1 1 (nums .u32 [t77]) (d := some 58) (k2 := [.inRegion (opsOf (pl Go.Proofs.Try.f9 [1, 0, 1, 1, 0, 1, 0, 0, 1, 0, 0, 1, 1])) []]) (by kernel_rfl) hM (by simp [nums, bools, strs]) (by kernel_rfl) (by kernel_rfl) hS ?_
                                  intro g78 W79 hS hM
                                  refine RunAny.rebase hS ?_
                                  replace hS := Still.refl W79 [.slice A5_0 x5_0.length c5_0, .slice A6_0 x6_0.length c6_0, .slice A3_0 x3_0.length c3_0]
                                  rcases two (decide (x3_0.length + ([t77] : List Int).length ≤ 35184372088832)) with c85 | c85
                                  · replace h := of_true h c85
                                    have h_ := of_decide_eq_true c85
                                    obtain ⟨A81, n82, c83, W84, hD, hM', hS_⟩ := app_doesW (P := Go.Proofs.Try.prog) (n := 93) (k := (one (opsOf (pl Go.Proofs.Try.f9 [1, 0, 1, 1, 0, 1, 0, 0, 1, 0, 0, 1, 1])) 13)) (L := (upd (upd (upd [(2, .slice none 0 0), (3, .slice A3_0 x3_0.length c3_0), (5, .slice A5_0 x5_0.length c5_0), (6, .slice A6_0 x6_0.length c6_0), (7, .slice A7_0 x7_0.length c7_0), (8, .int .u32 t21.1), (10, .int .u32 t30.1), (46, .slice A5_0 x5_0.length c5_0), (47, .int .u32 t21.1), (48, .slice (some ⟨g40, 0, none⟩) 1 1), (49, .slice A46 ((x5_0 ++ ([t21.1] : List Int)).length) c48), (50, .slice A6_0 x6_0.length c6_0), (51, .int .u32 t30.1), (52, .slice (some ⟨g58, 0, none⟩) 1 1), (54, .slice A3_0 x3_0.length c3_0), (55, .slice A7_0 x7_0.length c7_0), (56, .slice A35 (((x7_0.take (8 : Int).toNat).drop (0 : Int).toNat).length) c37)] (some 53) (.slice A70 ((x6_0 ++ ([t30.1] : List Int)).length) c72)) (some 57) (.int .u32 t77)) (some 58) (.slice (some ⟨g78, 0, none⟩) 1 1))) (d := some 59) (e := 37) (A := A3_0) (m := x3_0.length) (c := c3_0) (A2 := (some ⟨g78, 0, none⟩)) (m2 := 1) (c2 := 1) (cs := nums .u32 x3_0) (ys := nums .u32 ([t77] : List Int)) (k2 := [.inRegion (opsOf (pl Go.Proofs.Try.f9 [1, 0, 1, 1, 0, 1, 0, 0, 1, 0, 0, 1, 1])) []]) [⟨.slice (some ⟨g78, 0, none⟩) 1 1, 37, 1, nums .u32 [t77]⟩, ⟨.slice (some ⟨g40, 0, none⟩) 1 1, 37, 1, nums .u32 [t21.1]⟩, ⟨.slice A46 ((x5_0 ++ ([t21.1] : List Int)).length) c48, 37, 1, nums .u32 (x5_0 ++ ([t21.1] : List Int))⟩, ⟨.slice (some ⟨g58, 0, none⟩) 1 1, 37, 1, nums .u32 [t30.1]⟩] [⟨.slice A70 ((x6_0 ++ ([t30.1] : List Int)).length) c72, 37, 1, nums .u32 (x6_0 ++ ([t30.1] : List Int))⟩] (by kernel_rfl) (hM.pick [0, 1, 2, 3, 4, 5] rfl rfl) (hM.rd 0 rfl) (one_nums _ _) (by omega) (by kernel_rfl)
                                    rw [nums_append] at hM'
                                    replace hM := hM'; clear h_ hM'
                                    obtain rfl : (x3_0 ++ ([t77] : List Int)).length = n82 := by have h_ := (hM.rd 4 rfl).1; simpa only [nums_length, bools_length, strs_length] using h_
                                    refine RunAny.does 13 (by kernel_rfl) hD (hS.app hS_ (by simp)) ?_
                                    clear hD
                                    replace hS := (hS.app hS_ (by simp)); clear hS_
                                    refine RunAny.rebase hS ?_
                                    replace hS := Still.refl W84 [.slice A5_0 x5_0.length c5_0, .slice A6_0 x6_0.length c6_0, .slice A3_0 x3_0.length c3_0]
                                    refine RunAny.y 14 (by kernel_rfl) (yl_pure (d := some 5) (v := .slice A46 ((x5_0 ++ ([t21.1] : List Int)).length) c48) (k2 := [.inRegion (opsOf (pl Go.Proofs.Try.f9 [1, 0, 1, 1, 0, 1, 0, 0, 1, 0, 0, 1, 1])) []]) fun w => by kernel_rfl) (fun _ _ => trivial) hS ?_
                                    refine RunAny.y 15 (by kernel_rfl) (yl_pure (d := some 6) (v := .slice A70 ((x6_0 ++ ([t30.1] : List Int)).length) c72) (k2 := [.inRegion (opsOf (pl Go.Proofs.Try.f9 [1, 0, 1, 1, 0, 1, 0, 0, 1, 0, 0, 1, 1])) []]) fun w => by kernel_rfl) (fun _ _ => trivial) hS ?_
                                    refine RunAny.y 16 (by kernel_rfl) (yl_pure (d := some 3) (v := .slice A81 ((x3_0 ++ ([t77] : List Int)).length) c83) (k2 := [.inRegion (opsOf (pl Go.Proofs.Try.f9 [1, 0, 1, 1, 0, 1, 0, 0, 1, 0, 0, 1, 1])) []]) fun w => by kernel_rfl) (fun _ _ => trivial) hS ?_
                                    refine RunAny.done (by kernel_rfl) ?_
                                    clear hS
                                    refine RunF.go 3 [2, 3, 5, 6, 32] (k' := (pin Go.Proofs.Try.f9 [1, 0, 1, 1, 0, 1, 0, 0, 1, 1] 1)) (L' := [(2, .slice none 0 0), (3, .slice A81 ((x3_0 ++ ([t77] : List Int)).length) c83), (5, .slice A46 ((x5_0 ++ ([t21.1] : List Int)).length) c48), (6, .slice A70 ((x6_0 ++ ([t30.1] : List Int)).length) c72), (32, .slice A7_0 x7_0.length c7_0)]) (w' := W84) (by kernel_rfl) ?_
                                    rcases two (decide (8 ≤ (x7_0.length : Int))) with c87 | c87
                                    · replace h := of_true h c87
                                      have zc87 := of_decide_eq_true c87
                                      obtain ⟨A88, n89, c90, hy91, rfl, hs92⟩ := cut (P := Go.Proofs.Try.prog) (n := 93) (k := (pin Go.Proofs.Try.f9 [1, 0, 1, 1, 0, 1, 0, 0, 1, 1] 1)) (L := [(2, .slice none 0 0), (3, .slice A81 ((x3_0 ++ ([t77] : List Int)).length) c83), (5, .slice A46 ((x5_0 ++ ([t21.1] : List Int)).length) c48), (6, .slice A70 ((x6_0 ++ ([t30.1] : List Int)).length) c72), (32, .slice A7_0 x7_0.length c7_0)]) (d := some 33) (A := A7_0) (m := x7_0.length) (c := c7_0) (l := 8) (h := (x7_0.length : Int)) (k2 := (pin Go.Proofs.Try.f9 [1, 0, 1, 1, 0, 1, 0, 0, 1, 1] 2)) .u8 x7_0 (by kernel_rfl) (by omega) (by omega) (by omega) (hrx7_0.mono hM.below)
                                      clear zc87
                                      refine RunF.y hy91 trivial ?_
                                      refine RunF.go 3 [2, 3, 5, 6, 7] (k' := (pl Go.Proofs.Try.f9 [1, 0, 1, 1, 0, 1, 0, 0])) (L' := [(2, .slice none 0 0), (3, .slice A81 ((x3_0 ++ ([t77] : List Int)).length) c83), (5, .slice A46 ((x5_0 ++ ([t21.1] : List Int)).length) c48), (6, .slice A70 ((x6_0 ++ ([t30.1] : List Int)).length) c72), (7, .slice A88 (((x7_0.take ((x7_0.length : Int) : Int).toNat).drop (8 : Int).toNat).length) c90)]) (w' := W84) (by kernel_rfl) ?_
                                      exact ih0 k (by omega) A81 c83 (x3_0 ++ ([t77] : List Int)) A46 c48 (x5_0 ++ ([t21.1] : List Int)) A70 c72 (x6_0 ++ ([t30.1] : List Int)) A88 c90 ((x7_0.take ((x7_0.length : Int) : Int).toNat).drop (8 : Int).toNat) _ (hM.pick [4, 2, 5] rfl rfl) (hs92 _ hrx7_0) h
                                    · replace h := of_false h c87
                                      cases h
                                  · replace h := of_false h c85
                                    cases h
                                · replace h := of_false h c74
                                  cases h
                              have J93 : ∀ (g40 : Nat) (g52 : Nat) (W94 : World) (hS : Still W94 [.slice A5_0 x5_0.length c5_0, .slice A6_0 x6_0.length c6_0, .slice A3_0 x3_0.length c3_0] W94) (hM : Mem w W94 [⟨.slice (some ⟨g40, 0, none⟩) 1 1, 37, 1, nums .u32 [t21.1]⟩, ⟨.slice (some ⟨g52, 0, none⟩) 1 1, 37, 1, nums .u32 [t30.1]⟩, ⟨.slice A3_0 x3_0.length c3_0, 37, 1, nums .u32 x3_0⟩, ⟨.slice A5_0 x5_0.length c5_0, 37, 1, nums .u32 x5_0⟩, ⟨.slice A6_0 x6_0.length c6_0, 37, 1, nums .u32 x6_0⟩]) , RunAny Go.Proofs.Try.prog (Ret fun v w' => ∃ A0' n0' c0', ∃ A1' n1' c1', v = .tuple #[.slice A0' n0' c0', .slice A1' n1' c1', .int .i64 r.2.2] ∧ Mem w w' [⟨.slice A0' n0' c0', 37, 1, nums .u32 r.1⟩, ⟨.slice A1' n1' c1', 37, 1, nums .u32 r.2.1⟩]) 9 (rest1 (pl Go.Proofs.Try.f9 [1, 0, 1, 1, 0, 1, 0, 0, 1, 0, 0, 1, 1])) 93 (opsOf (pl Go.Proofs.Try.f9 [1, 0, 1, 1, 0, 1, 0, 0, 1, 0, 0, 1, 1])) (Still W94 [.slice A5_0 x5_0.length c5_0, .slice A6_0 x6_0.length c6_0, .slice A3_0 x3_0.length c3_0]) 8 [0, 1, 4, 5, 8, 9, 10, 2, 6] [(2, .slice none 0 0), (3, .slice A3_0 x3_0.length c3_0), (5, .slice A5_0 x5_0.length c5_0), (6, .slice A6_0 x6_0.length c6_0), (7, .slice A7_0 x7_0.length c7_0), (8, .int .u32 t21.1), (10, .int .u32 t30.1), (46, .slice A5_0 x5_0.length c5_0), (47, .int .u32 t21.1), (48, .slice (some ⟨g40, 0, none⟩) 1 1), (50, .slice A6_0 x6_0.length c6_0), (51, .int .u32 t30.1), (52, .slice (some ⟨g52, 0, none⟩) 1 1), (54, .slice A3_0 x3_0.length c3_0), (55, .slice A7_0 x7_0.length c7_0), (56, .slice A35 (((x7_0.take (8 : Int).toNat).drop (0 : Int).toNat).length) c37)] W94 := by
                                intro g40 g52 W94 hS hM 
                                have h_ := of_decide_eq_true c67
                                obtain ⟨A95, n96, c97, W98, hD, hM', hS_⟩ := app_doesW (P := Go.Proofs.Try.prog) (n := 93) (k := (one (opsOf (pl Go.Proofs.Try.f9 [1, 0, 1, 1, 0, 1, 0, 0, 1, 0, 0, 1, 1])) 3)) (L := [(2, .slice none 0 0), (3, .slice A3_0 x3_0.length c3_0), (5, .slice A5_0 x5_0.length c5_0), (6, .slice A6_0 x6_0.length c6_0), (7, .slice A7_0 x7_0.length c7_0), (8, .int .u32 t21.1), (10, .int .u32 t30.1), (46, .slice A5_0 x5_0.length c5_0), (47, .int .u32 t21.1), (48, .slice (some ⟨g40, 0, none⟩) 1 1), (50, .slice A6_0 x6_0.length c6_0), (51, .int .u32 t30.1), (52, .slice (some ⟨g52, 0, none⟩) 1 1), (54, .slice A3_0 x3_0.length c3_0), (55, .slice A7_0 x7_0.length c7_0), (56, .slice A35 (((x7_0.take (8 : Int).toNat).drop (0 : Int).toNat).length) c37)]) (d := some 49) (e := 37) (A := A5_0) (m := x5_0.length) (c := c5_0) (A2 := (some ⟨g40, 0, none⟩)) (m2 := 1) (c2 := 1) (cs := nums .u32 x5_0) (ys := nums .u32 ([t21.1] : List Int)) (k2 := [.inRegion (opsOf (pl Go.Proofs.Try.f9 [1, 0, 1, 1, 0, 1, 0, 0, 1, 0, 0, 1, 1])) []]) [⟨.slice (some ⟨g40, 0, none⟩) 1 1, 37, 1, nums .u32 [t21.1]⟩, ⟨.slice (some ⟨g52, 0, none⟩) 1 1, 37, 1, nums .u32 [t30.1]⟩, ⟨.slice A3_0 x3_0.length c3_0, 37, 1, nums .u32 x3_0⟩] [⟨.slice A6_0 x6_0.length c6_0, 37, 1, nums .u32 x6_0⟩] (by kernel_rfl) (hM.pick [0, 1, 2, 3, 4] rfl rfl) (hM.rd 0 rfl) (one_nums _ _) (by omega) (by kernel_rfl)
                                rw [nums_append] at hM'
                                replace hM := hM'; clear h_ hM'
                                obtain rfl : (x5_0 ++ ([t21.1] : List Int)).length = n96 := by have h_ := (hM.rd 3 rfl).1; simpa only [nums_length, bools_length, strs_length] using h_
                                refine RunAny.does 3 (by kernel_rfl) hD (hS.app hS_ (by simp)) ?_
                                clear hD
                                replace hS := (hS.app hS_ (by simp)); clear hS_
                                refine RunAny.rebase hS ?_
                                replace hS := Still.refl W98 [.slice A5_0 x5_0.length c5_0, .slice A6_0 x6_0.length c6_0, .slice A3_0 x3_0.length c3_0]
                                exact RunAny.same [0, 1, 4, 5, 8, 9, 10, 2, 3, 6] (by kernel_rfl) [2, 3, 5, 6, 7, 8, 10, 46, 47, 48, 49, 50, 51, 52, 54, 55, 56] (by kernel_rfl) (J68 g40 A95 c97 g52 _ hS (hM.pick [0, 3, 1, 2, 4] rfl rfl))
                              have J101 : ∀ (g40 : Nat) (A46 : Option Addr) (c48 : Nat) (W102 : World) (hS : Still W102 [.slice A5_0 x5_0.length c5_0, .slice A6_0 x6_0.length c6_0, .slice A3_0 x3_0.length c3_0] W102) (hM : Mem w W102 [⟨.slice (some ⟨g40, 0, none⟩) 1 1, 37, 1, nums .u32 [t21.1]⟩, ⟨.slice A46 ((x5_0 ++ ([t21.1] : List Int)).length) c48, 37, 1, nums .u32 (x5_0 ++ ([t21.1] : List Int))⟩, ⟨.slice A3_0 x3_0.length c3_0, 37, 1, nums .u32 x3_0⟩, ⟨.slice A6_0 x6_0.length c6_0, 37, 1, nums .u32 x6_0⟩]) , RunAny Go.Proofs.Try.prog (Ret fun v w' => ∃ A0' n0' c0', ∃ A1' n1' c1', v = .tuple #[.slice A0' n0' c0', .slice A1' n1' c1', .int .i64 r.2.2] ∧ Mem w w' [⟨.slice A0' n0' c0', 37, 1, nums .u32 r.1⟩, ⟨.slice A1' n1' c1', 37, 1, nums .u32 r.2.1⟩]) 9 (rest1 (pl Go.Proofs.Try.f9 [1, 0, 1, 1, 0, 1, 0, 0, 1, 0, 0, 1, 1])) 93 (opsOf (pl Go.Proofs.Try.f9 [1, 0, 1, 1, 0, 1, 0, 0, 1, 0, 0, 1, 1])) (Still W102 [.slice A5_0 x5_0.length c5_0, .slice A6_0 x6_0.length c6_0, .slice A3_0 x3_0.length c3_0]) 8 [0, 1, 4, 5, 8, 9, 10, 2, 3] [(2, .slice none 0 0), (3, .slice A3_0 x3_0.length c3_0), (5, .slice A5_0 x5_0.length c5_0), (6, .slice A6_0 x6_0.length c6_0), (7, .slice A7_0 x7_0.length c7_0), (8, .int .u32 t21.1), (10, .int .u32 t30.1), (46, .slice A5_0 x5_0.length c5_0), (47, .int .u32 t21.1), (48, .slice (some ⟨g40, 0, none⟩) 1 1), (49, .slice A46 ((x5_0 ++ ([t21.1] : List Int)).length) c48), (50, .slice A6_0 x6_0.length c6_0), (51, .int .u32 t30.1), (54, .slice A3_0 x3_0.length c3_0), (55, .slice A7_0 x7_0.length c7_0), (56, .slice A35 (((x7_0.take (8 : Int).toNat).drop (0 : Int).toNat).length) c37)] W102 := by
                                intro g40 A46 c48 W102 hS hM 
                                refine RunAny.new 6 37 1 1 (nums .u32 [t30.1]) (d := some 52) (k2 := [.inRegion (opsOf (pl Go.Proofs.Try.f9 [1, 0, 1, 1, 0, 1, 0, 0, 1, 0, 0, 1, 1])) []]) (by kernel_rfl) hM (by simp [nums, bools, strs]) (by kernel_rfl) (by kernel_rfl) hS ?_
                                intro g103 W104 hS hM
                                refine RunAny.rebase hS ?_
                                replace hS := Still.refl W104 [.slice A5_0 x5_0.length c5_0, .slice A6_0 x6_0.length c6_0, .slice A3_0 x3_0.length c3_0]
                                exact RunAny.same [0, 1, 4, 5, 8, 9, 10, 2, 3, 6] (by kernel_rfl) [2, 3, 5, 6, 7, 8, 10, 46, 47, 48, 49, 50, 51, 52, 54, 55, 56] (by kernel_rfl) (J68 g40 A46 c48 g103 _ hS (hM.pick [1, 2, 0, 3, 4] rfl rfl))
                              have J106 : ∀ (g43 : Nat) (W107 : World) (hS : Still W107 [.slice A5_0 x5_0.length c5_0, .slice A6_0 x6_0.length c6_0, .slice A3_0 x3_0.length c3_0] W107) (hM : Mem w W107 [⟨.slice (some ⟨g43, 0, none⟩) 1 1, 37, 1, nums .u32 [t30.1]⟩, ⟨.slice A3_0 x3_0.length c3_0, 37, 1, nums .u32 x3_0⟩, ⟨.slice A5_0 x5_0.length c5_0, 37, 1, nums .u32 x5_0⟩, ⟨.slice A6_0 x6_0.length c6_0, 37, 1, nums .u32 x6_0⟩]) , RunAny Go.Proofs.Try.prog (Ret fun v w' => ∃ A0' n0' c0', ∃ A1' n1' c1', v = .tuple #[.slice A0' n0' c0', .slice A1' n1' c1', .int .i64 r.2.2] ∧ Mem w w' [⟨.slice A0' n0' c0', 37, 1, nums .u32 r.1⟩, ⟨.slice A1' n1' c1', 37, 1, nums .u32 r.2.1⟩]) 9 (rest1 (pl Go.Proofs.Try.f9 [1, 0, 1, 1, 0, 1, 0, 0, 1, 0, 0, 1, 1])) 93 (opsOf (pl Go.Proofs.Try.f9 [1, 0, 1, 1, 0, 1, 0, 0, 1, 0, 0, 1, 1])) (Still W107 [.slice A5_0 x5_0.length c5_0, .slice A6_0 x6_0.length c6_0, .slice A3_0 x3_0.length c3_0]) 9 [0, 1, 4, 5, 8, 9, 10, 6] [(2, .slice none 0 0), (3, .slice A3_0 x3_0.length c3_0), (5, .slice A5_0 x5_0.length c5_0), (6, .slice A6_0 x6_0.length c6_0), (7, .slice A7_0 x7_0.length c7_0), (8, .int .u32 t21.1), (10, .int .u32 t30.1), (46, .slice A5_0 x5_0.length c5_0), (47, .int .u32 t21.1), (50, .slice A6_0 x6_0.length c6_0), (51, .int .u32 t30.1), (52, .slice (some ⟨g43, 0, none⟩) 1 1), (54, .slice A3_0 x3_0.length c3_0), (55, .slice A7_0 x7_0.length c7_0), (56, .slice A35 (((x7_0.take (8 : Int).toNat).drop (0 : Int).toNat).length) c37)] W107 := by
                                intro g43 W107 hS hM 
                                refine RunAny.new 2 37 1 1 (nums .u32 [t21.1]) (d := some 48) (k2 := [.inRegion (opsOf (pl Go.Proofs.Try.f9 [1, 0, 1, 1, 0, 1, 0, 0, 1, 0, 0, 1, 1])) []]) (by kernel_rfl) hM (by simp [nums, bools, strs]) (by kernel_rfl) (by kernel_rfl) hS ?_
                                intro g108 W109 hS hM
                                refine RunAny.rebase hS ?_
                                replace hS := Still.refl W109 [.slice A5_0 x5_0.length c5_0, .slice A6_0 x6_0.length c6_0, .slice A3_0 x3_0.length c3_0]
                                exact RunAny.same [0, 1, 4, 5, 8, 9, 10, 2, 6] (by kernel_rfl) [2, 3, 5, 6, 7, 8, 10, 46, 47, 48, 50, 51, 52, 54, 55, 56] (by kernel_rfl) (J93 g108 g43 _ hS (hM.pick [0, 1, 2, 3, 4] rfl rfl))
                              have J111 : ∀ (g40 : Nat) (W112 : World) (hS : Still W112 [.slice A5_0 x5_0.length c5_0, .slice A6_0 x6_0.length c6_0, .slice A3_0 x3_0.length c3_0] W112) (hM : Mem w W112 [⟨.slice (some ⟨g40, 0, none⟩) 1 1, 37, 1, nums .u32 [t21.1]⟩, ⟨.slice A3_0 x3_0.length c3_0, 37, 1, nums .u32 x3_0⟩, ⟨.slice A5_0 x5_0.length c5_0, 37, 1, nums .u32 x5_0⟩, ⟨.slice A6_0 x6_0.length c6_0, 37, 1, nums .u32 x6_0⟩]) , RunAny Go.Proofs.Try.prog (Ret fun v w' => ∃ A0' n0' c0', ∃ A1' n1' c1', v = .tuple #[.slice A0' n0' c0', .slice A1' n1' c1', .int .i64 r.2.2] ∧ Mem w w' [⟨.slice A0' n0' c0', 37, 1, nums .u32 r.1⟩, ⟨.slice A1' n1' c1', 37, 1, nums .u32 r.2.1⟩]) 9 (rest1 (pl Go.Proofs.Try.f9 [1, 0, 1, 1, 0, 1, 0, 0, 1, 0, 0, 1, 1])) 93 (opsOf (pl Go.Proofs.Try.f9 [1, 0, 1, 1, 0, 1, 0, 0, 1, 0, 0, 1, 1])) (Still W112 [.slice A5_0 x5_0.length c5_0, .slice A6_0 x6_0.length c6_0, .slice A3_0 x3_0.length c3_0]) 9 [0, 1, 4, 5, 8, 9, 10, 2] [(2, .slice none 0 0), (3, .slice A3_0 x3_0.length c3_0), (5, .slice A5_0 x5_0.length c5_0), (6, .slice A6_0 x6_0.length c6_0), (7, .slice A7_0 x7_0.length c7_0), (8, .int .u32 t21.1), (10, .int .u32 t30.1), (46, .slice A5_0 x5_0.length c5_0), (47, .int .u32 t21.1), (48, .slice (some ⟨g40, 0, none⟩) 1 1), (50, .slice A6_0 x6_0.length c6_0), (51, .int .u32 t30.1), (54, .slice A3_0 x3_0.length c3_0), (55, .slice A7_0 x7_0.length c7_0), (56, .slice A35 (((x7_0.take (8 : Int).toNat).drop (0 : Int).toNat).length) c37)] W112 := by
                                intro g40 W112 hS hM 
                                refine RunAny.all [3, 6] (by kernel_rfl) (by simp) ?_
                                refine ⟨?_, ?_, trivial⟩
                                · have h_ := of_decide_eq_true c67
                                  obtain ⟨A113, n114, c115, W116, hD, hM', hS_⟩ := app_doesW (P := Go.Proofs.Try.prog) (n := 93) (k := (one (opsOf (pl Go.Proofs.Try.f9 [1, 0, 1, 1, 0, 1, 0, 0, 1, 0, 0, 1, 1])) 3)) (L := [(2, .slice none 0 0), (3, .slice A3_0 x3_0.length c3_0), (5, .slice A5_0 x5_0.length c5_0), (6, .slice A6_0 x6_0.length c6_0), (7, .slice A7_0 x7_0.length c7_0), (8, .int .u32 t21.1), (10, .int .u32 t30.1), (46, .slice A5_0 x5_0.length c5_0), (47, .int .u32 t21.1), (48, .slice (some ⟨g40, 0, none⟩) 1 1), (50, .slice A6_0 x6_0.length c6_0), (51, .int .u32 t30.1), (54, .slice A3_0 x3_0.length c3_0), (55, .slice A7_0 x7_0.length c7_0), (56, .slice A35 (((x7_0.take (8 : Int).toNat).drop (0 : Int).toNat).length) c37)]) (d := some 49) (e := 37) (A := A5_0) (m := x5_0.length) (c := c5_0) (A2 := (some ⟨g40, 0, none⟩)) (m2 := 1) (c2 := 1) (cs := nums .u32 x5_0) (ys := nums .u32 ([t21.1] : List Int)) (k2 := [.inRegion (opsOf (pl Go.Proofs.Try.f9 [1, 0, 1, 1, 0, 1, 0, 0, 1, 0, 0, 1, 1])) []]) [⟨.slice (some ⟨g40, 0, none⟩) 1 1, 37, 1, nums .u32 [t21.1]⟩, ⟨.slice A3_0 x3_0.length c3_0, 37, 1, nums .u32 x3_0⟩] [⟨.slice A6_0 x6_0.length c6_0, 37, 1, nums .u32 x6_0⟩] (by kernel_rfl) (hM.pick [0, 1, 2, 3] rfl rfl) (hM.rd 0 rfl) (one_nums _ _) (by omega) (by kernel_rfl)
                                  rw [nums_append] at hM'
                                  replace hM := hM'; clear h_ hM'
                                  obtain rfl : (x5_0 ++ ([t21.1] : List Int)).length = n114 := by have h_ := (hM.rd 2 rfl).1; simpa only [nums_length, bools_length, strs_length] using h_
                                  refine Stepped.does 3 hD (hS.app hS_ (by simp)) ?_
                                  clear hD
                                  replace hS := (hS.app hS_ (by simp)); clear hS_
                                  refine RunAny.rebase hS ?_
                                  replace hS := Still.refl W116 [.slice A5_0 x5_0.length c5_0, .slice A6_0 x6_0.length c6_0, .slice A3_0 x3_0.length c3_0]
                                  exact RunAny.same [0, 1, 4, 5, 8, 9, 10, 2, 3] (by kernel_rfl) [2, 3, 5, 6, 7, 8, 10, 46, 47, 48, 49, 50, 51, 54, 55, 56] (by kernel_rfl) (J101 g40 A113 c115 _ hS (hM.pick [0, 2, 1, 3] rfl rfl))
                                · refine Stepped.new 6 37 1 1 (nums .u32 [t30.1]) (d := some 52) (k2 := [.inRegion (opsOf (pl Go.Proofs.Try.f9 [1, 0, 1, 1, 0, 1, 0, 0, 1, 0, 0, 1, 1])) []]) hM (by simp [nums, bools, strs]) (by kernel_rfl) (by kernel_rfl) hS ?_
                                  intro g119 W120 hS hM
                                  refine RunAny.rebase hS ?_
                                  replace hS := Still.refl W120 [.slice A5_0 x5_0.length c5_0, .slice A6_0 x6_0.length c6_0, .slice A3_0 x3_0.length c3_0]
                                  exact RunAny.same [0, 1, 4, 5, 8, 9, 10, 2, 6] (by kernel_rfl) [2, 3, 5, 6, 7, 8, 10, 46, 47, 48, 50, 51, 52, 54, 55, 56] (by kernel_rfl) (J93 g40 g119 _ hS (hM.pick [1, 0, 2, 3, 4] rfl rfl))
                              refine RunAny.all [2, 6] (by kernel_rfl) (by simp) ?_
                              refine ⟨?_, ?_, trivial⟩
                              · refine Stepped.new 2 37 1 1 (nums .u32 [t21.1]) (d := some 48) (k2 := [.inRegion (opsOf (pl Go.Proofs.Try.f9 [1, 0, 1, 1, 0, 1, 0, 0, 1, 0, 0, 1, 1])) []]) hM (by simp [nums, bools, strs]) (by kernel_rfl) (by kernel_rfl) hS ?_
                                intro g122 W123 hS hM
                                refine RunAny.rebase hS ?_
                                replace hS := Still.refl W123 [.slice A5_0 x5_0.length c5_0, .slice A6_0 x6_0.length c6_0, .slice A3_0 x3_0.length c3_0]
                                exact RunAny.same [0, 1, 4, 5, 8, 9, 10, 2] (by kernel_rfl) [2, 3, 5, 6, 7, 8, 10, 46, 47, 48, 50, 51, 54, 55, 56] (by kernel_rfl) (J111 g122 _ hS (hM.pick [0, 1, 2, 3] rfl rfl))
                              · refine Stepped.new 6 37 1 1 (nums .u32 [t30.1]) (d := some 52) (k2 := [.inRegion (opsOf (pl Go.Proofs.Try.f9 [1, 0, 1, 1, 0, 1, 0, 0, 1, 0, 0, 1, 1])) []]) hM (by simp [nums, bools, strs]) (by kernel_rfl) (by kernel_rfl) hS ?_
                                intro g125 W126 hS hM
                                refine RunAny.rebase hS ?_
                                replace hS := Still.refl W126 [.slice A5_0 x5_0.length c5_0, .slice A6_0 x6_0.length c6_0, .slice A3_0 x3_0.length c3_0]
                                exact RunAny.same [0, 1, 4, 5, 8, 9, 10, 6] (by kernel_rfl) [2, 3, 5, 6, 7, 8, 10, 46, 47, 50, 51, 52, 54, 55, 56] (by kernel_rfl) (J106 g125 _ hS (hM.pick [0, 1, 2, 3] rfl rfl))
                            · replace h := of_false h c67
                              cases h
                          · replace h := of_false h c34
                            cases h
                        · replace h := of_false h c33
                          cases h
                      · replace h := of_false h c23
                        cases h
                    · replace h := of_false h c22
                      cases h
                  · replace h := of_false h c14
                    cases h
                · replace h := of_false h c13
                  cases h
              · replace h := of_false h c12
                refine RunF.know 31 (b := false) (by kernel_rfl) c12 ?_
                refine RunF.go 5 [2, 3, 5, 6, 60] (k' := (pin Go.Proofs.Try.f9 [1, 0, 1, 1, 1, 0] 1)) (L' := [(2, .slice none 0 0), (3, .slice A3_0 x3_0.length c3_0), (5, .slice A5_0 x5_0.length c5_0), (6, .slice A6_0 x6_0.length c6_0), (60, .slice A3_0 x3_0.length c3_0)]) (w' := W) (by kernel_rfl) ?_
                obtain ⟨t129, ht129, h⟩ := Option.bind_eq_some_iff.mp h
                refine RunF.call (d := some 61) (g := 26) (args := #[.slice A3_0 x3_0.length c3_0]) (k2 := (pin Go.Proofs.Try.f9 [1, 0, 1, 1, 1, 0] 2)) (by kernel_rfl) (slices_Reverse_uint32_uint32.calls k A3_0 x3_0.length c3_0 x3_0 t129 _ w (Gs [⟨.slice A5_0 x5_0.length c5_0, 37, 1, nums .u32 x5_0⟩, ⟨.slice A6_0 x6_0.length c6_0, 37, 1, nums .u32 x6_0⟩] []) (Mem.pickF (hM.as (H' := Gs [⟨.slice A3_0 x3_0.length c3_0, 37, 1, nums .u32 x3_0⟩, ⟨.slice A5_0 x5_0.length c5_0, 37, 1, nums .u32 x5_0⟩, ⟨.slice A6_0 x6_0.length c6_0, 37, 1, nums .u32 x6_0⟩] []) rfl) [0, 1, 2] rfl rfl (by simp [Gs])) ht129) ?_
                rintro _ W128 ⟨rfl, hM_⟩
                replace hM : Mem w W128 [⟨.slice A3_0 x3_0.length c3_0, 37, 1, nums .u32 t129⟩, ⟨.slice A5_0 x5_0.length c5_0, 37, 1, nums .u32 x5_0⟩, ⟨.slice A6_0 x6_0.length c6_0, 37, 1, nums .u32 x6_0⟩] := hM_.as (by simp [Gs])
                clear hM_ ht129
                have hl_ : x3_0.length = t129.length := by have h_ := (hM.rd 0 rfl).1; simpa [nums_length, bools_length, strs_length] using h_.symm
                simp only [hl_] at hM ⊢
                clear hl_
                refine RunF.go 7 [2, 3, 5, 6, 12] (k' := (pl Go.Proofs.Try.f9 [1, 0, 1, 1, 1, 1, 1, 1])) (L' := [(2, .slice none 0 0), (3, .slice A3_0 t129.length c3_0), (5, .slice A5_0 x5_0.length c5_0), (6, .slice A6_0 x6_0.length c6_0), (12, .int .u32 0)]) (w' := W128) (by kernel_rfl) ?_
                replace hM := hM.nil 37
                have l1 : ∀ (k_ : Nat), k_ ≤ k → ∀ (A2_1 : Option Addr) (c2_1 : Nat) (x2_1 : List Int) (A3_1 : Option Addr) (c3_1 : Nat) (x3_1 : List Int) (x12_1 : Int) (W : World) (hM : Mem w W [⟨.slice A2_1 x2_1.length c2_1, 37, 1, nums .u32 x2_1⟩, ⟨.slice A3_1 x3_1.length c3_1, 37, 1, nums .u32 x3_1⟩, ⟨.slice A5_0 x5_0.length c5_0, 37, 1, nums .u32 x5_0⟩, ⟨.slice A6_0 x6_0.length c6_0, 37, 1, nums .u32 x6_0⟩]) (h : twofish_Keys.l1 k_ x5_0 x6_0 x2_1 x3_1 x12_1 = some r), RunF Go.Proofs.Try.prog (Ret fun v w' => ∃ A0' n0' c0', ∃ A1' n1' c1', v = .tuple #[.slice A0' n0' c0', .slice A1' n1' c1', .int .i64 r.2.2] ∧ Mem w w' [⟨.slice A0' n0' c0', 37, 1, nums .u32 r.1⟩, ⟨.slice A1' n1' c1', 37, 1, nums .u32 r.2.1⟩]) 9 (pl Go.Proofs.Try.f9 [1, 0, 1, 1, 1, 1, 1, 1]) 93 [(2, .slice A2_1 x2_1.length c2_1), (3, .slice A3_1 x3_1.length c3_1), (5, .slice A5_0 x5_0.length c5_0), (6, .slice A6_0 x6_0.length c6_0), (12, .int .u32 x12_1)] W := by
                  intro k_
                  induction k_ using Nat.strongRecOn with
                  | _ k_ ih1 =>
                    intro hk A2_1 c2_1 x2_1 A3_1 c3_1 x3_1 x12_1 W hM h
                    cases k_ with
                    | zero => exact absurd h (by simp [twofish_Keys.l1])
                    | succ k =>
                      simp only [twofish_Keys.l1] at h
                      replace ih1 : ∀ m, m ≤ k → _ := fun m hm => ih1 m (by omega) (by omega)
                      replace ih0 : ∀ m, m ≤ k → _ := fun m hm => ih0 m (by omega)
                      refine RunF.go 6 [2, 3, 5, 6, 12, 64, 65] (k' := (pin Go.Proofs.Try.f9 [1, 0, 1, 1, 1, 1, 1, 1, 0] 4)) (L' := [(2, .slice A2_1 x2_1.length c2_1), (3, .slice A3_1 x3_1.length c3_1), (5, .slice A5_0 x5_0.length c5_0), (6, .slice A6_0 x6_0.length c6_0), (12, .int .u32 x12_1), (64, .int .u32 (U32 ((U32 (2 * x12_1)) * 16843009))), (65, .slice A5_0 x5_0.length c5_0)]) (w' := W) (by kernel_rfl) ?_
                      obtain ⟨t134, ht134, h⟩ := Option.bind_eq_some_iff.mp h
                      refine RunF.call (d := some 66) (g := 16) (args := #[.int .u32 (U32 ((U32 (2 * x12_1)) * 16843009)), .slice A5_0 x5_0.length c5_0]) (k2 := (pin Go.Proofs.Try.f9 [1, 0, 1, 1, 1, 1, 1, 1, 0] 5)) (by kernel_rfl) (twofish_H.calls k (U32 ((U32 (2 * x12_1)) * 16843009)) A5_0 x5_0.length c5_0 x5_0 t134 _ (hM.rd 2 rfl) ht134) ?_
                      rintro _ W133 ⟨rfl, hM_⟩
                      replace hM := hM.call hM_
                      clear hM_ ht134
                      refine RunF.go 9 [2, 3, 5, 6, 12, 13, 70, 71] (k' := (pin Go.Proofs.Try.f9 [1, 0, 1, 1, 1, 1, 1, 1, 1, 0] 5)) (L' := [(2, .slice A2_1 x2_1.length c2_1), (3, .slice A3_1 x3_1.length c3_1), (5, .slice A5_0 x5_0.length c5_0), (6, .slice A6_0 x6_0.length c6_0), (12, .int .u32 x12_1), (13, .int .u32 t134), (70, .int .u32 (U32 ((U32 ((U32 (2 * x12_1)) + 1)) * 16843009))), (71, .slice A6_0 x6_0.length c6_0)]) (w' := W133) (by kernel_rfl) ?_
                      obtain ⟨y135, hy, h⟩ := Option.bind_eq_some_iff.mp h
                      rw [show (U32 ((U32 ((U32 (2 * x12_1)) + 1)) * 16843009)) = y135 from Option.some.inj hy]
                      clear hy
                      obtain ⟨t137, ht137, h⟩ := Option.bind_eq_some_iff.mp h
                      refine RunF.call (d := some 72) (g := 16) (args := #[.int .u32 y135, .slice A6_0 x6_0.length c6_0]) (k2 := (pin Go.Proofs.Try.f9 [1, 0, 1, 1, 1, 1, 1, 1, 1, 0] 6)) (by kernel_rfl) (twofish_H.calls k y135 A6_0 x6_0.length c6_0 x6_0 t137 _ (hM.rd 3 rfl) ht137) ?_
                      rintro _ W136 ⟨rfl, hM_⟩
                      replace hM := hM.call hM_
                      clear hM_ ht137
                      obtain ⟨t139, ht139, h⟩ := Option.bind_eq_some_iff.mp h
                      refine RunF.call (d := some 73) (g := 27) (args := #[.int .u32 t137, .int .i64 8]) (k2 := (pin Go.Proofs.Try.f9 [1, 0, 1, 1, 1, 1, 1, 1, 1, 0] 7)) (by kernel_rfl) (words_Rol32.calls k t137 8 t139 _ ht139) ?_
                      rintro _ W138 ⟨rfl, hM_⟩
                      replace hM := hM.call hM_
                      clear hM_ ht139
                      refine RunF.go 12 [3, 5, 6, 12, 74, 77, 81] (k' := (pin Go.Proofs.Try.f9 [1, 0, 1, 1, 1, 1, 1, 1, 1, 1, 0] 8)) (L' := [(3, .slice A3_1 x3_1.length c3_1), (5, .slice A5_0 x5_0.length c5_0), (6, .slice A6_0 x6_0.length c6_0), (12, .int .u32 x12_1), (74, .slice A2_1 x2_1.length c2_1), (77, .int .u32 (U32 (t134 + t139))), (81, .int .u32 (U32 (t134 + (U32 (2 * t139)))))]) (w' := W138) (by kernel_rfl) ?_
                      obtain ⟨t141, ht141, h⟩ := Option.bind_eq_some_iff.mp h
                      refine RunF.call (d := some 82) (g := 27) (args := #[.int .u32 (U32 (t134 + (U32 (2 * t139)))), .int .i64 9]) (k2 := (pin Go.Proofs.Try.f9 [1, 0, 1, 1, 1, 1, 1, 1, 1, 1, 0] 9)) (by kernel_rfl) (words_Rol32.calls k (U32 (t134 + (U32 (2 * t139)))) 9 t141 _ ht141) ?_
                      rintro _ W140 ⟨rfl, hM_⟩
                      replace hM := hM.call hM_
                      clear hM_ ht141
                      refine RunF.new 37 1 2 (nums .u32 [U32 (t134 + t139), t141]) (d := some 83) (k2 := (pin Go.Proofs.Try.f9 [1, 0, 1, 1, 1, 1, 1, 1, 1, 1, 0] 10)) hM (by simp [nums, bools, strs]) (by kernel_rfl) (by kernel_rfl) ?_
                      replace hM := hM
                      intro g142 W143 hM
                      rcases two (decide (x2_1.length + ([U32 (t134 + t139), t141] : List Int).length ≤ 35184372088832)) with c149 | c149
                      · replace h := of_true h c149
                        have h_ := of_decide_eq_true c149
                        obtain ⟨A145, n146, c147, W148, hD, hM', hS_⟩ := app_doesW (P := Go.Proofs.Try.prog) (n := 93) (k := (pin Go.Proofs.Try.f9 [1, 0, 1, 1, 1, 1, 1, 1, 1, 1, 0] 10)) (L := (upd (upd [(3, .slice A3_1 x3_1.length c3_1), (5, .slice A5_0 x5_0.length c5_0), (6, .slice A6_0 x6_0.length c6_0), (12, .int .u32 x12_1), (74, .slice A2_1 x2_1.length c2_1), (77, .int .u32 (U32 (t134 + t139))), (81, .int .u32 (U32 (t134 + (U32 (2 * t139)))))] (some 82) (.int .u32 t141)) (some 83) (.slice (some ⟨g142, 0, none⟩) 2 2))) (d := some 84) (e := 37) (A := A2_1) (m := x2_1.length) (c := c2_1) (A2 := (some ⟨g142, 0, none⟩)) (m2 := 2) (c2 := 2) (cs := nums .u32 x2_1) (ys := nums .u32 ([U32 (t134 + t139), t141] : List Int)) (k2 := (pin Go.Proofs.Try.f9 [1, 0, 1, 1, 1, 1, 1, 1, 1, 1, 0] 11)) [⟨.slice (some ⟨g142, 0, none⟩) 2 2, 37, 1, nums .u32 [U32 (t134 + t139), t141]⟩] [⟨.slice A3_1 x3_1.length c3_1, 37, 1, nums .u32 x3_1⟩, ⟨.slice A5_0 x5_0.length c5_0, 37, 1, nums .u32 x5_0⟩, ⟨.slice A6_0 x6_0.length c6_0, 37, 1, nums .u32 x6_0⟩] (by kernel_rfl) (hM.pick [0, 1, 2, 3, 4] rfl rfl) (hM.rd 0 rfl) (one_nums _ _) (by omega) (by kernel_rfl)
                        rw [nums_append] at hM'
                        replace hM := hM'; clear h_ hM'
                        obtain rfl : (x2_1 ++ ([U32 (t134 + t139), t141] : List Int)).length = n146 := by have h_ := (hM.rd 1 rfl).1; simpa only [nums_length, bools_length, strs_length] using h_
                        refine RunF.does hD ?_
                        clear hD hS_
                        refine RunF.go 14 [2, 3, 5, 6, 12, 88] (k' := (pl Go.Proofs.Try.f9 [1, 0, 1, 1, 1, 1, 1, 1, 1, 1, 1, 0, 1, 1])) (L' := [(2, .slice A145 ((x2_1 ++ ([U32 (t134 + t139), t141] : List Int)).length) c147), (3, .slice A3_1 x3_1.length c3_1), (5, .slice A5_0 x5_0.length c5_0), (6, .slice A6_0 x6_0.length c6_0), (12, .int .u32 (U32 (x12_1 + 1))), (88, .bool (decide ((U32 (x12_1 + 1)) < 20)))]) (w' := W148) (by kernel_rfl) ?_
                        rcases two (decide ((U32 (x12_1 + 1)) < 20)) with c151 | c151
                        · replace h := of_true h c151
                          refine RunF.know 88 (b := true) (by kernel_rfl) c151 ?_
                          refine RunF.go 4 [2, 3, 5, 6, 12] (k' := (pl Go.Proofs.Try.f9 [1, 0, 1, 1, 1, 1, 1, 1])) (L' := [(2, .slice A145 ((x2_1 ++ ([U32 (t134 + t139), t141] : List Int)).length) c147), (3, .slice A3_1 x3_1.length c3_1), (5, .slice A5_0 x5_0.length c5_0), (6, .slice A6_0 x6_0.length c6_0), (12, .int .u32 (U32 (x12_1 + 1)))]) (w' := W148) (by kernel_rfl) ?_
                          exact ih1 k (by omega) A145 c147 (x2_1 ++ ([U32 (t134 + t139), t141] : List Int)) A3_1 c3_1 x3_1 (U32 (x12_1 + 1)) _ (hM.pick [1, 2, 3, 4] rfl rfl) h
                        · replace h := of_false h c151
                          refine RunF.know 88 (b := false) (by kernel_rfl) c151 ?_
                          refine RunF.go 5 [3, 89] (k' := (pin Go.Proofs.Try.f9 [1, 0, 1, 1, 1, 1, 1, 1, 1, 1, 1, 1, 0] 1)) (L' := [(3, .slice A3_1 x3_1.length c3_1), (89, .slice A145 ((x2_1 ++ ([U32 (t134 + t139), t141] : List Int)).length) c147)]) (w' := W148) (by kernel_rfl) ?_
                          obtain ⟨t153, ht153, h⟩ := Option.bind_eq_some_iff.mp h
                          refine RunF.call (d := some 90) (g := 28) (args := #[.slice A145 ((x2_1 ++ ([U32 (t134 + t139), t141] : List Int)).length) c147]) (k2 := (pin Go.Proofs.Try.f9 [1, 0, 1, 1, 1, 1, 1, 1, 1, 1, 1, 1, 0] 2)) (by kernel_rfl) (slices_Clone_uint32_uint32.calls k A145 ((x2_1 ++ ([U32 (t134 + t139), t141] : List Int)).length) c147 (x2_1 ++ ([U32 (t134 + t139), t141] : List Int)) t153 _ (hM.rd 1 rfl) ht153) ?_
                          rintro _ W152 ⟨A154, n155, c156, rfl, hM_⟩
                          obtain rfl : t153.length = n155 := by have h_ := (hM_.rd 0 rfl).1; simpa [nums_length, bools_length, strs_length] using h_
                          replace hM := hM.call hM_
                          clear hM_ ht153
                          refine RunF.go 1 [90, 91] (k' := (pin Go.Proofs.Try.f9 [1, 0, 1, 1, 1, 1, 1, 1, 1, 1, 1, 1, 0] 3)) (L' := [(90, .slice A154 t153.length c156), (91, .slice A3_1 x3_1.length c3_1)]) (w' := W152) (by kernel_rfl) ?_
                          obtain ⟨t159, ht159, h⟩ := Option.bind_eq_some_iff.mp h
                          refine RunF.call (d := some 92) (g := 28) (args := #[.slice A3_1 x3_1.length c3_1]) (k2 := (pin Go.Proofs.Try.f9 [1, 0, 1, 1, 1, 1, 1, 1, 1, 1, 1, 1, 0] 4)) (by kernel_rfl) (slices_Clone_uint32_uint32.calls k A3_1 x3_1.length c3_1 x3_1 t159 _ (hM.rd 3 rfl) ht159) ?_
                          rintro _ W158 ⟨A160, n161, c162, rfl, hM_⟩
                          obtain rfl : t159.length = n161 := by have h_ := (hM_.rd 0 rfl).1; simpa [nums_length, bools_length, strs_length] using h_
                          replace hM := hM.call hM_
                          clear hM_ ht159
                          refine RunF.go 4 [2, 3, 4] (k' := (pl Go.Proofs.Try.f9 [1, 0, 1, 1, 1, 1, 1, 1, 1, 1, 1, 1, 1])) (L' := [(2, .slice A154 t153.length c156), (3, .slice A160 t159.length c162), (4, .int .i64 0)]) (w' := W158) (by kernel_rfl) ?_
                          obtain rfl := Option.some.inj h
                          exact RunF.ret3 2 3 4 (.slice A154 t153.length c156) (.slice A160 t159.length c162) (.int .i64 0) (fn := Go.Proofs.Try.f9) Go.Proofs.Try.func9 (by kernel_rfl) (by kernel_rfl) (by kernel_rfl) (by kernel_rfl) (by kernel_rfl) ⟨_, rfl, A154, t153.length, c156, A160, t159.length, c162, rfl, (hM.pick [1, 0] rfl rfl)⟩
                      · replace h := of_false h c149
                        cases h
                exact l1 k (Nat.le_refl _) none 0 ([] : List Int) A3_0 c3_0 t129 0 _ (hM.pick [0, 1, 2, 3] rfl rfl) h
        exact l0 k (Nat.le_refl _) none 0 ([] : List Int) none 0 ([] : List Int) none 0 ([] : List Int) Ap0 cp0 a0 _ (hM.pick [2, 1, 0] rfl rfl) hr0 h
    · replace h := of_false h c2
      refine RunF.know 23 (b := false) (by kernel_rfl) c2 ?_
      refine RunF.go 20 [2, 3, 5, 6, 7] (k' := (pl Go.Proofs.Try.f9 [1, 0, 1, 1, 0, 1, 0, 0])) (L' := [(2, .slice none 0 0), (3, .slice none 0 0), (5, .slice none 0 0), (6, .slice none 0 0), (7, .slice Ap0 a0.length cp0)]) (w' := w) (by kernel_rfl) ?_
      replace hM := hM.nil 37
      replace hM := hM.nil 37
      replace hM := hM.nil 37
      have l2 : ∀ (k_ : Nat), k_ ≤ k → ∀ (A3_2 : Option Addr) (c3_2 : Nat) (x3_2 : List Int) (A5_2 : Option Addr) (c5_2 : Nat) (x5_2 : List Int) (A6_2 : Option Addr) (c6_2 : Nat) (x6_2 : List Int) (A7_2 : Option Addr) (c7_2 : Nat) (x7_2 : List Int) (W : World) (hM : Mem w W [⟨.slice A3_2 x3_2.length c3_2, 37, 1, nums .u32 x3_2⟩, ⟨.slice A5_2 x5_2.length c5_2, 37, 1, nums .u32 x5_2⟩, ⟨.slice A6_2 x6_2.length c6_2, 37, 1, nums .u32 x6_2⟩]) (hrx7_2 : Rd w (.slice A7_2 x7_2.length c7_2) (nums .u8 x7_2)) (h : twofish_Keys.l2 k_  x3_2 x5_2 x6_2 x7_2 = some r), RunF Go.Proofs.Try.prog (Ret fun v w' => ∃ A0' n0' c0', ∃ A1' n1' c1', v = .tuple #[.slice A0' n0' c0', .slice A1' n1' c1', .int .i64 r.2.2] ∧ Mem w w' [⟨.slice A0' n0' c0', 37, 1, nums .u32 r.1⟩, ⟨.slice A1' n1' c1', 37, 1, nums .u32 r.2.1⟩]) 9 (pl Go.Proofs.Try.f9 [1, 0, 1, 1, 0, 1, 0, 0]) 93 [(2, .slice none 0 0), (3, .slice A3_2 x3_2.length c3_2), (5, .slice A5_2 x5_2.length c5_2), (6, .slice A6_2 x6_2.length c6_2), (7, .slice A7_2 x7_2.length c7_2)] W := by
        intro k_
        induction k_ using Nat.strongRecOn with
        | _ k_ ih2 =>
          intro hk A3_2 c3_2 x3_2 A5_2 c5_2 x5_2 A6_2 c6_2 x6_2 A7_2 c7_2 x7_2 W hM hrx7_2 h
          cases k_ with
          | zero => exact absurd h (by simp [twofish_Keys.l2])
          | succ k =>
            simp only [twofish_Keys.l2] at h
            replace ih2 : ∀ m, m ≤ k → _ := fun m hm => ih2 m (by omega) (by omega)
            refine RunF.go 7 [2, 3, 5, 6, 7, 31] (k' := (pl Go.Proofs.Try.f9 [1, 0, 1, 1, 0, 1, 0, 0, 0, 1])) (L' := [(2, .slice none 0 0), (3, .slice A3_2 x3_2.length c3_2), (5, .slice A5_2 x5_2.length c5_2), (6, .slice A6_2 x6_2.length c6_2), (7, .slice A7_2 x7_2.length c7_2), (31, .bool (decide ((x7_2.length : Int) > 0)))]) (w' := W) (by kernel_rfl) ?_
            rcases two (decide ((x7_2.length : Int) > 0)) with c170 | c170
            · replace h := of_true h c170
              refine RunF.know 31 (b := true) (by kernel_rfl) c170 ?_
              refine RunF.go 7 [2, 3, 5, 6, 7, 35] (k' := (pin Go.Proofs.Try.f9 [1, 0, 1, 1, 0, 1, 0, 0, 1, 0, 0, 0] 1)) (L' := [(2, .slice none 0 0), (3, .slice A3_2 x3_2.length c3_2), (5, .slice A5_2 x5_2.length c5_2), (6, .slice A6_2 x6_2.length c6_2), (7, .slice A7_2 x7_2.length c7_2), (35, .slice A7_2 x7_2.length c7_2)]) (w' := W) (by kernel_rfl) ?_
              rcases two (decide (0 ≤ 4)) with c171 | c171
              · replace h := of_true h c171
                rcases two (decide (4 ≤ (x7_2.length : Int))) with c172 | c172
                · replace h := of_true h c172
                  have zc171 := of_decide_eq_true c171
                  have zc172 := of_decide_eq_true c172
                  obtain ⟨A173, n174, c175, hy176, rfl, hs177⟩ := cut (P := Go.Proofs.Try.prog) (n := 93) (k := (pin Go.Proofs.Try.f9 [1, 0, 1, 1, 0, 1, 0, 0, 1, 0, 0, 0] 1)) (L := [(2, .slice none 0 0), (3, .slice A3_2 x3_2.length c3_2), (5, .slice A5_2 x5_2.length c5_2), (6, .slice A6_2 x6_2.length c6_2), (7, .slice A7_2 x7_2.length c7_2), (35, .slice A7_2 x7_2.length c7_2)]) (d := some 36) (A := A7_2) (m := x7_2.length) (c := c7_2) (l := 0) (h := 4) (k2 := (pin Go.Proofs.Try.f9 [1, 0, 1, 1, 0, 1, 0, 0, 1, 0, 0, 0] 2)) .u8 x7_2 (by kernel_rfl) (by omega) (by omega) (by omega) (hrx7_2.mono hM.below)
                  clear zc171
                  clear zc172
                  refine RunF.y hy176 trivial ?_
                  obtain ⟨t179, ht179, h⟩ := Option.bind_eq_some_iff.mp h
                  refine RunF.call (d := some 37) (g := 24) (args := #[.slice A173 (((x7_2.take (4 : Int).toNat).drop (0 : Int).toNat).length) c175]) (k2 := (pin Go.Proofs.Try.f9 [1, 0, 1, 1, 0, 1, 0, 0, 1, 0, 0, 0] 3)) (by kernel_rfl) (words_Le32.calls k A173 (((x7_2.take (4 : Int).toNat).drop (0 : Int).toNat).length) c175 ((x7_2.take (4 : Int).toNat).drop (0 : Int).toNat) t179 _ (hs177 _ (hrx7_2.mono hM.below)) ht179) ?_
                  rintro _ W178 ⟨rfl, hM_⟩
                  replace hM := hM.call hM_
                  clear hM_ ht179
                  refine RunF.go 9 [2, 3, 5, 6, 7, 8, 41] (k' := (pin Go.Proofs.Try.f9 [1, 0, 1, 1, 0, 1, 0, 0, 1, 0, 0, 1, 0] 1)) (L' := [(2, .slice none 0 0), (3, .slice A3_2 x3_2.length c3_2), (5, .slice A5_2 x5_2.length c5_2), (6, .slice A6_2 x6_2.length c6_2), (7, .slice A7_2 x7_2.length c7_2), (8, .int .u32 t179.1), (41, .slice A7_2 x7_2.length c7_2)]) (w' := W178) (by kernel_rfl) ?_
                  rcases two (decide (4 ≤ 8)) with c180 | c180
                  · replace h := of_true h c180
                    rcases two (decide (8 ≤ (x7_2.length : Int))) with c181 | c181
                    · replace h := of_true h c181
                      have zc180 := of_decide_eq_true c180
                      have zc181 := of_decide_eq_true c181
                      obtain ⟨A182, n183, c184, hy185, rfl, hs186⟩ := cut (P := Go.Proofs.Try.prog) (n := 93) (k := (pin Go.Proofs.Try.f9 [1, 0, 1, 1, 0, 1, 0, 0, 1, 0, 0, 1, 0] 1)) (L := [(2, .slice none 0 0), (3, .slice A3_2 x3_2.length c3_2), (5, .slice A5_2 x5_2.length c5_2), (6, .slice A6_2 x6_2.length c6_2), (7, .slice A7_2 x7_2.length c7_2), (8, .int .u32 t179.1), (41, .slice A7_2 x7_2.length c7_2)]) (d := some 42) (A := A7_2) (m := x7_2.length) (c := c7_2) (l := 4) (h := 8) (k2 := (pin Go.Proofs.Try.f9 [1, 0, 1, 1, 0, 1, 0, 0, 1, 0, 0, 1, 0] 2)) .u8 x7_2 (by kernel_rfl) (by omega) (by omega) (by omega) (hrx7_2.mono hM.below)
                      clear zc180
                      clear zc181
                      refine RunF.y hy185 trivial ?_
                      obtain ⟨t188, ht188, h⟩ := Option.bind_eq_some_iff.mp h
                      refine RunF.call (d := some 43) (g := 24) (args := #[.slice A182 (((x7_2.take (8 : Int).toNat).drop (4 : Int).toNat).length) c184]) (k2 := (pin Go.Proofs.Try.f9 [1, 0, 1, 1, 0, 1, 0, 0, 1, 0, 0, 1, 0] 3)) (by kernel_rfl) (words_Le32.calls k A182 (((x7_2.take (8 : Int).toNat).drop (4 : Int).toNat).length) c184 ((x7_2.take (8 : Int).toNat).drop (4 : Int).toNat) t188 _ (hs186 _ (hrx7_2.mono hM.below)) ht188) ?_
                      rintro _ W187 ⟨rfl, hM_⟩
                      replace hM := hM.call hM_
                      clear hM_ ht188
                      refine RunF.go 6 [2, 3, 5, 6, 7, 8, 10] (k' := (pl Go.Proofs.Try.f9 [1, 0, 1, 1, 0, 1, 0, 0, 1, 0, 0, 1, 1])) (L' := [(2, .slice none 0 0), (3, .slice A3_2 x3_2.length c3_2), (5, .slice A5_2 x5_2.length c5_2), (6, .slice A6_2 x6_2.length c6_2), (7, .slice A7_2 x7_2.length c7_2), (8, .int .u32 t179.1), (10, .int .u32 t188.1)]) (w' := W187) (by kernel_rfl) ?_
                      refine RunF.draw (Still ({ W187 with drawn := W187.drawn + 1 } : World) [.slice A5_2 x5_2.length c5_2, .slice A6_2 x6_2.length c6_2, .slice A3_2 x3_2.length c3_2]) (by kernel_rfl) (by kernel_rfl) ?_
                      have hMd190 := hM.drew
                      have hS := Still.refl ({ W187 with drawn := W187.drawn + 1 } : World) [.slice A5_2 x5_2.length c5_2, .slice A6_2 x6_2.length c6_2, .slice A3_2 x3_2.length c3_2]
                      generalize ({ W187 with drawn := W187.drawn + 1 } : World) = W189 at hMd190 hS ⊢
                      replace hM := hMd190
                      refine RunAny.y 0 (by kernel_rfl) (yl_pure (d := some 46) (v := .slice A5_2 x5_2.length c5_2) (k2 := [.inRegion (opsOf (pl Go.Proofs.Try.f9 [1, 0, 1, 1, 0, 1, 0, 0, 1, 0, 0, 1, 1])) []]) fun w => by kernel_rfl) (fun _ _ => trivial) hS ?_
                      refine RunAny.y 1 (by kernel_rfl) (yl_pure (d := some 47) (v := .int .u32 t179.1) (k2 := [.inRegion (opsOf (pl Go.Proofs.Try.f9 [1, 0, 1, 1, 0, 1, 0, 0, 1, 0, 0, 1, 1])) []]) fun w => by kernel_rfl) (fun _ _ => trivial) hS ?_
                      refine RunAny.y 4 (by kernel_rfl) (yl_pure (d := some 50) (v := .slice A6_2 x6_2.length c6_2) (k2 := [.inRegion (opsOf (pl Go.Proofs.Try.f9 [1, 0, 1, 1, 0, 1, 0, 0, 1, 0, 0, 1, 1])) []]) fun w => by kernel_rfl) (fun _ _ => trivial) hS ?_
                      refine RunAny.y 5 (by kernel_rfl) (yl_pure (d := some 51) (v := .int .u32 t188.1) (k2 := [.inRegion (opsOf (pl Go.Proofs.Try.f9 [1, 0, 1, 1, 0, 1, 0, 0, 1, 0, 0, 1, 1])) []]) fun w => by kernel_rfl) (fun _ _ => trivial) hS ?_
                      refine RunAny.y 8 (by kernel_rfl) (yl_pure (d := some 54) (v := .slice A3_2 x3_2.length c3_2) (k2 := [.inRegion (opsOf (pl Go.Proofs.Try.f9 [1, 0, 1, 1, 0, 1, 0, 0, 1, 0, 0, 1, 1])) []]) fun w => by kernel_rfl) (fun _ _ => trivial) hS ?_
                      refine RunAny.y 9 (by kernel_rfl) (yl_pure (d := some 55) (v := .slice A7_2 x7_2.length c7_2) (k2 := [.inRegion (opsOf (pl Go.Proofs.Try.f9 [1, 0, 1, 1, 0, 1, 0, 0, 1, 0, 0, 1, 1])) []]) fun w => by kernel_rfl) (fun _ _ => trivial) hS ?_
                      rcases two (decide (0 ≤ 8)) with c191 | c191
                      · replace h := of_true h c191
                        rcases two (decide (8 ≤ (x7_2.length : Int))) with c192 | c192
                        · replace h := of_true h c192
                          have zc191 := of_decide_eq_true c191
                          have zc192 := of_decide_eq_true c192
                          obtain ⟨A193, n194, c195, hy196, rfl, hs197⟩ := cut (P := Go.Proofs.Try.prog) (n := 93) (k := (one (opsOf (pl Go.Proofs.Try.f9 [1, 0, 1, 1, 0, 1, 0, 0, 1, 0, 0, 1, 1])) 10)) (L := (upd (upd (upd (upd (upd (upd [(2, .slice none 0 0), (3, .slice A3_2 x3_2.length c3_2), (5, .slice A5_2 x5_2.length c5_2), (6, .slice A6_2 x6_2.length c6_2), (7, .slice A7_2 x7_2.length c7_2), (8, .int .u32 t179.1), (10, .int .u32 t188.1)] (some 46) (.slice A5_2 x5_2.length c5_2)) (some 47) (.int .u32 t179.1)) (some 50) (.slice A6_2 x6_2.length c6_2)) (some 51) (.int .u32 t188.1)) (some 54) (.slice A3_2 x3_2.length c3_2)) (some 55) (.slice A7_2 x7_2.length c7_2))) (d := some 56) (A := A7_2) (m := x7_2.length) (c := c7_2) (l := 0) (h := 8) (k2 := [.inRegion (opsOf (pl Go.Proofs.Try.f9 [1, 0, 1, 1, 0, 1, 0, 0, 1, 0, 0, 1, 1])) []]) .u8 x7_2 (by kernel_rfl) (by omega) (by omega) (by omega) (hrx7_2.mono hM.below)
                          clear zc191
                          clear zc192
                          refine RunAny.y 10 (by kernel_rfl) hy196 (fun _ _ => trivial) hS ?_
                          rcases two (decide (x5_2.length + ([t179.1] : List Int).length ≤ 35184372088832)) with c225 | c225
                          · replace h := of_true h c225
                            have J226 : ∀ (g198 : Nat) (A204 : Option Addr) (c206 : Nat) (g216 : Nat) (W227 : World) (hS : Still W227 [.slice A5_2 x5_2.length c5_2, .slice A6_2 x6_2.length c6_2, .slice A3_2 x3_2.length c3_2] W227) (hM : Mem w W227 [⟨.slice (some ⟨g198, 0, none⟩) 1 1, 37, 1, nums .u32 [t179.1]⟩, ⟨.slice A204 ((x5_2 ++ ([t179.1] : List Int)).length) c206, 37, 1, nums .u32 (x5_2 ++ ([t179.1] : List Int))⟩, ⟨.slice (some ⟨g216, 0, none⟩) 1 1, 37, 1, nums .u32 [t188.1]⟩, ⟨.slice A3_2 x3_2.length c3_2, 37, 1, nums .u32 x3_2⟩, ⟨.slice A6_2 x6_2.length c6_2, 37, 1, nums .u32 x6_2⟩]) , RunAny Go.Proofs.Try.prog (Ret fun v w' => ∃ A0' n0' c0', ∃ A1' n1' c1', v = .tuple #[.slice A0' n0' c0', .slice A1' n1' c1', .int .i64 r.2.2] ∧ Mem w w' [⟨.slice A0' n0' c0', 37, 1, nums .u32 r.1⟩, ⟨.slice A1' n1' c1', 37, 1, nums .u32 r.2.1⟩]) 9 (rest1 (pl Go.Proofs.Try.f9 [1, 0, 1, 1, 0, 1, 0, 0, 1, 0, 0, 1, 1])) 93 (opsOf (pl Go.Proofs.Try.f9 [1, 0, 1, 1, 0, 1, 0, 0, 1, 0, 0, 1, 1])) (Still W227 [.slice A5_2 x5_2.length c5_2, .slice A6_2 x6_2.length c6_2, .slice A3_2 x3_2.length c3_2]) 7 [0, 1, 4, 5, 8, 9, 10, 2, 3, 6] [(2, .slice none 0 0), (3, .slice A3_2 x3_2.length c3_2), (5, .slice A5_2 x5_2.length c5_2), (6, .slice A6_2 x6_2.length c6_2), (7, .slice A7_2 x7_2.length c7_2), (8, .int .u32 t179.1), (10, .int .u32 t188.1), (46, .slice A5_2 x5_2.length c5_2), (47, .int .u32 t179.1), (48, .slice (some ⟨g198, 0, none⟩) 1 1), (49, .slice A204 ((x5_2 ++ ([t179.1] : List Int)).length) c206), (50, .slice A6_2 x6_2.length c6_2), (51, .int .u32 t188.1), (52, .slice (some ⟨g216, 0, none⟩) 1 1), (54, .slice A3_2 x3_2.length c3_2), (55, .slice A7_2 x7_2.length c7_2), (56, .slice A193 (((x7_2.take (8 : Int).toNat).drop (0 : Int).toNat).length) c195)] W227 := by
                              intro g198 A204 c206 g216 W227 hS hM 
                              rcases two (decide (x6_2.length + ([t188.1] : List Int).length ≤ 35184372088832)) with c232 | c232
                              · replace h := of_true h c232
                                have h_ := of_decide_eq_true c232
                                obtain ⟨A228, n229, c230, W231, hD, hM', hS_⟩ := app_doesW (P := Go.Proofs.Try.prog) (n := 93) (k := (one (opsOf (pl Go.Proofs.Try.f9 [1, 0, 1, 1, 0, 1, 0, 0, 1, 0, 0, 1, 1])) 7)) (L := [(2, .slice none 0 0), (3, .slice A3_2 x3_2.length c3_2), (5, .slice A5_2 x5_2.length c5_2), (6, .slice A6_2 x6_2.length c6_2), (7, .slice A7_2 x7_2.length c7_2), (8, .int .u32 t179.1), (10, .int .u32 t188.1), (46, .slice A5_2 x5_2.length c5_2), (47, .int .u32 t179.1), (48, .slice (some ⟨g198, 0, none⟩) 1 1), (49, .slice A204 ((x5_2 ++ ([t179.1] : List Int)).length) c206), (50, .slice A6_2 x6_2.length c6_2), (51, .int .u32 t188.1), (52, .slice (some ⟨g216, 0, none⟩) 1 1), (54, .slice A3_2 x3_2.length c3_2), (55, .slice A7_2 x7_2.length c7_2), (56, .slice A193 (((x7_2.take (8 : Int).toNat).drop (0 : Int).toNat).length) c195)]) (d := some 53) (e := 37) (A := A6_2) (m := x6_2.length) (c := c6_2) (A2 := (some ⟨g216, 0, none⟩)) (m2 := 1) (c2 := 1) (cs := nums .u32 x6_2) (ys := nums .u32 ([t188.1] : List Int)) (k2 := [.inRegion (opsOf (pl Go.Proofs.Try.f9 [1, 0, 1, 1, 0, 1, 0, 0, 1, 0, 0, 1, 1])) []]) [⟨.slice (some ⟨g198, 0, none⟩) 1 1, 37, 1, nums .u32 [t179.1]⟩, ⟨.slice A204 ((x5_2 ++ ([t179.1] : List Int)).length) c206, 37, 1, nums .u32 (x5_2 ++ ([t179.1] : List Int))⟩, ⟨.slice (some ⟨g216, 0, none⟩) 1 1, 37, 1, nums .u32 [t188.1]⟩, ⟨.slice A3_2 x3_2.length c3_2, 37, 1, nums .u32 x3_2⟩] [] (by kernel_rfl) (hM.pick [0, 1, 2, 3, 4] rfl rfl) (hM.rd 2 rfl) (one_nums _ _) (by omega) (by kernel_rfl)
                                rw [nums_append] at hM'
                                replace hM := hM'; clear h_ hM'
                                obtain rfl : (x6_2 ++ ([t188.1] : List Int)).length = n229 := by have h_ := (hM.rd 4 rfl).1; simpa only [nums_length, bools_length, strs_length] using h_
                                refine RunAny.does 7 (by kernel_rfl) hD (hS.app hS_ (by simp)) ?_
                                clear hD
                                replace hS := (hS.app hS_ (by simp)); clear hS_
                                refine RunAny.rebase hS ?_
                                replace hS := Still.refl W231 [.slice A5_2 x5_2.length c5_2, .slice A6_2 x6_2.length c6_2, .slice A3_2 x3_2.length c3_2]
                                obtain ⟨t235, ht235, h⟩ := Option.bind_eq_some_iff.mp h
                                refine RunAny.call 11 (d := some 57) (g := 25) (args := #[.slice A193 (((x7_2.take (8 : Int).toNat).drop (0 : Int).toNat).length) c195]) (by kernel_rfl) (by kernel_rfl) (twofish_folded.calls k A193 (((x7_2.take (8 : Int).toNat).drop (0 : Int).toNat).length) c195 ((x7_2.take (8 : Int).toNat).drop (0 : Int).toNat) t235 _ (hs197 _ (hrx7_2.mono hM.below)) ht235) (by rintro _ _ ⟨rfl, hM_⟩; exact hS.below hM_.below) ?_
                                rintro _ W234 ⟨rfl, hM_⟩
                                replace hS := hS.below hM_.below
                                replace hM := hM.call hM_
                                clear hM_ ht235
                                refine RunAny.rebase hS ?_
                                replace hS := Still.refl W234 [.slice A5_2 x5_2.length c5_2, .slice A6_2 x6_2.length c6_2, .slice A3_2 x3_2.length c3_2]
                                refine RunAny.new 12 37 1 1 (nums .u32 [t235]) (d := some 58) (k2 := [.inRegion (opsOf (pl Go.Proofs.Try.f9 [1, 0, 1, 1, 0, 1, 0, 0, 1, 0, 0, 1, 1])) []]) (by kernel_rfl) hM (by simp [nums, bools, strs]) (by kernel_rfl) (by kernel_rfl) hS ?_
                                intro g236 W237 hS hM
                                refine RunAny.rebase hS ?_
                                replace hS := Still.refl W237 [.slice A5_2 x5_2.length c5_2, .slice A6_2 x6_2.length c6_2, .slice A3_2 x3_2.length c3_2]
                                rcases two (decide (x3_2.length + ([t235] : List Int).length ≤ 35184372088832)) with c243 | c243
                                · replace h := of_true h c243
                                  have h_ := of_decide_eq_true c243
                                  obtain ⟨A239, n240, c241, W242, hD, hM', hS_⟩ := app_doesW (P := Go.Proofs.Try.prog) (n := 93) (k := (one (opsOf (pl Go.Proofs.Try.f9 [1, 0, 1, 1, 0, 1, 0, 0, 1, 0, 0, 1, 1])) 13)) (L := (upd (upd (upd [(2, .slice none 0 0), (3, .slice A3_2 x3_2.length c3_2), (5, .slice A5_2 x5_2.length c5_2), (6, .slice A6_2 x6_2.length c6_2), (7, .slice A7_2 x7_2.length c7_2), (8, .int .u32 t179.1), (10, .int .u32 t188.1), (46, .slice A5_2 x5_2.length c5_2), (47, .int .u32 t179.1), (48, .slice (some ⟨g198, 0, none⟩) 1 1), (49, .slice A204 ((x5_2 ++ ([t179.1] : List Int)).length) c206), (50, .slice A6_2 x6_2.length c6_2), (51, .int .u32 t188.1), (52, .slice (some ⟨g216, 0, none⟩) 1 1), (54, .slice A3_2 x3_2.length c3_2), (55, .slice A7_2 x7_2.length c7_2), (56, .slice A193 (((x7_2.take (8 : Int).toNat).drop (0 : Int).toNat).length) c195)] (some 53) (.slice A228 ((x6_2 ++ ([t188.1] : List Int)).length) c230)) (some 57) (.int .u32 t235)) (some 58) (.slice (some ⟨g236, 0, none⟩) 1 1))) (d := some 59) (e := 37) (A := A3_2) (m := x3_2.length) (c := c3_2) (A2 := (some ⟨g236, 0, none⟩)) (m2 := 1) (c2 := 1) (cs := nums .u32 x3_2) (ys := nums .u32 ([t235] : List Int)) (k2 := [.inRegion (opsOf (pl Go.Proofs.Try.f9 [1, 0, 1, 1, 0, 1, 0, 0, 1, 0, 0, 1, 1])) []]) [⟨.slice (some ⟨g236, 0, none⟩) 1 1, 37, 1, nums .u32 [t235]⟩, ⟨.slice (some ⟨g198, 0, none⟩) 1 1, 37, 1, nums .u32 [t179.1]⟩, ⟨.slice A204 ((x5_2 ++ ([t179.1] : List Int)).length) c206, 37, 1, nums .u32 (x5_2 ++ ([t179.1] : List Int))⟩, ⟨.slice (some ⟨g216, 0, none⟩) 1 1, 37, 1, nums .u32 [t188.1]⟩] [⟨.slice A228 ((x6_2 ++ ([t188.1] : List Int)).length) c230, 37, 1, nums .u32 (x6_2 ++ ([t188.1] : List Int))⟩] (by kernel_rfl) (hM.pick [0, 1, 2, 3, 4, 5] rfl rfl) (hM.rd 0 rfl) (one_nums _ _) (by omega) (by kernel_rfl)
                                  rw [nums_append] at hM'
                                  replace hM := hM'; clear h_ hM'
                                  obtain rfl : (x3_2 ++ ([t235] : List Int)).length = n240 := by have h_ := (hM.rd 4 rfl).1; simpa only [nums_length, bools_length, strs_length] using h_
                                  refine RunAny.does 13 (by kernel_rfl) hD (hS.app hS_ (by simp)) ?_
                                  clear hD
                                  replace hS := (hS.app hS_ (by simp)); clear hS_
                                  refine RunAny.rebase hS ?_
                                  replace hS := Still.refl W242 [.slice A5_2 x5_2.length c5_2, .slice A6_2 x6_2.length c6_2, .slice A3_2 x3_2.length c3_2]
                                  refine RunAny.y 14 (by kernel_rfl) (yl_pure (d := some 5) (v := .slice A204 ((x5_2 ++ ([t179.1] : List Int)).length) c206) (k2 := [.inRegion (opsOf (pl Go.Proofs.Try.f9 [1, 0, 1, 1, 0, 1, 0, 0, 1, 0, 0, 1, 1])) []]) fun w => by kernel_rfl) (fun _ _ => trivial) hS ?_
                                  refine RunAny.y 15 (by kernel_rfl) (yl_pure (d := some 6) (v := .slice A228 ((x6_2 ++ ([t188.1] : List Int)).length) c230) (k2 := [.inRegion (opsOf (pl Go.Proofs.Try.f9 [1, 0, 1, 1, 0, 1, 0, 0, 1, 0, 0, 1, 1])) []]) fun w => by kernel_rfl) (fun _ _ => trivial) hS ?_
                                  refine RunAny.y 16 (by kernel_rfl) (yl_pure (d := some 3) (v := .slice A239 ((x3_2 ++ ([t235] : List Int)).length) c241) (k2 := [.inRegion (opsOf (pl Go.Proofs.Try.f9 [1, 0, 1, 1, 0, 1, 0, 0, 1, 0, 0, 1, 1])) []]) fun w => by kernel_rfl) (fun _ _ => trivial) hS ?_
                                  refine RunAny.done (by kernel_rfl) ?_
                                  clear hS
                                  refine RunF.go 3 [2, 3, 5, 6, 32] (k' := (pin Go.Proofs.Try.f9 [1, 0, 1, 1, 0, 1, 0, 0, 1, 1] 1)) (L' := [(2, .slice none 0 0), (3, .slice A239 ((x3_2 ++ ([t235] : List Int)).length) c241), (5, .slice A204 ((x5_2 ++ ([t179.1] : List Int)).length) c206), (6, .slice A228 ((x6_2 ++ ([t188.1] : List Int)).length) c230), (32, .slice A7_2 x7_2.length c7_2)]) (w' := W242) (by kernel_rfl) ?_
                                  rcases two (decide (8 ≤ (x7_2.length : Int))) with c245 | c245
                                  · replace h := of_true h c245
                                    have zc245 := of_decide_eq_true c245
                                    obtain ⟨A246, n247, c248, hy249, rfl, hs250⟩ := cut (P := Go.Proofs.Try.prog) (n := 93) (k := (pin Go.Proofs.Try.f9 [1, 0, 1, 1, 0, 1, 0, 0, 1, 1] 1)) (L := [(2, .slice none 0 0), (3, .slice A239 ((x3_2 ++ ([t235] : List Int)).length) c241), (5, .slice A204 ((x5_2 ++ ([t179.1] : List Int)).length) c206), (6, .slice A228 ((x6_2 ++ ([t188.1] : List Int)).length) c230), (32, .slice A7_2 x7_2.length c7_2)]) (d := some 33) (A := A7_2) (m := x7_2.length) (c := c7_2) (l := 8) (h := (x7_2.length : Int)) (k2 := (pin Go.Proofs.Try.f9 [1, 0, 1, 1, 0, 1, 0, 0, 1, 1] 2)) .u8 x7_2 (by kernel_rfl) (by omega) (by omega) (by omega) (hrx7_2.mono hM.below)
                                    clear zc245
                                    refine RunF.y hy249 trivial ?_
                                    refine RunF.go 3 [2, 3, 5, 6, 7] (k' := (pl Go.Proofs.Try.f9 [1, 0, 1, 1, 0, 1, 0, 0])) (L' := [(2, .slice none 0 0), (3, .slice A239 ((x3_2 ++ ([t235] : List Int)).length) c241), (5, .slice A204 ((x5_2 ++ ([t179.1] : List Int)).length) c206), (6, .slice A228 ((x6_2 ++ ([t188.1] : List Int)).length) c230), (7, .slice A246 (((x7_2.take ((x7_2.length : Int) : Int).toNat).drop (8 : Int).toNat).length) c248)]) (w' := W242) (by kernel_rfl) ?_
                                    exact ih2 k (by omega) A239 c241 (x3_2 ++ ([t235] : List Int)) A204 c206 (x5_2 ++ ([t179.1] : List Int)) A228 c230 (x6_2 ++ ([t188.1] : List Int)) A246 c248 ((x7_2.take ((x7_2.length : Int) : Int).toNat).drop (8 : Int).toNat) _ (hM.pick [4, 2, 5] rfl rfl) (hs250 _ hrx7_2) h
                                  · replace h := of_false h c245
                                    cases h
                                · replace h := of_false h c243
                                  cases h
                              · replace h := of_false h c232
                                cases h
                            have J251 : ∀ (g198 : Nat) (g210 : Nat) (W252 : World) (hS : Still W252 [.slice A5_2 x5_2.length c5_2, .slice A6_2 x6_2.length c6_2, .slice A3_2 x3_2.length c3_2] W252) (hM : Mem w W252 [⟨.slice (some ⟨g198, 0, none⟩) 1 1, 37, 1, nums .u32 [t179.1]⟩, ⟨.slice (some ⟨g210, 0, none⟩) 1 1, 37, 1, nums .u32 [t188.1]⟩, ⟨.slice A3_2 x3_2.length c3_2, 37, 1, nums .u32 x3_2⟩, ⟨.slice A5_2 x5_2.length c5_2, 37, 1, nums .u32 x5_2⟩, ⟨.slice A6_2 x6_2.length c6_2, 37, 1, nums .u32 x6_2⟩]) , RunAny Go.Proofs.Try.prog (Ret fun v w' => ∃ A0' n0' c0', ∃ A1' n1' c1', v = .tuple #[.slice A0' n0' c0', .slice A1' n1' c1', .int .i64 r.2.2] ∧ Mem w w' [⟨.slice A0' n0' c0', 37, 1, nums .u32 r.1⟩, ⟨.slice A1' n1' c1', 37, 1, nums .u32 r.2.1⟩]) 9 (rest1 (pl Go.Proofs.Try.f9 [1, 0, 1, 1, 0, 1, 0, 0, 1, 0, 0, 1, 1])) 93 (opsOf (pl Go.Proofs.Try.f9 [1, 0, 1, 1, 0, 1, 0, 0, 1, 0, 0, 1, 1])) (Still W252 [.slice A5_2 x5_2.length c5_2, .slice A6_2 x6_2.length c6_2, .slice A3_2 x3_2.length c3_2]) 8 [0, 1, 4, 5, 8, 9, 10, 2, 6] [(2, .slice none 0 0), (3, .slice A3_2 x3_2.length c3_2), (5, .slice A5_2 x5_2.length c5_2), (6, .slice A6_2 x6_2.length c6_2), (7, .slice A7_2 x7_2.length c7_2), (8, .int .u32 t179.1), (10, .int .u32 t188.1), (46, .slice A5_2 x5_2.length c5_2), (47, .int .u32 t179.1), (48, .slice (some ⟨g198, 0, none⟩) 1 1), (50, .slice A6_2 x6_2.length c6_2), (51, .int .u32 t188.1), (52, .slice (some ⟨g210, 0, none⟩) 1 1), (54, .slice A3_2 x3_2.length c3_2), (55, .slice A7_2 x7_2.length c7_2), (56, .slice A193 (((x7_2.take (8 : Int).toNat).drop (0 : Int).toNat).length) c195)] W252 := by
                              intro g198 g210 W252 hS hM 
                              have h_ := of_decide_eq_true c225
                              obtain ⟨A253, n254, c255, W256, hD, hM', hS_⟩ := app_doesW (P := Go.Proofs.Try.prog) (n := 93) (k := (one (opsOf (pl Go.Proofs.Try.f9 [1, 0, 1, 1, 0, 1, 0, 0, 1, 0, 0, 1, 1])) 3)) (L := [(2, .slice none 0 0), (3, .slice A3_2 x3_2.length c3_2), (5, .slice A5_2 x5_2.length c5_2), (6, .slice A6_2 x6_2.length c6_2), (7, .slice A7_2 x7_2.length c7_2), (8, .int .u32 t179.1), (10, .int .u32 t188.1), (46, .slice A5_2 x5_2.length c5_2), (47, .int .u32 t179.1), (48, .slice (some ⟨g198, 0, none⟩) 1 1), (50, .slice A6_2 x6_2.length c6_2), (51, .int .u32 t188.1), (52, .slice (some ⟨g210, 0, none⟩) 1 1), (54, .slice A3_2 x3_2.length c3_2), (55, .slice A7_2 x7_2.length c7_2), (56, .slice A193 (((x7_2.take (8 : Int).toNat).drop (0 : Int).toNat).length) c195)]) (d := some 49) (e := 37) (A := A5_2) (m := x5_2.length) (c := c5_2) (A2 := (some ⟨g198, 0, none⟩)) (m2 := 1) (c2 := 1) (cs := nums .u32 x5_2) (ys := nums .u32 ([t179.1] : List Int)) (k2 := [.inRegion (opsOf (pl Go.Proofs.Try.f9 [1, 0, 1, 1, 0, 1, 0, 0, 1, 0, 0, 1, 1])) []]) [⟨.slice (some ⟨g198, 0, none⟩) 1 1, 37, 1, nums .u32 [t179.1]⟩, ⟨.slice (some ⟨g210, 0, none⟩) 1 1, 37, 1, nums .u32 [t188.1]⟩, ⟨.slice A3_2 x3_2.length c3_2, 37, 1, nums .u32 x3_2⟩] [⟨.slice A6_2 x6_2.length c6_2, 37, 1, nums .u32 x6_2⟩] (by kernel_rfl) (hM.pick [0, 1, 2, 3, 4] rfl rfl) (hM.rd 0 rfl) (one_nums _ _) (by omega) (by kernel_rfl)
                              rw [nums_append] at hM'
                              replace hM := hM'; clear h_ hM'
                              obtain rfl : (x5_2 ++ ([t179.1] : List Int)).length = n254 := by have h_ := (hM.rd 3 rfl).1; simpa only [nums_length, bools_length, strs_length] using h_
                              refine RunAny.does 3 (by kernel_rfl) hD (hS.app hS_ (by simp)) ?_
                              clear hD
                              replace hS := (hS.app hS_ (by simp)); clear hS_
                              refine RunAny.rebase hS ?_
                              replace hS := Still.refl W256 [.slice A5_2 x5_2.length c5_2, .slice A6_2 x6_2.length c6_2, .slice A3_2 x3_2.length c3_2]
                              exact RunAny.same [0, 1, 4, 5, 8, 9, 10, 2, 3, 6] (by kernel_rfl) [2, 3, 5, 6, 7, 8, 10, 46, 47, 48, 49, 50, 51, 52, 54, 55, 56] (by kernel_rfl) (J226 g198 A253 c255 g210 _ hS (hM.pick [0, 3, 1, 2, 4] rfl rfl))
                            have J259 : ∀ (g198 : Nat) (A204 : Option Addr) (c206 : Nat) (W260 : World) (hS : Still W260 [.slice A5_2 x5_2.length c5_2, .slice A6_2 x6_2.length c6_2, .slice A3_2 x3_2.length c3_2] W260) (hM : Mem w W260 [⟨.slice (some ⟨g198, 0, none⟩) 1 1, 37, 1, nums .u32 [t179.1]⟩, ⟨.slice A204 ((x5_2 ++ ([t179.1] : List Int)).length) c206, 37, 1, nums .u32 (x5_2 ++ ([t179.1] : List Int))⟩, ⟨.slice A3_2 x3_2.length c3_2, 37, 1, nums .u32 x3_2⟩, ⟨.slice A6_2 x6_2.length c6_2, 37, 1, nums .u32 x6_2⟩]) , RunAny Go.Proofs.Try.prog (Ret fun v w' => ∃ A0' n0' c0', ∃ A1' n1' c1', v = .tuple #[.slice A0' n0' c0', .slice A1' n1' c1', .int .i64 r.2.2] ∧ Mem w w' [⟨.slice A0' n0' c0', 37, 1, nums .u32 r.1⟩, ⟨.slice A1' n1' c1', 37, 1, nums .u32 r.2.1⟩]) 9 (rest1 (pl Go.Proofs.Try.f9 [1, 0, 1, 1, 0, 1, 0, 0, 1, 0, 0, 1, 1])) 93 (opsOf (pl Go.Proofs.Try.f9 [1, 0, 1, 1, 0, 1, 0, 0, 1, 0, 0, 1, 1])) (Still W260 [.slice A5_2 x5_2.length c5_2, .slice A6_2 x6_2.length c6_2, .slice A3_2 x3_2.length c3_2]) 8 [0, 1, 4, 5, 8, 9, 10, 2, 3] [(2, .slice none 0 0), (3, .slice A3_2 x3_2.length c3_2), (5, .slice A5_2 x5_2.length c5_2), (6, .slice A6_2 x6_2.length c6_2), (7, .slice A7_2 x7_2.length c7_2), (8, .int .u32 t179.1), (10, .int .u32 t188.1), (46, .slice A5_2 x5_2.length c5_2), (47, .int .u32 t179.1), (48, .slice (some ⟨g198, 0, none⟩) 1 1), (49, .slice A204 ((x5_2 ++ ([t179.1] : List Int)).length) c206), (50, .slice A6_2 x6_2.length c6_2), (51, .int .u32 t188.1), (54, .slice A3_2 x3_2.length c3_2), (55, .slice A7_2 x7_2.length c7_2), (56, .slice A193 (((x7_2.take (8 : Int).toNat).drop (0 : Int).toNat).length) c195)] W260 := by
                              intro g198 A204 c206 W260 hS hM 
                              refine RunAny.new 6 37 1 1 (nums .u32 [t188.1]) (d := some 52) (k2 := [.inRegion (opsOf (pl Go.Proofs.Try.f9 [1, 0, 1, 1, 0, 1, 0, 0, 1, 0, 0, 1, 1])) []]) (by kernel_rfl) hM (by simp [nums, bools, strs]) (by kernel_rfl) (by kernel_rfl) hS ?_
                              intro g261 W262 hS hM
                              refine RunAny.rebase hS ?_
                              replace hS := Still.refl W262 [.slice A5_2 x5_2.length c5_2, .slice A6_2 x6_2.length c6_2, .slice A3_2 x3_2.length c3_2]
                              exact RunAny.same [0, 1, 4, 5, 8, 9, 10, 2, 3, 6] (by kernel_rfl) [2, 3, 5, 6, 7, 8, 10, 46, 47, 48, 49, 50, 51, 52, 54, 55, 56] (by kernel_rfl) (J226 g198 A204 c206 g261 _ hS (hM.pick [1, 2, 0, 3, 4] rfl rfl))
                            have J264 : ∀ (g201 : Nat) (W265 : World) (hS : Still W265 [.slice A5_2 x5_2.length c5_2, .slice A6_2 x6_2.length c6_2, .slice A3_2 x3_2.length c3_2] W265) (hM : Mem w W265 [⟨.slice (some ⟨g201, 0, none⟩) 1 1, 37, 1, nums .u32 [t188.1]⟩, ⟨.slice A3_2 x3_2.length c3_2, 37, 1, nums .u32 x3_2⟩, ⟨.slice A5_2 x5_2.length c5_2, 37, 1, nums .u32 x5_2⟩, ⟨.slice A6_2 x6_2.length c6_2, 37, 1, nums .u32 x6_2⟩]) , RunAny Go.Proofs.Try.prog (Ret fun v w' => ∃ A0' n0' c0', ∃ A1' n1' c1', v = .tuple #[.slice A0' n0' c0', .slice A1' n1' c1', .int .i64 r.2.2] ∧ Mem w w' [⟨.slice A0' n0' c0', 37, 1, nums .u32 r.1⟩, ⟨.slice A1' n1' c1', 37, 1, nums .u32 r.2.1⟩]) 9 (rest1 (pl Go.Proofs.Try.f9 [1, 0, 1, 1, 0, 1, 0, 0, 1, 0, 0, 1, 1])) 93 (opsOf (pl Go.Proofs.Try.f9 [1, 0, 1, 1, 0, 1, 0, 0, 1, 0, 0, 1, 1])) (Still W265 [.slice A5_2 x5_2.length c5_2, .slice A6_2 x6_2.length c6_2, .slice A3_2 x3_2.length c3_2]) 9 [0, 1, 4, 5, 8, 9, 10, 6] [(2, .slice none 0 0), (3, .slice A3_2 x3_2.length c3_2), (5, .slice A5_2 x5_2.length c5_2), (6, .slice A6_2 x6_2.length c6_2), (7, .slice A7_2 x7_2.length c7_2), (8, .int .u32 t179.1), (10, .int .u32 t188.1), (46, .slice A5_2 x5_2.length c5_2), (47, .int .u32 t179.1), (50, .slice A6_2 x6_2.length c6_2), (51, .int .u32 t188.1), (52, .slice (some ⟨g201, 0, none⟩) 1 1), (54, .slice A3_2 x3_2.length c3_2), (55, .slice A7_2 x7_2.length c7_2), (56, .slice A193 (((x7_2.take (8 : Int).toNat).drop (0 : Int).toNat).length) c195)] W265 := by
                              intro g201 W265 hS hM 
                              refine RunAny.new 2 37 1 1 (nums .u32 [t179.1]) (d := some 48) (k2 := [.inRegion (opsOf (pl Go.Proofs.Try.f9 [1, 0, 1, 1, 0, 1, 0, 0, 1, 0, 0, 1, 1])) []]) (by kernel_rfl) hM (by simp [nums, bools, strs]) (by kernel_rfl) (by kernel_rfl) hS ?_
                              intro g266 W267 hS hM
                              refine RunAny.rebase hS ?_
                              replace hS := Still.refl W267 [.slice A5_2 x5_2.length c5_2, .slice A6_2 x6_2.length c6_2, .slice A3_2 x3_2.length c3_2]
                              exact RunAny.same [0, 1, 4, 5, 8, 9, 10, 2, 6] (by kernel_rfl) [2, 3, 5, 6, 7, 8, 10, 46, 47, 48, 50, 51, 52, 54, 55, 56] (by kernel_rfl) (J251 g266 g201 _ hS (hM.pick [0, 1, 2, 3, 4] rfl rfl))
                            have J269 : ∀ (g198 : Nat) (W270 : World) (hS : Still W270 [.slice A5_2 x5_2.length c5_2, .slice A6_2 x6_2.length c6_2, .slice A3_2 x3_2.length c3_2] W270) (hM : Mem w W270 [⟨.slice (some ⟨g198, 0, none⟩) 1 1, 37, 1, nums .u32 [t179.1]⟩, ⟨.slice A3_2 x3_2.length c3_2, 37, 1, nums .u32 x3_2⟩, ⟨.slice A5_2 x5_2.length c5_2, 37, 1, nums .u32 x5_2⟩, ⟨.slice A6_2 x6_2.length c6_2, 37, 1, nums .u32 x6_2⟩]) , RunAny Go.Proofs.Try.prog (Ret fun v w' => ∃ A0' n0' c0', ∃ A1' n1' c1', v = .tuple #[.slice A0' n0' c0', .slice A1' n1' c1', .int .i64 r.2.2] ∧ Mem w w' [⟨.slice A0' n0' c0', 37, 1, nums .u32 r.1⟩, ⟨.slice A1' n1' c1', 37, 1, nums .u32 r.2.1⟩]) 9 (rest1 (pl Go.Proofs.Try.f9 [1, 0, 1, 1, 0, 1, 0, 0, 1, 0, 0, 1, 1])) 93 (opsOf (pl Go.Proofs.Try.f9 [1, 0, 1, 1, 0, 1, 0, 0, 1, 0, 0, 1, 1])) (Still W270 [.slice A5_2 x5_2.length c5_2, .slice A6_2 x6_2.length c6_2, .slice A3_2 x3_2.length c3_2]) 9 [0, 1, 4, 5, 8, 9, 10, 2] [(2, .slice none 0 0), (3, .slice A3_2 x3_2.length c3_2), (5, .slice A5_2 x5_2.length c5_2), (6, .slice A6_2 x6_2.length c6_2), (7, .slice A7_2 x7_2.length c7_2), (8, .int .u32 t179.1), (10, .int .u32 t188.1), (46, .slice A5_2 x5_2.length c5_2), (47, .int .u32 t179.1), (48, .slice (some ⟨g198, 0, none⟩) 1 1), (50, .slice A6_2 x6_2.length c6_2), (51, .int .u32 t188.1), (54, .slice A3_2 x3_2.length c3_2), (55, .slice A7_2 x7_2.length c7_2), (56, .slice A193 (((x7_2.take (8 : Int).toNat).drop (0 : Int).toNat).length) c195)] W270 := by
                              intro g198 W270 hS hM 
                              refine RunAny.all [3, 6] (by kernel_rfl) (by simp) ?_
                              refine ⟨?_, ?_, trivial⟩
                              · have h_ := of_decide_eq_true c225
                                obtain ⟨A271, n272, c273, W274, hD, hM', hS_⟩ := app_doesW (P := Go.Proofs.Try.prog) (n := 93) (k := (one (opsOf (pl Go.Proofs.Try.f9 [1, 0, 1, 1, 0, 1, 0, 0, 1, 0, 0, 1, 1])) 3)) (L := [(2, .slice none 0 0), (3, .slice A3_2 x3_2.length c3_2), (5, .slice A5_2 x5_2.length c5_2), (6, .slice A6_2 x6_2.length c6_2), (7, .slice A7_2 x7_2.length c7_2), (8, .int .u32 t179.1), (10, .int .u32 t188.1), (46, .slice A5_2 x5_2.length c5_2), (47, .int .u32 t179.1), (48, .slice (some ⟨g198, 0, none⟩) 1 1), (50, .slice A6_2 x6_2.length c6_2), (51, .int .u32 t188.1), (54, .slice A3_2 x3_2.length c3_2), (55, .slice A7_2 x7_2.length c7_2), (56, .slice A193 (((x7_2.take (8 : Int).toNat).drop (0 : Int).toNat).length) c195)]) (d := some 49) (e := 37) (A := A5_2) (m := x5_2.length) (c := c5_2) (A2 := (some ⟨g198, 0, none⟩)) (m2 := 1) (c2 := 1) (cs := nums .u32 x5_2) (ys := nums .u32 ([t179.1] : List Int)) (k2 := [.inRegion (opsOf (pl Go.Proofs.Try.f9 [1, 0, 1, 1, 0, 1, 0, 0, 1, 0, 0, 1, 1])) []]) [⟨.slice (some ⟨g198, 0, none⟩) 1 1, 37, 1, nums .u32 [t179.1]⟩, ⟨.slice A3_2 x3_2.length c3_2, 37, 1, nums .u32 x3_2⟩] [⟨.slice A6_2 x6_2.length c6_2, 37, 1, nums .u32 x6_2⟩] (by kernel_rfl) (hM.pick [0, 1, 2, 3] rfl rfl) (hM.rd 0 rfl) (one_nums _ _) (by omega) (by kernel_rfl)
                                rw [nums_append] at hM'
                                replace hM := hM'; clear h_ hM'
                                obtain rfl : (x5_2 ++ ([t179.1] : List Int)).length = n272 := by have h_ := (hM.rd 2 rfl).1; simpa only [nums_length, bools_length, strs_length] using h_
                                refine Stepped.does 3 hD (hS.app hS_ (by simp)) ?_
                                clear hD
                                replace hS := (hS.app hS_ (by simp)); clear hS_
                                refine RunAny.rebase hS ?_
                                replace hS := Still.refl W274 [.slice A5_2 x5_2.length c5_2, .slice A6_2 x6_2.length c6_2, .slice A3_2 x3_2.length c3_2]
                                exact RunAny.same [0, 1, 4, 5, 8, 9, 10, 2, 3] (by kernel_rfl) [2, 3, 5, 6, 7, 8, 10, 46, 47, 48, 49, 50, 51, 54, 55, 56] (by kernel_rfl) (J259 g198 A271 c273 _ hS (hM.pick [0, 2, 1, 3] rfl rfl))
                              · refine Stepped.new 6 37 1 1 (nums .u32 [t188.1]) (d := some 52) (k2 := [.inRegion (opsOf (pl Go.Proofs.Try.f9 [1, 0, 1, 1, 0, 1, 0, 0, 1, 0, 0, 1, 1])) []]) hM (by simp [nums, bools, strs]) (by kernel_rfl) (by kernel_rfl) hS ?_
                                intro g277 W278 hS hM
                                refine RunAny.rebase hS ?_
                                replace hS := Still.refl W278 [.slice A5_2 x5_2.length c5_2, .slice A6_2 x6_2.length c6_2, .slice A3_2 x3_2.length c3_2]
                                exact RunAny.same [0, 1, 4, 5, 8, 9, 10, 2, 6] (by kernel_rfl) [2, 3, 5, 6, 7, 8, 10, 46, 47, 48, 50, 51, 52, 54, 55, 56] (by kernel_rfl) (J251 g198 g277 _ hS (hM.pick [1, 0, 2, 3, 4] rfl rfl))
                            refine RunAny.all [2, 6] (by kernel_rfl) (by simp) ?_
                            refine ⟨?_, ?_, trivial⟩
                            · refine Stepped.new 2 37 1 1 (nums .u32 [t179.1]) (d := some 48) (k2 := [.inRegion (opsOf (pl Go.Proofs.Try.f9 [1, 0, 1, 1, 0, 1, 0, 0, 1, 0, 0, 1, 1])) []]) hM (by simp [nums, bools, strs]) (by kernel_rfl) (by kernel_rfl) hS ?_
                              intro g280 W281 hS hM
                              refine RunAny.rebase hS ?_
                              replace hS := Still.refl W281 [.slice A5_2 x5_2.length c5_2, .slice A6_2 x6_2.length c6_2, .slice A3_2 x3_2.length c3_2]
                              exact RunAny.same [0, 1, 4, 5, 8, 9, 10, 2] (by kernel_rfl) [2, 3, 5, 6, 7, 8, 10, 46, 47, 48, 50, 51, 54, 55, 56] (by kernel_rfl) (J269 g280 _ hS (hM.pick [0, 1, 2, 3] rfl rfl))
                            · refine Stepped.new 6 37 1 1 (nums .u32 [t188.1]) (d := some 52) (k2 := [.inRegion (opsOf (pl Go.Proofs.Try.f9 [1, 0, 1, 1, 0, 1, 0, 0, 1, 0, 0, 1, 1])) []]) hM (by simp [nums, bools, strs]) (by kernel_rfl) (by kernel_rfl) hS ?_
                              intro g283 W284 hS hM
                              refine RunAny.rebase hS ?_
                              replace hS := Still.refl W284 [.slice A5_2 x5_2.length c5_2, .slice A6_2 x6_2.length c6_2, .slice A3_2 x3_2.length c3_2]
                              exact RunAny.same [0, 1, 4, 5, 8, 9, 10, 6] (by kernel_rfl) [2, 3, 5, 6, 7, 8, 10, 46, 47, 50, 51, 52, 54, 55, 56] (by kernel_rfl) (J264 g283 _ hS (hM.pick [0, 1, 2, 3] rfl rfl))
                          · replace h := of_false h c225
                            cases h
                        · replace h := of_false h c192
                          cases h
                      · replace h := of_false h c191
                        cases h
                    · replace h := of_false h c181
                      cases h
                  · replace h := of_false h c180
                    cases h
                · replace h := of_false h c172
                  cases h
              · replace h := of_false h c171
                cases h
            · replace h := of_false h c170
              refine RunF.know 31 (b := false) (by kernel_rfl) c170 ?_
              refine RunF.go 5 [2, 3, 5, 6, 60] (k' := (pin Go.Proofs.Try.f9 [1, 0, 1, 1, 1, 0] 1)) (L' := [(2, .slice none 0 0), (3, .slice A3_2 x3_2.length c3_2), (5, .slice A5_2 x5_2.length c5_2), (6, .slice A6_2 x6_2.length c6_2), (60, .slice A3_2 x3_2.length c3_2)]) (w' := W) (by kernel_rfl) ?_
              obtain ⟨t287, ht287, h⟩ := Option.bind_eq_some_iff.mp h
              refine RunF.call (d := some 61) (g := 26) (args := #[.slice A3_2 x3_2.length c3_2]) (k2 := (pin Go.Proofs.Try.f9 [1, 0, 1, 1, 1, 0] 2)) (by kernel_rfl) (slices_Reverse_uint32_uint32.calls k A3_2 x3_2.length c3_2 x3_2 t287 _ w (Gs [⟨.slice A5_2 x5_2.length c5_2, 37, 1, nums .u32 x5_2⟩, ⟨.slice A6_2 x6_2.length c6_2, 37, 1, nums .u32 x6_2⟩] []) (Mem.pickF (hM.as (H' := Gs [⟨.slice A3_2 x3_2.length c3_2, 37, 1, nums .u32 x3_2⟩, ⟨.slice A5_2 x5_2.length c5_2, 37, 1, nums .u32 x5_2⟩, ⟨.slice A6_2 x6_2.length c6_2, 37, 1, nums .u32 x6_2⟩] []) rfl) [0, 1, 2] rfl rfl (by simp [Gs])) ht287) ?_
              rintro _ W286 ⟨rfl, hM_⟩
              replace hM : Mem w W286 [⟨.slice A3_2 x3_2.length c3_2, 37, 1, nums .u32 t287⟩, ⟨.slice A5_2 x5_2.length c5_2, 37, 1, nums .u32 x5_2⟩, ⟨.slice A6_2 x6_2.length c6_2, 37, 1, nums .u32 x6_2⟩] := hM_.as (by simp [Gs])
              clear hM_ ht287
              have hl_ : x3_2.length = t287.length := by have h_ := (hM.rd 0 rfl).1; simpa [nums_length, bools_length, strs_length] using h_.symm
              simp only [hl_] at hM ⊢
              clear hl_
              refine RunF.go 7 [2, 3, 5, 6, 12] (k' := (pl Go.Proofs.Try.f9 [1, 0, 1, 1, 1, 1, 1, 1])) (L' := [(2, .slice none 0 0), (3, .slice A3_2 t287.length c3_2), (5, .slice A5_2 x5_2.length c5_2), (6, .slice A6_2 x6_2.length c6_2), (12, .int .u32 0)]) (w' := W286) (by kernel_rfl) ?_
              replace hM := hM.nil 37
              have l3 : ∀ (k_ : Nat), k_ ≤ k → ∀ (A2_3 : Option Addr) (c2_3 : Nat) (x2_3 : List Int) (A3_3 : Option Addr) (c3_3 : Nat) (x3_3 : List Int) (x12_3 : Int) (W : World) (hM : Mem w W [⟨.slice A2_3 x2_3.length c2_3, 37, 1, nums .u32 x2_3⟩, ⟨.slice A3_3 x3_3.length c3_3, 37, 1, nums .u32 x3_3⟩, ⟨.slice A5_2 x5_2.length c5_2, 37, 1, nums .u32 x5_2⟩, ⟨.slice A6_2 x6_2.length c6_2, 37, 1, nums .u32 x6_2⟩]) (h : twofish_Keys.l3 k_ x5_2 x6_2 x2_3 x3_3 x12_3 = some r), RunF Go.Proofs.Try.prog (Ret fun v w' => ∃ A0' n0' c0', ∃ A1' n1' c1', v = .tuple #[.slice A0' n0' c0', .slice A1' n1' c1', .int .i64 r.2.2] ∧ Mem w w' [⟨.slice A0' n0' c0', 37, 1, nums .u32 r.1⟩, ⟨.slice A1' n1' c1', 37, 1, nums .u32 r.2.1⟩]) 9 (pl Go.Proofs.Try.f9 [1, 0, 1, 1, 1, 1, 1, 1]) 93 [(2, .slice A2_3 x2_3.length c2_3), (3, .slice A3_3 x3_3.length c3_3), (5, .slice A5_2 x5_2.length c5_2), (6, .slice A6_2 x6_2.length c6_2), (12, .int .u32 x12_3)] W := by
                intro k_
                induction k_ using Nat.strongRecOn with
                | _ k_ ih3 =>
                  intro hk A2_3 c2_3 x2_3 A3_3 c3_3 x3_3 x12_3 W hM h
                  cases k_ with
                  | zero => exact absurd h (by simp [twofish_Keys.l3])
                  | succ k =>
                    simp only [twofish_Keys.l3] at h
                    replace ih3 : ∀ m, m ≤ k → _ := fun m hm => ih3 m (by omega) (by omega)
                    replace ih2 : ∀ m, m ≤ k → _ := fun m hm => ih2 m (by omega)
                    refine RunF.go 6 [2, 3, 5, 6, 12, 64, 65] (k' := (pin Go.Proofs.Try.f9 [1, 0, 1, 1, 1, 1, 1, 1, 0] 4)) (L' := [(2, .slice A2_3 x2_3.length c2_3), (3, .slice A3_3 x3_3.length c3_3), (5, .slice A5_2 x5_2.length c5_2), (6, .slice A6_2 x6_2.length c6_2), (12, .int .u32 x12_3), (64, .int .u32 (U32 ((U32 (2 * x12_3)) * 16843009))), (65, .slice A5_2 x5_2.length c5_2)]) (w' := W) (by kernel_rfl) ?_
                    obtain ⟨t292, ht292, h⟩ := Option.bind_eq_some_iff.mp h
                    refine RunF.call (d := some 66) (g := 16) (args := #[.int .u32 (U32 ((U32 (2 * x12_3)) * 16843009)), .slice A5_2 x5_2.length c5_2]) (k2 := (pin Go.Proofs.Try.f9 [1, 0, 1, 1, 1, 1, 1, 1, 0] 5)) (by kernel_rfl) (twofish_H.calls k (U32 ((U32 (2 * x12_3)) * 16843009)) A5_2 x5_2.length c5_2 x5_2 t292 _ (hM.rd 2 rfl) ht292) ?_
                    rintro _ W291 ⟨rfl, hM_⟩
                    replace hM := hM.call hM_
                    clear hM_ ht292
                    refine RunF.go 9 [2, 3, 5, 6, 12, 13, 70, 71] (k' := (pin Go.Proofs.Try.f9 [1, 0, 1, 1, 1, 1, 1, 1, 1, 0] 5)) (L' := [(2, .slice A2_3 x2_3.length c2_3), (3, .slice A3_3 x3_3.length c3_3), (5, .slice A5_2 x5_2.length c5_2), (6, .slice A6_2 x6_2.length c6_2), (12, .int .u32 x12_3), (13, .int .u32 t292), (70, .int .u32 (U32 ((U32 ((U32 (2 * x12_3)) + 1)) * 16843009))), (71, .slice A6_2 x6_2.length c6_2)]) (w' := W291) (by kernel_rfl) ?_
                    obtain ⟨y293, hy, h⟩ := Option.bind_eq_some_iff.mp h
                    rw [show (U32 ((U32 ((U32 (2 * x12_3)) + 1)) * 16843009)) = y293 from Option.some.inj hy]
                    clear hy
                    obtain ⟨t295, ht295, h⟩ := Option.bind_eq_some_iff.mp h
                    refine RunF.call (d := some 72) (g := 16) (args := #[.int .u32 y293, .slice A6_2 x6_2.length c6_2]) (k2 := (pin Go.Proofs.Try.f9 [1, 0, 1, 1, 1, 1, 1, 1, 1, 0] 6)) (by kernel_rfl) (twofish_H.calls k y293 A6_2 x6_2.length c6_2 x6_2 t295 _ (hM.rd 3 rfl) ht295) ?_
                    rintro _ W294 ⟨rfl, hM_⟩
                    replace hM := hM.call hM_
                    clear hM_ ht295
                    obtain ⟨t297, ht297, h⟩ := Option.bind_eq_some_iff.mp h
                    refine RunF.call (d := some 73) (g := 27) (args := #[.int .u32 t295, .int .i64 8]) (k2 := (pin Go.Proofs.Try.f9 [1, 0, 1, 1, 1, 1, 1, 1, 1, 0] 7)) (by kernel_rfl) (words_Rol32.calls k t295 8 t297 _ ht297) ?_
                    rintro _ W296 ⟨rfl, hM_⟩
                    replace hM := hM.call hM_
                    clear hM_ ht297
                    refine RunF.go 12 [3, 5, 6, 12, 74, 77, 81] (k' := (pin Go.Proofs.Try.f9 [1, 0, 1, 1, 1, 1, 1, 1, 1, 1, 0] 8)) (L' := [(3, .slice A3_3 x3_3.length c3_3), (5, .slice A5_2 x5_2.length c5_2), (6, .slice A6_2 x6_2.length c6_2), (12, .int .u32 x12_3), (74, .slice A2_3 x2_3.length c2_3), (77, .int .u32 (U32 (t292 + t297))), (81, .int .u32 (U32 (t292 + (U32 (2 * t297)))))]) (w' := W296) (by kernel_rfl) ?_
                    obtain ⟨t299, ht299, h⟩ := Option.bind_eq_some_iff.mp h
                    refine RunF.call (d := some 82) (g := 27) (args := #[.int .u32 (U32 (t292 + (U32 (2 * t297)))), .int .i64 9]) (k2 := (pin Go.Proofs.Try.f9 [1, 0, 1, 1, 1, 1, 1, 1, 1, 1, 0] 9)) (by kernel_rfl) (words_Rol32.calls k (U32 (t292 + (U32 (2 * t297)))) 9 t299 _ ht299) ?_
                    rintro _ W298 ⟨rfl, hM_⟩
                    replace hM := hM.call hM_
                    clear hM_ ht299
                    refine RunF.new 37 1 2 (nums .u32 [U32 (t292 + t297), t299]) (d := some 83) (k2 := (pin Go.Proofs.Try.f9 [1, 0, 1, 1, 1, 1, 1, 1, 1, 1, 0] 10)) hM (by simp [nums, bools, strs]) (by kernel_rfl) (by kernel_rfl) ?_
                    replace hM := hM
                    intro g300 W301 hM
                    rcases two (decide (x2_3.length + ([U32 (t292 + t297), t299] : List Int).length ≤ 35184372088832)) with c307 | c307
                    · replace h := of_true h c307
                      have h_ := of_decide_eq_true c307
                      obtain ⟨A303, n304, c305, W306, hD, hM', hS_⟩ := app_doesW (P := Go.Proofs.Try.prog) (n := 93) (k := (pin Go.Proofs.Try.f9 [1, 0, 1, 1, 1, 1, 1, 1, 1, 1, 0] 10)) (L := (upd (upd [(3, .slice A3_3 x3_3.length c3_3), (5, .slice A5_2 x5_2.length c5_2), (6, .slice A6_2 x6_2.length c6_2), (12, .int .u32 x12_3), (74, .slice A2_3 x2_3.length c2_3), (77, .int .u32 (U32 (t292 + t297))), (81, .int .u32 (U32 (t292 + (U32 (2 * t297)))))] (some 82) (.int .u32 t299)) (some 83) (.slice (some ⟨g300, 0, none⟩) 2 2))) (d := some 84) (e := 37) (A := A2_3) (m := x2_3.length) (c := c2_3) (A2 := (some ⟨g300, 0, none⟩)) (m2 := 2) (c2 := 2) (cs := nums .u32 x2_3) (ys := nums .u32 ([U32 (t292 + t297), t299] : List Int)) (k2 := (pin Go.Proofs.Try.f9 [1, 0, 1, 1, 1, 1, 1, 1, 1, 1, 0] 11)) [⟨.slice (some ⟨g300, 0, none⟩) 2 2, 37, 1, nums .u32 [U32 (t292 + t297), t299]⟩] [⟨.slice A3_3 x3_3.length c3_3, 37, 1, nums .u32 x3_3⟩, ⟨.slice A5_2 x5_2.length c5_2, 37, 1, nums .u32 x5_2⟩, ⟨.slice A6_2 x6_2.length c6_2, 37, 1, nums .u32 x6_2⟩] (by kernel_rfl) (hM.pick [0, 1, 2, 3, 4] rfl rfl) (hM.rd 0 rfl) (one_nums _ _) (by omega) (by kernel_rfl)
                      rw [nums_append] at hM'
                      replace hM := hM'; clear h_ hM'
                      obtain rfl : (x2_3 ++ ([U32 (t292 + t297), t299] : List Int)).length = n304 := by have h_ := (hM.rd 1 rfl).1; simpa only [nums_length, bools_length, strs_length] using h_
                      refine RunF.does hD ?_
                      clear hD hS_
                      refine RunF.go 14 [2, 3, 5, 6, 12, 88] (k' := (pl Go.Proofs.Try.f9 [1, 0, 1, 1, 1, 1, 1, 1, 1, 1, 1, 0, 1, 1])) (L' := [(2, .slice A303 ((x2_3 ++ ([U32 (t292 + t297), t299] : List Int)).length) c305), (3, .slice A3_3 x3_3.length c3_3), (5, .slice A5_2 x5_2.length c5_2), (6, .slice A6_2 x6_2.length c6_2), (12, .int .u32 (U32 (x12_3 + 1))), (88, .bool (decide ((U32 (x12_3 + 1)) < 20)))]) (w' := W306) (by kernel_rfl) ?_
                      rcases two (decide ((U32 (x12_3 + 1)) < 20)) with c309 | c309
                      · replace h := of_true h c309
                        refine RunF.know 88 (b := true) (by kernel_rfl) c309 ?_
                        refine RunF.go 4 [2, 3, 5, 6, 12] (k' := (pl Go.Proofs.Try.f9 [1, 0, 1, 1, 1, 1, 1, 1])) (L' := [(2, .slice A303 ((x2_3 ++ ([U32 (t292 + t297), t299] : List Int)).length) c305), (3, .slice A3_3 x3_3.length c3_3), (5, .slice A5_2 x5_2.length c5_2), (6, .slice A6_2 x6_2.length c6_2), (12, .int .u32 (U32 (x12_3 + 1)))]) (w' := W306) (by kernel_rfl) ?_
                        exact ih3 k (by omega) A303 c305 (x2_3 ++ ([U32 (t292 + t297), t299] : List Int)) A3_3 c3_3 x3_3 (U32 (x12_3 + 1)) _ (hM.pick [1, 2, 3, 4] rfl rfl) h
                      · replace h := of_false h c309
                        refine RunF.know 88 (b := false) (by kernel_rfl) c309 ?_
                        refine RunF.go 5 [3, 89] (k' := (pin Go.Proofs.Try.f9 [1, 0, 1, 1, 1, 1, 1, 1, 1, 1, 1, 1, 0] 1)) (L' := [(3, .slice A3_3 x3_3.length c3_3), (89, .slice A303 ((x2_3 ++ ([U32 (t292 + t297), t299] : List Int)).length) c305)]) (w' := W306) (by kernel_rfl) ?_
                        obtain ⟨t311, ht311, h⟩ := Option.bind_eq_some_iff.mp h
                        refine RunF.call (d := some 90) (g := 28) (args := #[.slice A303 ((x2_3 ++ ([U32 (t292 + t297), t299] : List Int)).length) c305]) (k2 := (pin Go.Proofs.Try.f9 [1, 0, 1, 1, 1, 1, 1, 1, 1, 1, 1, 1, 0] 2)) (by kernel_rfl) (slices_Clone_uint32_uint32.calls k A303 ((x2_3 ++ ([U32 (t292 + t297), t299] : List Int)).length) c305 (x2_3 ++ ([U32 (t292 + t297), t299] : List Int)) t311 _ (hM.rd 1 rfl) ht311) ?_
                        rintro _ W310 ⟨A312, n313, c314, rfl, hM_⟩
                        obtain rfl : t311.length = n313 := by have h_ := (hM_.rd 0 rfl).1; simpa [nums_length, bools_length, strs_length] using h_
                        replace hM := hM.call hM_
                        clear hM_ ht311
                        refine RunF.go 1 [90, 91] (k' := (pin Go.Proofs.Try.f9 [1, 0, 1, 1, 1, 1, 1, 1, 1, 1, 1, 1, 0] 3)) (L' := [(90, .slice A312 t311.length c314), (91, .slice A3_3 x3_3.length c3_3)]) (w' := W310) (by kernel_rfl) ?_
                        obtain ⟨t317, ht317, h⟩ := Option.bind_eq_some_iff.mp h
                        refine RunF.call (d := some 92) (g := 28) (args := #[.slice A3_3 x3_3.length c3_3]) (k2 := (pin Go.Proofs.Try.f9 [1, 0, 1, 1, 1, 1, 1, 1, 1, 1, 1, 1, 0] 4)) (by kernel_rfl) (slices_Clone_uint32_uint32.calls k A3_3 x3_3.length c3_3 x3_3 t317 _ (hM.rd 3 rfl) ht317) ?_
                        rintro _ W316 ⟨A318, n319, c320, rfl, hM_⟩
                        obtain rfl : t317.length = n319 := by have h_ := (hM_.rd 0 rfl).1; simpa [nums_length, bools_length, strs_length] using h_
                        replace hM := hM.call hM_
                        clear hM_ ht317
                        refine RunF.go 4 [2, 3, 4] (k' := (pl Go.Proofs.Try.f9 [1, 0, 1, 1, 1, 1, 1, 1, 1, 1, 1, 1, 1])) (L' := [(2, .slice A312 t311.length c314), (3, .slice A318 t317.length c320), (4, .int .i64 0)]) (w' := W316) (by kernel_rfl) ?_
                        obtain rfl := Option.some.inj h
                        exact RunF.ret3 2 3 4 (.slice A312 t311.length c314) (.slice A318 t317.length c320) (.int .i64 0) (fn := Go.Proofs.Try.f9) Go.Proofs.Try.func9 (by kernel_rfl) (by kernel_rfl) (by kernel_rfl) (by kernel_rfl) (by kernel_rfl) ⟨_, rfl, A312, t311.length, c314, A318, t317.length, c320, rfl, (hM.pick [1, 0] rfl rfl)⟩
                    · replace h := of_false h c307
                      cases h
              exact l3 k (Nat.le_refl _) none 0 ([] : List Int) A3_2 c3_2 t287 0 _ (hM.pick [0, 1, 2, 3] rfl rfl) h
      exact l2 k (Nat.le_refl _) none 0 ([] : List Int) none 0 ([] : List Int) none 0 ([] : List Int) Ap0 cp0 a0 _ (hM.pick [2, 1, 0] rfl rfl) hr0 h
  · replace h := of_false h c1
    refine RunF.know 18 (b := false) (by kernel_rfl) c1 ?_
    refine RunF.go 25 [2, 3, 5, 6, 7] (k' := (pl Go.Proofs.Try.f9 [1, 0, 1, 1, 0, 1, 0, 0])) (L' := [(2, .slice none 0 0), (3, .slice none 0 0), (5, .slice none 0 0), (6, .slice none 0 0), (7, .slice Ap0 a0.length cp0)]) (w' := w) (by kernel_rfl) ?_
    replace hM := hM.nil 37
    replace hM := hM.nil 37
    replace hM := hM.nil 37
    have l4 : ∀ (k_ : Nat), k_ ≤ k → ∀ (A3_4 : Option Addr) (c3_4 : Nat) (x3_4 : List Int) (A5_4 : Option Addr) (c5_4 : Nat) (x5_4 : List Int) (A6_4 : Option Addr) (c6_4 : Nat) (x6_4 : List Int) (A7_4 : Option Addr) (c7_4 : Nat) (x7_4 : List Int) (W : World) (hM : Mem w W [⟨.slice A3_4 x3_4.length c3_4, 37, 1, nums .u32 x3_4⟩, ⟨.slice A5_4 x5_4.length c5_4, 37, 1, nums .u32 x5_4⟩, ⟨.slice A6_4 x6_4.length c6_4, 37, 1, nums .u32 x6_4⟩]) (hrx7_4 : Rd w (.slice A7_4 x7_4.length c7_4) (nums .u8 x7_4)) (h : twofish_Keys.l4 k_  x3_4 x5_4 x6_4 x7_4 = some r), RunF Go.Proofs.Try.prog (Ret fun v w' => ∃ A0' n0' c0', ∃ A1' n1' c1', v = .tuple #[.slice A0' n0' c0', .slice A1' n1' c1', .int .i64 r.2.2] ∧ Mem w w' [⟨.slice A0' n0' c0', 37, 1, nums .u32 r.1⟩, ⟨.slice A1' n1' c1', 37, 1, nums .u32 r.2.1⟩]) 9 (pl Go.Proofs.Try.f9 [1, 0, 1, 1, 0, 1, 0, 0]) 93 [(2, .slice none 0 0), (3, .slice A3_4 x3_4.length c3_4), (5, .slice A5_4 x5_4.length c5_4), (6, .slice A6_4 x6_4.length c6_4), (7, .slice A7_4 x7_4.length c7_4)] W := by
      intro k_
      induction k_ using Nat.strongRecOn with
      | _ k_ ih4 =>
        intro hk A3_4 c3_4 x3_4 A5_4 c5_4 x5_4 A6_4 c6_4 x6_4 A7_4 c7_4 x7_4 W hM hrx7_4 h
        cases k_ with
        | zero => exact absurd h (by simp [twofish_Keys.l4])
        | succ k =>
          simp only [twofish_Keys.l4] at h
          replace ih4 : ∀ m, m ≤ k → _ := fun m hm => ih4 m (by omega) (by omega)
          refine RunF.go 7 [2, 3, 5, 6, 7, 31] (k' := (pl Go.Proofs.Try.f9 [1, 0, 1, 1, 0, 1, 0, 0, 0, 1])) (L' := [(2, .slice none 0 0), (3, .slice A3_4 x3_4.length c3_4), (5, .slice A5_4 x5_4.length c5_4), (6, .slice A6_4 x6_4.length c6_4), (7, .slice A7_4 x7_4.length c7_4), (31, .bool (decide ((x7_4.length : Int) > 0)))]) (w' := W) (by kernel_rfl) ?_
          rcases two (decide ((x7_4.length : Int) > 0)) with c328 | c328
          · replace h := of_true h c328
            refine RunF.know 31 (b := true) (by kernel_rfl) c328 ?_
            refine RunF.go 7 [2, 3, 5, 6, 7, 35] (k' := (pin Go.Proofs.Try.f9 [1, 0, 1, 1, 0, 1, 0, 0, 1, 0, 0, 0] 1)) (L' := [(2, .slice none 0 0), (3, .slice A3_4 x3_4.length c3_4), (5, .slice A5_4 x5_4.length c5_4), (6, .slice A6_4 x6_4.length c6_4), (7, .slice A7_4 x7_4.length c7_4), (35, .slice A7_4 x7_4.length c7_4)]) (w' := W) (by kernel_rfl) ?_
            rcases two (decide (0 ≤ 4)) with c329 | c329
            · replace h := of_true h c329
              rcases two (decide (4 ≤ (x7_4.length : Int))) with c330 | c330
              · replace h := of_true h c330
                have zc329 := of_decide_eq_true c329
                have zc330 := of_decide_eq_true c330
                obtain ⟨A331, n332, c333, hy334, rfl, hs335⟩ := cut (P := Go.Proofs.Try.prog) (n := 93) (k := (pin Go.Proofs.Try.f9 [1, 0, 1, 1, 0, 1, 0, 0, 1, 0, 0, 0] 1)) (L := [(2, .slice none 0 0), (3, .slice A3_4 x3_4.length c3_4), (5, .slice A5_4 x5_4.length c5_4), (6, .slice A6_4 x6_4.length c6_4), (7, .slice A7_4 x7_4.length c7_4), (35, .slice A7_4 x7_4.length c7_4)]) (d := some 36) (A := A7_4) (m := x7_4.length) (c := c7_4) (l := 0) (h := 4) (k2 := (pin Go.Proofs.Try.f9 [1, 0, 1, 1, 0, 1, 0, 0, 1, 0, 0, 0] 2)) .u8 x7_4 (by kernel_rfl) (by omega) (by omega) (by omega) (hrx7_4.mono hM.below)
                clear zc329
                clear zc330
                refine RunF.y hy334 trivial ?_
                obtain ⟨t337, ht337, h⟩ := Option.bind_eq_some_iff.mp h
                refine RunF.call (d := some 37) (g := 24) (args := #[.slice A331 (((x7_4.take (4 : Int).toNat).drop (0 : Int).toNat).length) c333]) (k2 := (pin Go.Proofs.Try.f9 [1, 0, 1, 1, 0, 1, 0, 0, 1, 0, 0, 0] 3)) (by kernel_rfl) (words_Le32.calls k A331 (((x7_4.take (4 : Int).toNat).drop (0 : Int).toNat).length) c333 ((x7_4.take (4 : Int).toNat).drop (0 : Int).toNat) t337 _ (hs335 _ (hrx7_4.mono hM.below)) ht337) ?_
                rintro _ W336 ⟨rfl, hM_⟩
                replace hM := hM.call hM_
                clear hM_ ht337
                refine RunF.go 9 [2, 3, 5, 6, 7, 8, 41] (k' := (pin Go.Proofs.Try.f9 [1, 0, 1, 1, 0, 1, 0, 0, 1, 0, 0, 1, 0] 1)) (L' := [(2, .slice none 0 0), (3, .slice A3_4 x3_4.length c3_4), (5, .slice A5_4 x5_4.length c5_4), (6, .slice A6_4 x6_4.length c6_4), (7, .slice A7_4 x7_4.length c7_4), (8, .int .u32 t337.1), (41, .slice A7_4 x7_4.length c7_4)]) (w' := W336) (by kernel_rfl) ?_
                rcases two (decide (4 ≤ 8)) with c338 | c338
                · replace h := of_true h c338
                  rcases two (decide (8 ≤ (x7_4.length : Int))) with c339 | c339
                  · replace h := of_true h c339
                    have zc338 := of_decide_eq_true c338
                    have zc339 := of_decide_eq_true c339
                    obtain ⟨A340, n341, c342, hy343, rfl, hs344⟩ := cut (P := Go.Proofs.Try.prog) (n := 93) (k := (pin Go.Proofs.Try.f9 [1, 0, 1, 1, 0, 1, 0, 0, 1, 0, 0, 1, 0] 1)) (L := [(2, .slice none 0 0), (3, .slice A3_4 x3_4.length c3_4), (5, .slice A5_4 x5_4.length c5_4), (6, .slice A6_4 x6_4.length c6_4), (7, .slice A7_4 x7_4.length c7_4), (8, .int .u32 t337.1), (41, .slice A7_4 x7_4.length c7_4)]) (d := some 42) (A := A7_4) (m := x7_4.length) (c := c7_4) (l := 4) (h := 8) (k2 := (pin Go.Proofs.Try.f9 [1, 0, 1, 1, 0, 1, 0, 0, 1, 0, 0, 1, 0] 2)) .u8 x7_4 (by kernel_rfl) (by omega) (by omega) (by omega) (hrx7_4.mono hM.below)
                    clear zc338
                    clear zc339
                    refine RunF.y hy343 trivial ?_
                    obtain ⟨t346, ht346, h⟩ := Option.bind_eq_some_iff.mp h
                    refine RunF.call (d := some 43) (g := 24) (args := #[.slice A340 (((x7_4.take (8 : Int).toNat).drop (4 : Int).toNat).length) c342]) (k2 := (pin Go.Proofs.Try.f9 [1, 0, 1, 1, 0, 1, 0, 0, 1, 0, 0, 1, 0] 3)) (by kernel_rfl) (words_Le32.calls k A340 (((x7_4.take (8 : Int).toNat).drop (4 : Int).toNat).length) c342 ((x7_4.take (8 : Int).toNat).drop (4 : Int).toNat) t346 _ (hs344 _ (hrx7_4.mono hM.below)) ht346) ?_
                    rintro _ W345 ⟨rfl, hM_⟩
                    replace hM := hM.call hM_
                    clear hM_ ht346
                    refine RunF.go 6 [2, 3, 5, 6, 7, 8, 10] (k' := (pl Go.Proofs.Try.f9 [1, 0, 1, 1, 0, 1, 0, 0, 1, 0, 0, 1, 1])) (L' := [(2, .slice none 0 0), (3, .slice A3_4 x3_4.length c3_4), (5, .slice A5_4 x5_4.length c5_4), (6, .slice A6_4 x6_4.length c6_4), (7, .slice A7_4 x7_4.length c7_4), (8, .int .u32 t337.1), (10, .int .u32 t346.1)]) (w' := W345) (by kernel_rfl) ?_
                    refine RunF.draw (Still ({ W345 with drawn := W345.drawn + 1 } : World) [.slice A5_4 x5_4.length c5_4, .slice A6_4 x6_4.length c6_4, .slice A3_4 x3_4.length c3_4]) (by kernel_rfl) (by kernel_rfl) ?_
                    have hMd348 := hM.drew
                    have hS := Still.refl ({ W345 with drawn := W345.drawn + 1 } : World) [.slice A5_4 x5_4.length c5_4, .slice A6_4 x6_4.length c6_4, .slice A3_4 x3_4.length c3_4]
                    generalize ({ W345 with drawn := W345.drawn + 1 } : World) = W347 at hMd348 hS ⊢
                    replace hM := hMd348
                    refine RunAny.y 0 (by kernel_rfl) (yl_pure (d := some 46) (v := .slice A5_4 x5_4.length c5_4) (k2 := [.inRegion (opsOf (pl Go.Proofs.Try.f9 [1, 0, 1, 1, 0, 1, 0, 0, 1, 0, 0, 1, 1])) []]) fun w => by kernel_rfl) (fun _ _ => trivial) hS ?_
                    refine RunAny.y 1 (by kernel_rfl) (yl_pure (d := some 47) (v := .int .u32 t337.1) (k2 := [.inRegion (opsOf (pl Go.Proofs.Try.f9 [1, 0, 1, 1, 0, 1, 0, 0, 1, 0, 0, 1, 1])) []]) fun w => by kernel_rfl) (fun _ _ => trivial) hS ?_
                    refine RunAny.y 4 (by kernel_rfl) (yl_pure (d := some 50) (v := .slice A6_4 x6_4.length c6_4) (k2 := [.inRegion (opsOf (pl Go.Proofs.Try.f9 [1, 0, 1, 1, 0, 1, 0, 0, 1, 0, 0, 1, 1])) []]) fun w => by kernel_rfl) (fun _ _ => trivial) hS ?_
                    refine RunAny.y 5 (by kernel_rfl) (yl_pure (d := some 51) (v := .int .u32 t346.1) (k2 := [.inRegion (opsOf (pl Go.Proofs.Try.f9 [1, 0, 1, 1, 0, 1, 0, 0, 1, 0, 0, 1, 1])) []]) fun w => by kernel_rfl) (fun _ _ => trivial) hS ?_
                    refine RunAny.y 8 (by kernel_rfl) (yl_pure (d := some 54) (v := .slice A3_4 x3_4.length c3_4) (k2 := [.inRegion (opsOf (pl Go.Proofs.Try.f9 [1, 0, 1, 1, 0, 1, 0, 0, 1, 0, 0, 1, 1])) []]) fun w => by kernel_rfl) (fun _ _ => trivial) hS ?_
                    refine RunAny.y 9 (by kernel_rfl) (yl_pure (d := some 55) (v := .slice A7_4 x7_4.length c7_4) (k2 := [.inRegion (opsOf (pl Go.Proofs.Try.f9 [1, 0, 1, 1, 0, 1, 0, 0, 1, 0, 0, 1, 1])) []]) fun w => by kernel_rfl) (fun _ _ => trivial) hS ?_
                    rcases two (decide (0 ≤ 8)) with c349 | c349
                    · replace h := of_true h c349
                      rcases two (decide (8 ≤ (x7_4.length : Int))) with c350 | c350
                      · replace h := of_true h c350
                        have zc349 := of_decide_eq_true c349
                        have zc350 := of_decide_eq_true c350
                        obtain ⟨A351, n352, c353, hy354, rfl, hs355⟩ := cut (P := Go.Proofs.Try.prog) (n := 93) (k := (one (opsOf (pl Go.Proofs.Try.f9 [1, 0, 1, 1, 0, 1, 0, 0, 1, 0, 0, 1, 1])) 10)) (L := (upd (upd (upd (upd (upd (upd [(2, .slice none 0 0), (3, .slice A3_4 x3_4.length c3_4), (5, .slice A5_4 x5_4.length c5_4), (6, .slice A6_4 x6_4.length c6_4), (7, .slice A7_4 x7_4.length c7_4), (8, .int .u32 t337.1), (10, .int .u32 t346.1)] (some 46) (.slice A5_4 x5_4.length c5_4)) (some 47) (.int .u32 t337.1)) (some 50) (.slice A6_4 x6_4.length c6_4)) (some 51) (.int .u32 t346.1)) (some 54) (.slice A3_4 x3_4.length c3_4)) (some 55) (.slice A7_4 x7_4.length c7_4))) (d := some 56) (A := A7_4) (m := x7_4.length) (c := c7_4) (l := 0) (h := 8) (k2 := [.inRegion (opsOf (pl Go.Proofs.Try.f9 [1, 0, 1, 1, 0, 1, 0, 0, 1, 0, 0, 1, 1])) []]) .u8 x7_4 (by kernel_rfl) (by omega) (by omega) (by omega) (hrx7_4.mono hM.below)
                        clear zc349
                        clear zc350
                        refine RunAny.y 10 (by kernel_rfl) hy354 (fun _ _ => trivial) hS ?_
                        rcases two (decide (x5_4.length + ([t337.1] : List Int).length ≤ 35184372088832)) with c383 | c383
                        · replace h := of_true h c383
                          have J384 : ∀ (g356 : Nat) (A362 : Option Addr) (c364 : Nat) (g374 : Nat) (W385 : World) (hS : Still W385 [.slice A5_4 x5_4.length c5_4, .slice A6_4 x6_4.length c6_4, .slice A3_4 x3_4.length c3_4] W385) (hM : Mem w W385 [⟨.slice (some ⟨g356, 0, none⟩) 1 1, 37, 1, nums .u32 [t337.1]⟩, ⟨.slice A362 ((x5_4 ++ ([t337.1] : List Int)).length) c364, 37, 1, nums .u32 (x5_4 ++ ([t337.1] : List Int))⟩, ⟨.slice (some ⟨g374, 0, none⟩) 1 1, 37, 1, nums .u32 [t346.1]⟩, ⟨.slice A3_4 x3_4.length c3_4, 37, 1, nums .u32 x3_4⟩, ⟨.slice A6_4 x6_4.length c6_4, 37, 1, nums .u32 x6_4⟩]) , RunAny Go.Proofs.Try.prog (Ret fun v w' => ∃ A0' n0' c0', ∃ A1' n1' c1', v = .tuple #[.slice A0' n0' c0', .slice A1' n1' c1', .int .i64 r.2.2] ∧ Mem w w' [⟨.slice A0' n0' c0', 37, 1, nums .u32 r.1⟩, ⟨.slice A1' n1' c1', 37, 1, nums .u32 r.2.1⟩]) 9 (rest1 (pl Go.Proofs.Try.f9 [1, 0, 1, 1, 0, 1, 0, 0, 1, 0, 0, 1, 1])) 93 (opsOf (pl Go.Proofs.Try.f9 [1, 0, 1, 1, 0, 1, 0, 0, 1, 0, 0, 1, 1])) (Still W385 [.slice A5_4 x5_4.length c5_4, .slice A6_4 x6_4.length c6_4, .slice A3_4 x3_4.length c3_4]) 7 [0, 1, 4, 5, 8, 9, 10, 2, 3, 6] [(2, .slice none 0 0), (3, .slice A3_4 x3_4.length c3_4), (5, .slice A5_4 x5_4.length c5_4), (6, .slice A6_4 x6_4.length c6_4), (7, .slice A7_4 x7_4.length c7_4), (8, .int .u32 t337.1), (10, .int .u32 t346.1), (46, .slice A5_4 x5_4.length c5_4), (47, .int .u32 t337.1), (48, .slice (some ⟨g356, 0, none⟩) 1 1), (49, .slice A362 ((x5_4 ++ ([t337.1] : List Int)).length) c364), (50, .slice A6_4 x6_4.length c6_4), (51, .int .u32 t346.1), (52, .slice (some ⟨g374, 0, none⟩) 1 1), (54, .slice A3_4 x3_4.length c3_4), (55, .slice A7_4 x7_4.length c7_4), (56, .slice A351 (((x7_4.take (8 : Int).toNat).drop (0 : Int).toNat).length) c353)] W385 := by
                            intro g356 A362 c364 g374 W385 hS hM 
                            rcases two (decide (x6_4.length + ([t346.1] : List Int).length ≤ 35184372088832)) with c390 | c390
                            · replace h := of_true h c390
                              have h_ := of_decide_eq_true c390
                              obtain ⟨A386, n387, c388, W389, hD, hM', hS_⟩ := app_doesW (P := Go.Proofs.Try.prog) (n := 93) (k := (one (opsOf (pl Go.Proofs.Try.f9 [1, 0, 1, 1, 0, 1, 0, 0, 1, 0, 0, 1, 1])) 7)) (L := [(2, .slice none 0 0), (3, .slice A3_4 x3_4.length c3_4), (5, .slice A5_4 x5_4.length c5_4), (6, .slice A6_4 x6_4.length c6_4), (7, .slice A7_4 x7_4.length c7_4), (8, .int .u32 t337.1), (10, .int .u32 t346.1), (46, .slice A5_4 x5_4.length c5_4), (47, .int .u32 t337.1), (48, .slice (some ⟨g356, 0, none⟩) 1 1), (49, .slice A362 ((x5_4 ++ ([t337.1] : List Int)).length) c364), (50, .slice A6_4 x6_4.length c6_4), (51, .int .u32 t346.1), (52, .slice (some ⟨g374, 0, none⟩) 1 1), (54, .slice A3_4 x3_4.length c3_4), (55, .slice A7_4 x7_4.length c7_4), (56, .slice A351 (((x7_4.take (8 : Int).toNat).drop (0 : Int).toNat).length) c353)]) (d := some 53) (e := 37) (A := A6_4) (m := x6_4.length) (c := c6_4) (A2 := (some ⟨g374, 0, none⟩)) (m2 := 1) (c2 := 1) (cs := nums .u32 x6_4) (ys := nums .u32 ([t346.1] : List Int)) (k2 := [.inRegion (opsOf (pl Go.Proofs.Try.f9 [1, 0, 1, 1, 0, 1, 0, 0, 1, 0, 0, 1, 1])) []]) [⟨.slice (some ⟨g356, 0, none⟩) 1 1, 37, 1, nums .u32 [t337.1]⟩, ⟨.slice A362 ((x5_4 ++ ([t337.1] : List Int)).length) c364, 37, 1, nums .u32 (x5_4 ++ ([t337.1] : List Int))⟩, ⟨.slice (some ⟨g374, 0, none⟩) 1 1, 37, 1, nums .u32 [t346.1]⟩, ⟨.slice A3_4 x3_4.length c3_4, 37, 1, nums .u32 x3_4⟩] [] (by kernel_rfl) (hM.pick [0, 1, 2, 3, 4] rfl rfl) (hM.rd 2 rfl) (one_nums _ _) (by omega) (by kernel_rfl)
                              rw [nums_append] at hM'
                              replace hM := hM'; clear h_ hM'
                              obtain rfl : (x6_4 ++ ([t346.1] : List Int)).length = n387 := by have h_ := (hM.rd 4 rfl).1; simpa only [nums_length, bools_length, strs_length] using h_
                              refine RunAny.does 7 (by kernel_rfl) hD (hS.app hS_ (by simp)) ?_
                              clear hD
                              replace hS := (hS.app hS_ (by simp)); clear hS_
                              refine RunAny.rebase hS ?_
                              replace hS := Still.refl W389 [.slice A5_4 x5_4.length c5_4, .slice A6_4 x6_4.length c6_4, .slice A3_4 x3_4.length c3_4]
                              obtain ⟨t393, ht393, h⟩ := Option.bind_eq_some_iff.mp h
                              refine RunAny.call 11 (d := some 57) (g := 25) (args := #[.slice A351 (((x7_4.take (8 : Int).toNat).drop (0 : Int).toNat).length) c353]) (by kernel_rfl) (by kernel_rfl) (twofish_folded.calls k A351 (((x7_4.take (8 : Int).toNat).drop (0 : Int).toNat).length) c353 ((x7_4.take (8 : Int).toNat).drop (0 : Int).toNat) t393 _ (hs355 _ (hrx7_4.mono hM.below)) ht393) (by rintro _ _ ⟨rfl, hM_⟩; exact hS.below hM_.below) ?_
                              rintro _ W392 ⟨rfl, hM_⟩
                              replace hS := hS.below hM_.below
                              replace hM := hM.call hM_
                              clear hM_ ht393
                              refine RunAny.rebase hS ?_
                              replace hS := Still.refl W392 [.slice A5_4 x5_4.length c5_4, .slice A6_4 x6_4.length c6_4, .slice A3_4 x3_4.length c3_4]
                              refine RunAny.new 12 37 1 1 (nums .u32 [t393]) (d := some 58) (k2 := [.inRegion (opsOf (pl Go.Proofs.Try.f9 [1, 0, 1, 1, 0, 1, 0, 0, 1, 0, 0, 1, 1])) []]) (by kernel_rfl) hM (by simp [nums, bools, strs]) (by kernel_rfl) (by kernel_rfl) hS ?_
                              intro g394 W395 hS hM
                              refine RunAny.rebase hS ?_
                              replace hS := Still.refl W395 [.slice A5_4 x5_4.length c5_4, .slice A6_4 x6_4.length c6_4, .slice A3_4 x3_4.length c3_4]
                              rcases two (decide (x3_4.length + ([t393] : List Int).length ≤ 35184372088832)) with c401 | c401
                              · replace h := of_true h c401
                                have h_ := of_decide_eq_true c401
                                obtain ⟨A397, n398, c399, W400, hD, hM', hS_⟩ := app_doesW (P := Go.Proofs.Try.prog) (n := 93) (k := (one (opsOf (pl Go.Proofs.Try.f9 [1, 0, 1, 1, 0, 1, 0, 0, 1, 0, 0, 1, 1])) 13)) (L := (upd (upd (upd [(2, .slice none 0 0), (3, .slice A3_4 x3_4.length c3_4), (5, .slice A5_4 x5_4.length c5_4), (6, .slice A6_4 x6_4.length c6_4), (7, .slice A7_4 x7_4.length c7_4), (8, .int .u32 t337.1), (10, .int .u32 t346.1), (46, .slice A5_4 x5_4.length c5_4), (47, .int .u32 t337.1), (48, .slice (some ⟨g356, 0, none⟩) 1 1), (49, .slice A362 ((x5_4 ++ ([t337.1] : List Int)).length) c364), (50, .slice A6_4 x6_4.length c6_4), (51, .int .u32 t346.1), (52, .slice (some ⟨g374, 0, none⟩) 1 1), (54, .slice A3_4 x3_4.length c3_4), (55, .slice A7_4 x7_4.length c7_4), (56, .slice A351 (((x7_4.take (8 : Int).toNat).drop (0 : Int).toNat).length) c353)] (some 53) (.slice A386 ((x6_4 ++ ([t346.1] : List Int)).length) c388)) (some 57) (.int .u32 t393)) (some 58) (.slice (some ⟨g394, 0, none⟩) 1 1))) (d := some 59) (e := 37) (A := A3_4) (m := x3_4.length) (c := c3_4) (A2 := (some ⟨g394, 0, none⟩)) (m2 := 1) (c2 := 1) (cs := nums .u32 x3_4) (ys := nums .u32 ([t393] : List Int)) (k2 := [.inRegion (opsOf (pl Go.Proofs.Try.f9 [1, 0, 1, 1, 0, 1, 0, 0, 1, 0, 0, 1, 1])) []]) [⟨.slice (some ⟨g394, 0, none⟩) 1 1, 37, 1, nums .u32 [t393]⟩, ⟨.slice (some ⟨g356, 0, none⟩) 1 1, 37, 1, nums .u32 [t337.1]⟩, ⟨.slice A362 ((x5_4 ++ ([t337.1] : List Int)).length) c364, 37, 1, nums .u32 (x5_4 ++ ([t337.1] : List Int))⟩, ⟨.slice (some ⟨g374, 0, none⟩) 1 1, 37, 1, nums .u32 [t346.1]⟩] [⟨.slice A386 ((x6_4 ++ ([t346.1] : List Int)).length) c388, 37, 1, nums .u32 (x6_4 ++ ([t346.1] : List Int))⟩] (by kernel_rfl) (hM.pick [0, 1, 2, 3, 4, 5] rfl rfl) (hM.rd 0 rfl) (one_nums _ _) (by omega) (by kernel_rfl)
                                rw [nums_append] at hM'
                                replace hM := hM'; clear h_ hM'
                                obtain rfl : (x3_4 ++ ([t393] : List Int)).length = n398 := by have h_ := (hM.rd 4 rfl).1; simpa only [nums_length, bools_length, strs_length] using h_
                                refine RunAny.does 13 (by kernel_rfl) hD (hS.app hS_ (by simp)) ?_
                                clear hD
                                replace hS := (hS.app hS_ (by simp)); clear hS_
                                refine RunAny.rebase hS ?_
                                replace hS := Still.refl W400 [.slice A5_4 x5_4.length c5_4, .slice A6_4 x6_4.length c6_4, .slice A3_4 x3_4.length c3_4]
                                refine RunAny.y 14 (by kernel_rfl) (yl_pure (d := some 5) (v := .slice A362 ((x5_4 ++ ([t337.1] : List Int)).length) c364) (k2 := [.inRegion (opsOf (pl Go.Proofs.Try.f9 [1, 0, 1, 1, 0, 1, 0, 0, 1, 0, 0, 1, 1])) []]) fun w => by kernel_rfl) (fun _ _ => trivial) hS ?_
                                refine RunAny.y 15 (by kernel_rfl) (yl_pure (d := some 6) (v := .slice A386 ((x6_4 ++ ([t346.1] : List Int)).length) c388) (k2 := [.inRegion (opsOf (pl Go.Proofs.Try.f9 [1, 0, 1, 1, 0, 1, 0, 0, 1, 0, 0, 1, 1])) []]) fun w => by kernel_rfl) (fun _ _ => trivial) hS ?_
                                refine RunAny.y 16 (by kernel_rfl) (yl_pure (d := some 3) (v := .slice A397 ((x3_4 ++ ([t393] : List Int)).length) c399) (k2 := [.inRegion (opsOf (pl Go.Proofs.Try.f9 [1, 0, 1, 1, 0, 1, 0, 0, 1, 0, 0, 1, 1])) []]) fun w => by kernel_rfl) (fun _ _ => trivial) hS ?_
                                refine RunAny.done (by kernel_rfl) ?_
                                clear hS
                                refine RunF.go 3 [2, 3, 5, 6, 32] (k' := (pin Go.Proofs.Try.f9 [1, 0, 1, 1, 0, 1, 0, 0, 1, 1] 1)) (L' := [(2, .slice none 0 0), (3, .slice A397 ((x3_4 ++ ([t393] : List Int)).length) c399), (5, .slice A362 ((x5_4 ++ ([t337.1] : List Int)).length) c364), (6, .slice A386 ((x6_4 ++ ([t346.1] : List Int)).length) c388), (32, .slice A7_4 x7_4.length c7_4)]) (w' := W400) (by kernel_rfl) ?_
                                rcases two (decide (8 ≤ (x7_4.length : Int))) with c403 | c403
                                · replace h := of_true h c403
                                  have zc403 := of_decide_eq_true c403
                                  obtain ⟨A404, n405, c406, hy407, rfl, hs408⟩ := cut (P := Go.Proofs.Try.prog) (n := 93) (k := (pin Go.Proofs.Try.f9 [1, 0, 1, 1, 0, 1, 0, 0, 1, 1] 1)) (L := [(2, .slice none 0 0), (3, .slice A397 ((x3_4 ++ ([t393] : List Int)).length) c399), (5, .slice A362 ((x5_4 ++ ([t337.1] : List Int)).length) c364), (6, .slice A386 ((x6_4 ++ ([t346.1] : List Int)).length) c388), (32, .slice A7_4 x7_4.length c7_4)]) (d := some 33) (A := A7_4) (m := x7_4.length) (c := c7_4) (l := 8) (h := (x7_4.length : Int)) (k2 := (pin Go.Proofs.Try.f9 [1, 0, 1, 1, 0, 1, 0, 0, 1, 1] 2)) .u8 x7_4 (by kernel_rfl) (by omega) (by omega) (by omega) (hrx7_4.mono hM.below)
                                  clear zc403
                                  refine RunF.y hy407 trivial ?_
                                  refine RunF.go 3 [2, 3, 5, 6, 7] (k' := (pl Go.Proofs.Try.f9 [1, 0, 1, 1, 0, 1, 0, 0])) (L' := [(2, .slice none 0 0), (3, .slice A397 ((x3_4 ++ ([t393] : List Int)).length) c399), (5, .slice A362 ((x5_4 ++ ([t337.1] : List Int)).length) c364), (6, .slice A386 ((x6_4 ++ ([t346.1] : List Int)).length) c388), (7, .slice A404 (((x7_4.take ((x7_4.length : Int) : Int).toNat).drop (8 : Int).toNat).length) c406)]) (w' := W400) (by kernel_rfl) ?_
                                  exact ih4 k (by omega) A397 c399 (x3_4 ++ ([t393] : List Int)) A362 c364 (x5_4 ++ ([t337.1] : List Int)) A386 c388 (x6_4 ++ ([t346.1] : List Int)) A404 c406 ((x7_4.take ((x7_4.length : Int) : Int).toNat).drop (8 : Int).toNat) _ (hM.pick [4, 2, 5] rfl rfl) (hs408 _ hrx7_4) h
                                · replace h := of_false h c403
                                  cases h
                              · replace h := of_false h c401
                                cases h
                            · replace h := of_false h c390
                              cases h
                          have J409 : ∀ (g356 : Nat) (g368 : Nat) (W410 : World) (hS : Still W410 [.slice A5_4 x5_4.length c5_4, .slice A6_4 x6_4.length c6_4, .slice A3_4 x3_4.length c3_4] W410) (hM : Mem w W410 [⟨.slice (some ⟨g356, 0, none⟩) 1 1, 37, 1, nums .u32 [t337.1]⟩, ⟨.slice (some ⟨g368, 0, none⟩) 1 1, 37, 1, nums .u32 [t346.1]⟩, ⟨.slice A3_4 x3_4.length c3_4, 37, 1, nums .u32 x3_4⟩, ⟨.slice A5_4 x5_4.length c5_4, 37, 1, nums .u32 x5_4⟩, ⟨.slice A6_4 x6_4.length c6_4, 37, 1, nums .u32 x6_4⟩]) , RunAny Go.Proofs.Try.prog (Ret fun v w' => ∃ A0' n0' c0', ∃ A1' n1' c1', v = .tuple #[.slice A0' n0' c0', .slice A1' n1' c1', .int .i64 r.2.2] ∧ Mem w w' [⟨.slice A0' n0' c0', 37, 1, nums .u32 r.1⟩, ⟨.slice A1' n1' c1', 37, 1, nums .u32 r.2.1⟩]) 9 (rest1 (pl Go.Proofs.Try.f9 [1, 0, 1, 1, 0, 1, 0, 0, 1, 0, 0, 1, 1])) 93 (opsOf (pl Go.Proofs.Try.f9 [1, 0, 1, 1, 0, 1, 0, 0, 1, 0, 0, 1, 1])) (Still W410 [.slice A5_4 x5_4.length c5_4, .slice A6_4 x6_4.length c6_4, .slice A3_4 x3_4.length c3_4]) 8 [0, 1, 4, 5, 8, 9, 10, 2, 6] [(2, .slice none 0 0), (3, .slice A3_4 x3_4.length c3_4), (5, .slice A5_4 x5_4.length c5_4), (6, .slice A6_4 x6_4.length c6_4), (7, .slice A7_4 x7_4.length c7_4), (8, .int .u32 t337.1), (10, .int .u32 t346.1), (46, .slice A5_4 x5_4.length c5_4), (47, .int .u32 t337.1), (48, .slice (some ⟨g356, 0, none⟩) 1 1), (50, .slice A6_4 x6_4.length c6_4), (51, .int .u32 t346.1), (52, .slice (some ⟨g368, 0, none⟩) 1 1), (54, .slice A3_4 x3_4.length c3_4), (55, .slice A7_4 x7_4.length c7_4), (56, .slice A351 (((x7_4.take (8 : Int).toNat).drop (0 : Int).toNat).length) c353)] W410 := by
                            intro g356 g368 W410 hS hM 
                            have h_ := of_decide_eq_true c383
                            obtain ⟨A411, n412, c413, W414, hD, hM', hS_⟩ := app_doesW (P := Go.Proofs.Try.prog) (n := 93) (k := (one (opsOf (pl Go.Proofs.Try.f9 [1, 0, 1, 1, 0, 1, 0, 0, 1, 0, 0, 1, 1])) 3)) (L := [(2, .slice none 0 0), (3, .slice A3_4 x3_4.length c3_4), (5, .slice A5_4 x5_4.length c5_4), (6, .slice A6_4 x6_4.length c6_4), (7, .slice A7_4 x7_4.length c7_4), (8, .int .u32 t337.1), (10, .int .u32 t346.1), (46, .slice A5_4 x5_4.length c5_4), (47, .int .u32 t337.1), (48, .slice (some ⟨g356, 0, none⟩) 1 1), (50, .slice A6_4 x6_4.length c6_4), (51, .int .u32 t346.1), (52, .slice (some ⟨g368, 0, none⟩) 1 1), (54, .slice A3_4 x3_4.length c3_4), (55, .slice A7_4 x7_4.length c7_4), (56, .slice A351 (((x7_4.take (8 : Int).toNat).drop (0 : Int).toNat).length) c353)]) (d := some 49) (e := 37) (A := A5_4) (m := x5_4.length) (c := c5_4) (A2 := (some ⟨g356, 0, none⟩)) (m2 := 1) (c2 := 1) (cs := nums .u32 x5_4) (ys := nums .u32 ([t337.1] : List Int)) (k2 := [.inRegion (opsOf (pl Go.Proofs.Try.f9 [1, 0, 1, 1, 0, 1, 0, 0, 1, 0, 0, 1, 1])) []]) [⟨.slice (some ⟨g356, 0, none⟩) 1 1, 37, 1, nums .u32 [t337.1]⟩, ⟨.slice (some ⟨g368, 0, none⟩) 1 1, 37, 1, nums .u32 [t346.1]⟩, ⟨.slice A3_4 x3_4.length c3_4, 37, 1, nums .u32 x3_4⟩] [⟨.slice A6_4 x6_4.length c6_4, 37, 1, nums .u32 x6_4⟩] (by kernel_rfl) (hM.pick [0, 1, 2, 3, 4] rfl rfl) (hM.rd 0 rfl) (one_nums _ _) (by omega) (by kernel_rfl)
                            rw [nums_append] at hM'
                            replace hM := hM'; clear h_ hM'
                            obtain rfl : (x5_4 ++ ([t337.1] : List Int)).length = n412 := by have h_ := (hM.rd 3 rfl).1; simpa only [nums_length, bools_length, strs_length] using h_
                            refine RunAny.does 3 (by kernel_rfl) hD (hS.app hS_ (by simp)) ?_
                            clear hD
                            replace hS := (hS.app hS_ (by simp)); clear hS_
                            refine RunAny.rebase hS ?_
                            replace hS := Still.refl W414 [.slice A5_4 x5_4.length c5_4, .slice A6_4 x6_4.length c6_4, .slice A3_4 x3_4.length c3_4]
                            exact RunAny.same [0, 1, 4, 5, 8, 9, 10, 2, 3, 6] (by kernel_rfl) [2, 3, 5, 6, 7, 8, 10, 46, 47, 48, 49, 50, 51, 52, 54, 55, 56] (by kernel_rfl) (J384 g356 A411 c413 g368 _ hS (hM.pick [0, 3, 1, 2, 4] rfl rfl))
                          have J417 : ∀ (g356 : Nat) (A362 : Option Addr) (c364 : Nat) (W418 : World) (hS : Still W418 [.slice A5_4 x5_4.length c5_4, .slice A6_4 x6_4.length c6_4, .slice A3_4 x3_4.length c3_4] W418) (hM : Mem w W418 [⟨.slice (some ⟨g356, 0, none⟩) 1 1, 37, 1, nums .u32 [t337.1]⟩, ⟨.slice A362 ((x5_4 ++ ([t337.1] : List Int)).length) c364, 37, 1, nums .u32 (x5_4 ++ ([t337.1] : List Int))⟩, ⟨.slice A3_4 x3_4.length c3_4, 37, 1, nums .u32 x3_4⟩, ⟨.slice A6_4 x6_4.length c6_4, 37, 1, nums .u32 x6_4⟩]) , RunAny Go.Proofs.Try.prog (Ret fun v w' => ∃ A0' n0' c0', ∃ A1' n1' c1', v = .tuple #[.slice A0' n0' c0', .slice A1' n1' c1', .int .i64 r.2.2] ∧ Mem w w' [⟨.slice A0' n0' c0', 37, 1, nums .u32 r.1⟩, ⟨.slice A1' n1' c1', 37, 1, nums .u32 r.2.1⟩]) 9 (rest1 (pl Go.Proofs.Try.f9 [1, 0, 1, 1, 0, 1, 0, 0, 1, 0, 0, 1, 1])) 93 (opsOf (pl Go.Proofs.Try.f9 [1, 0, 1, 1, 0, 1, 0, 0, 1, 0, 0, 1, 1])) (Still W418 [.slice A5_4 x5_4.length c5_4, .slice A6_4 x6_4.length c6_4, .slice A3_4 x3_4.length c3_4]) 8 [0, 1, 4, 5, 8, 9, 10, 2, 3] [(2, .slice none 0 0), (3, .slice A3_4 x3_4.length c3_4), (5, .slice A5_4 x5_4.length c5_4), (6, .slice A6_4 x6_4.length c6_4), (7, .slice A7_4 x7_4.length c7_4), (8, .int .u32 t337.1), (10, .int .u32 t346.1), (46, .slice A5_4 x5_4.length c5_4), (47, .int .u32 t337.1), (48, .slice (some ⟨g356, 0, none⟩) 1 1), (49, .slice A362 ((x5_4 ++ ([t337.1] : List Int)).length) c364), (50, .slice A6_4 x6_4.length c6_4), (51, .int .u32 t346.1), (54, .slice A3_4 x3_4.length c3_4), (55, .slice A7_4 x7_4.length c7_4), (56, .slice A351 (((x7_4.take (8 : Int).toNat).drop (0 : Int).toNat).length) c353)] W418 := by
                            intro g356 A362 c364 W418 hS hM 
                            refine RunAny.new 6 37 1 1 (nums .u32 [t346.1]) (d := some 52) (k2 := [.inRegion (opsOf (pl Go.Proofs.Try.f9 [1, 0, 1, 1, 0, 1, 0, 0, 1, 0, 0, 1, 1])) []]) (by kernel_rfl) hM (by simp [nums, bools, strs]) (by kernel_rfl) (by kernel_rfl) hS ?_
                            intro g419 W420 hS hM
                            refine RunAny.rebase hS ?_
                            replace hS := Still.refl W420 [.slice A5_4 x5_4.length c5_4, .slice A6_4 x6_4.length c6_4, .slice A3_4 x3_4.length c3_4]
                            exact RunAny.same [0, 1, 4, 5, 8, 9, 10, 2, 3, 6] (by kernel_rfl) [2, 3, 5, 6, 7, 8, 10, 46, 47, 48, 49, 50, 51, 52, 54, 55, 56] (by kernel_rfl) (J384 g356 A362 c364 g419 _ hS (hM.pick [1, 2, 0, 3, 4] rfl rfl))
                          have J422 : ∀ (g359 : Nat) (W423 : World) (hS : Still W423 [.slice A5_4 x5_4.length c5_4, .slice A6_4 x6_4.length c6_4, .slice A3_4 x3_4.length c3_4] W423) (hM : Mem w W423 [⟨.slice (some ⟨g359, 0, none⟩) 1 1, 37, 1, nums .u32 [t346.1]⟩, ⟨.slice A3_4 x3_4.length c3_4, 37, 1, nums .u32 x3_4⟩, ⟨.slice A5_4 x5_4.length c5_4, 37, 1, nums .u32 x5_4⟩, ⟨.slice A6_4 x6_4.length c6_4, 37, 1, nums .u32 x6_4⟩]) , RunAny Go.Proofs.Try.prog (Ret fun v w' => ∃ A0' n0' c0', ∃ A1' n1' c1', v = .tuple #[.slice A0' n0' c0', .slice A1' n1' c1', .int .i64 r.2.2] ∧ Mem w w' [⟨.slice A0' n0' c0', 37, 1, nums .u32 r.1⟩, ⟨.slice A1' n1' c1', 37, 1, nums .u32 r.2.1⟩]) 9 (rest1 (pl Go.Proofs.Try.f9 [1, 0, 1, 1, 0, 1, 0, 0, 1, 0, 0, 1, 1])) 93 (opsOf (pl Go.Proofs.Try.f9 [1, 0, 1, 1, 0, 1, 0, 0, 1, 0, 0, 1, 1])) (Still W423 [.slice A5_4 x5_4.length c5_4, .slice A6_4 x6_4.length c6_4, .slice A3_4 x3_4.length c3_4]) 9 [0, 1, 4, 5, 8, 9, 10, 6] [(2, .slice none 0 0), (3, .slice A3_4 x3_4.length c3_4), (5, .slice A5_4 x5_4.length c5_4), (6, .slice A6_4 x6_4.length c6_4), (7, .slice A7_4 x7_4.length c7_4), (8, .int .u32 t337.1), (10, .int .u32 t346.1), (46, .slice A5_4 x5_4.length c5_4), (47, .int .u32 t337.1), (50, .slice A6_4 x6_4.length c6_4), (51, .int .u32 t346.1), (52, .slice (some ⟨g359, 0, none⟩) 1 1), (54, .slice A3_4 x3_4.length c3_4), (55, .slice A7_4 x7_4.length c7_4), (56, .slice A351 (((x7_4.take (8 : Int).toNat).drop (0 : Int).toNat).length) c353)] W423 := by
                            intro g359 W423 hS hM 
                            refine RunAny.new 2 37 1 1 (nums .u32 [t337.1]) (d := some 48) (k2 := [.inRegion (opsOf (pl Go.Proofs.Try.f9 [1, 0, 1, 1, 0, 1, 0, 0, 1, 0, 0, 1, 1])) []]) (by kernel_rfl) hM (by simp [nums, bools, strs]) (by kernel_rfl) (by kernel_rfl) hS ?_
                            intro g424 W425 hS hM
                            refine RunAny.rebase hS ?_
                            replace hS := Still.refl W425 [.slice A5_4 x5_4.length c5_4, .slice A6_4 x6_4.length c6_4, .slice A3_4 x3_4.length c3_4]
                            exact RunAny.same [0, 1, 4, 5, 8, 9, 10, 2, 6] (by kernel_rfl) [2, 3, 5, 6, 7, 8, 10, 46, 47, 48, 50, 51, 52, 54, 55, 56] (by kernel_rfl) (J409 g424 g359 _ hS (hM.pick [0, 1, 2, 3, 4] rfl rfl))
                          have J427 : ∀ (g356 : Nat) (W428 : World) (hS : Still W428 [.slice A5_4 x5_4.length c5_4, .slice A6_4 x6_4.length c6_4, .slice A3_4 x3_4.length c3_4] W428) (hM : Mem w W428 [⟨.slice (some ⟨g356, 0, none⟩) 1 1, 37, 1, nums .u32 [t337.1]⟩, ⟨.slice A3_4 x3_4.length c3_4, 37, 1, nums .u32 x3_4⟩, ⟨.slice A5_4 x5_4.length c5_4, 37, 1, nums .u32 x5_4⟩, ⟨.slice A6_4 x6_4.length c6_4, 37, 1, nums .u32 x6_4⟩]) , RunAny Go.Proofs.Try.prog (Ret fun v w' => ∃ A0' n0' c0', ∃ A1' n1' c1', v = .tuple #[.slice A0' n0' c0', .slice A1' n1' c1', .int .i64 r.2.2] ∧ Mem w w' [⟨.slice A0' n0' c0', 37, 1, nums .u32 r.1⟩, ⟨.slice A1' n1' c1', 37, 1, nums .u32 r.2.1⟩]) 9 (rest1 (pl Go.Proofs.Try.f9 [1, 0, 1, 1, 0, 1, 0, 0, 1, 0, 0, 1, 1])) 93 (opsOf (pl Go.Proofs.Try.f9 [1, 0, 1, 1, 0, 1, 0, 0, 1, 0, 0, 1, 1])) (Still W428 [.slice A5_4 x5_4.length c5_4, .slice A6_4 x6_4.length c6_4, .slice A3_4 x3_4.length c3_4]) 9 [0, 1, 4, 5, 8, 9, 10, 2] [(2, .slice none 0 0), (3, .slice A3_4 x3_4.length c3_4), (5, .slice A5_4 x5_4.length c5_4), (6, .slice A6_4 x6_4.length c6_4), (7, .slice A7_4 x7_4.length c7_4), (8, .int .u32 t337.1), (10, .int .u32 t346.1), (46, .slice A5_4 x5_4.length c5_4), (47, .int .u32 t337.1), (48, .slice (some ⟨g356, 0, none⟩) 1 1), (50, .slice A6_4 x6_4.length c6_4), (51, .int .u32 t346.1), (54, .slice A3_4 x3_4.length c3_4), (55, .slice A7_4 x7_4.length c7_4), (56, .slice A351 (((x7_4.take (8 : Int).toNat).drop (0 : Int).toNat).length) c353)] W428 := by
                            intro g356 W428 hS hM 
                            refine RunAny.all [3, 6] (by kernel_rfl) (by simp) ?_
                            refine ⟨?_, ?_, trivial⟩
                            · have h_ := of_decide_eq_true c383
                              obtain ⟨A429, n430, c431, W432, hD, hM', hS_⟩ := app_doesW (P := Go.Proofs.Try.prog) (n := 93) (k := (one (opsOf (pl Go.Proofs.Try.f9 [1, 0, 1, 1, 0, 1, 0, 0, 1, 0, 0, 1, 1])) 3)) (L := [(2, .slice none 0 0), (3, .slice A3_4 x3_4.length c3_4), (5, .slice A5_4 x5_4.length c5_4), (6, .slice A6_4 x6_4.length c6_4), (7, .slice A7_4 x7_4.length c7_4), (8, .int .u32 t337.1), (10, .int .u32 t346.1), (46, .slice A5_4 x5_4.length c5_4), (47, .int .u32 t337.1), (48, .slice (some ⟨g356, 0, none⟩) 1 1), (50, .slice A6_4 x6_4.length c6_4), (51, .int .u32 t346.1), (54, .slice A3_4 x3_4.length c3_4), (55, .slice A7_4 x7_4.length c7_4), (56, .slice A351 (((x7_4.take (8 : Int).toNat).drop (0 : Int).toNat).length) c353)]) (d := some 49) (e := 37) (A := A5_4) (m := x5_4.length) (c := c5_4) (A2 := (some ⟨g356, 0, none⟩)) (m2 := 1) (c2 := 1) (cs := nums .u32 x5_4) (ys := nums .u32 ([t337.1] : List Int)) (k2 := [.inRegion (opsOf (pl Go.Proofs.Try.f9 [1, 0, 1, 1, 0, 1, 0, 0, 1, 0, 0, 1, 1])) []]) [⟨.slice (some ⟨g356, 0, none⟩) 1 1, 37, 1, nums .u32 [t337.1]⟩, ⟨.slice A3_4 x3_4.length c3_4, 37, 1, nums .u32 x3_4⟩] [⟨.slice A6_4 x6_4.length c6_4, 37, 1, nums .u32 x6_4⟩] (by kernel_rfl) (hM.pick [0, 1, 2, 3] rfl rfl) (hM.rd 0 rfl) (one_nums _ _) (by omega) (by kernel_rfl)
                              rw [nums_append] at hM'
                              replace hM := hM'; clear h_ hM'
                              obtain rfl : (x5_4 ++ ([t337.1] : List Int)).length = n430 := by have h_ := (hM.rd 2 rfl).1; simpa only [nums_length, bools_length, strs_length] using h_
                              refine Stepped.does 3 hD (hS.app hS_ (by simp)) ?_
                              clear hD
                              replace hS := (hS.app hS_ (by simp)); clear hS_
                              refine RunAny.rebase hS ?_
                              replace hS := Still.refl W432 [.slice A5_4 x5_4.length c5_4, .slice A6_4 x6_4.length c6_4, .slice A3_4 x3_4.length c3_4]
                              exact RunAny.same [0, 1, 4, 5, 8, 9, 10, 2, 3] (by kernel_rfl) [2, 3, 5, 6, 7, 8, 10, 46, 47, 48, 49, 50, 51, 54, 55, 56] (by kernel_rfl) (J417 g356 A429 c431 _ hS (hM.pick [0, 2, 1, 3] rfl rfl))
                            · refine Stepped.new 6 37 1 1 (nums .u32 [t346.1]) (d := some 52) (k2 := [.inRegion (opsOf (pl Go.Proofs.Try.f9 [1, 0, 1, 1, 0, 1, 0, 0, 1, 0, 0, 1, 1])) []]) hM (by simp [nums, bools, strs]) (by kernel_rfl) (by kernel_rfl) hS ?_
                              intro g435 W436 hS hM
                              refine RunAny.rebase hS ?_
                              replace hS := Still.refl W436 [.slice A5_4 x5_4.length c5_4, .slice A6_4 x6_4.length c6_4, .slice A3_4 x3_4.length c3_4]
                              exact RunAny.same [0, 1, 4, 5, 8, 9, 10, 2, 6] (by kernel_rfl) [2, 3, 5, 6, 7, 8, 10, 46, 47, 48, 50, 51, 52, 54, 55, 56] (by kernel_rfl) (J409 g356 g435 _ hS (hM.pick [1, 0, 2, 3, 4] rfl rfl))
                          refine RunAny.all [2, 6] (by kernel_rfl) (by simp) ?_
                          refine ⟨?_, ?_, trivial⟩
                          · refine Stepped.new 2 37 1 1 (nums .u32 [t337.1]) (d := some 48) (k2 := [.inRegion (opsOf (pl Go.Proofs.Try.f9 [1, 0, 1, 1, 0, 1, 0, 0, 1, 0, 0, 1, 1])) []]) hM (by simp [nums, bools, strs]) (by kernel_rfl) (by kernel_rfl) hS ?_
                            intro g438 W439 hS hM
                            refine RunAny.rebase hS ?_
                            replace hS := Still.refl W439 [.slice A5_4 x5_4.length c5_4, .slice A6_4 x6_4.length c6_4, .slice A3_4 x3_4.length c3_4]
                            exact RunAny.same [0, 1, 4, 5, 8, 9, 10, 2] (by kernel_rfl) [2, 3, 5, 6, 7, 8, 10, 46, 47, 48, 50, 51, 54, 55, 56] (by kernel_rfl) (J427 g438 _ hS (hM.pick [0, 1, 2, 3] rfl rfl))
                          · refine Stepped.new 6 37 1 1 (nums .u32 [t346.1]) (d := some 52) (k2 := [.inRegion (opsOf (pl Go.Proofs.Try.f9 [1, 0, 1, 1, 0, 1, 0, 0, 1, 0, 0, 1, 1])) []]) hM (by simp [nums, bools, strs]) (by kernel_rfl) (by kernel_rfl) hS ?_
                            intro g441 W442 hS hM
                            refine RunAny.rebase hS ?_
                            replace hS := Still.refl W442 [.slice A5_4 x5_4.length c5_4, .slice A6_4 x6_4.length c6_4, .slice A3_4 x3_4.length c3_4]
                            exact RunAny.same [0, 1, 4, 5, 8, 9, 10, 6] (by kernel_rfl) [2, 3, 5, 6, 7, 8, 10, 46, 47, 50, 51, 52, 54, 55, 56] (by kernel_rfl) (J422 g441 _ hS (hM.pick [0, 1, 2, 3] rfl rfl))
                        · replace h := of_false h c383
                          cases h
                      · replace h := of_false h c350
                        cases h
                    · replace h := of_false h c349
                      cases h
                  · replace h := of_false h c339
                    cases h
                · replace h := of_false h c338
                  cases h
              · replace h := of_false h c330
                cases h
            · replace h := of_false h c329
              cases h
          · replace h := of_false h c328
            refine RunF.know 31 (b := false) (by kernel_rfl) c328 ?_
            refine RunF.go 5 [2, 3, 5, 6, 60] (k' := (pin Go.Proofs.Try.f9 [1, 0, 1, 1, 1, 0] 1)) (L' := [(2, .slice none 0 0), (3, .slice A3_4 x3_4.length c3_4), (5, .slice A5_4 x5_4.length c5_4), (6, .slice A6_4 x6_4.length c6_4), (60, .slice A3_4 x3_4.length c3_4)]) (w' := W) (by kernel_rfl) ?_
            obtain ⟨t445, ht445, h⟩ := Option.bind_eq_some_iff.mp h
            refine RunF.call (d := some 61) (g := 26) (args := #[.slice A3_4 x3_4.length c3_4]) (k2 := (pin Go.Proofs.Try.f9 [1, 0, 1, 1, 1, 0] 2)) (by kernel_rfl) (slices_Reverse_uint32_uint32.calls k A3_4 x3_4.length c3_4 x3_4 t445 _ w (Gs [⟨.slice A5_4 x5_4.length c5_4, 37, 1, nums .u32 x5_4⟩, ⟨.slice A6_4 x6_4.length c6_4, 37, 1, nums .u32 x6_4⟩] []) (Mem.pickF (hM.as (H' := Gs [⟨.slice A3_4 x3_4.length c3_4, 37, 1, nums .u32 x3_4⟩, ⟨.slice A5_4 x5_4.length c5_4, 37, 1, nums .u32 x5_4⟩, ⟨.slice A6_4 x6_4.length c6_4, 37, 1, nums .u32 x6_4⟩] []) rfl) [0, 1, 2] rfl rfl (by simp [Gs])) ht445) ?_
            rintro _ W444 ⟨rfl, hM_⟩
            replace hM : Mem w W444 [⟨.slice A3_4 x3_4.length c3_4, 37, 1, nums .u32 t445⟩, ⟨.slice A5_4 x5_4.length c5_4, 37, 1, nums .u32 x5_4⟩, ⟨.slice A6_4 x6_4.length c6_4, 37, 1, nums .u32 x6_4⟩] := hM_.as (by simp [Gs])
            clear hM_ ht445
            have hl_ : x3_4.length = t445.length := by have h_ := (hM.rd 0 rfl).1; simpa [nums_length, bools_length, strs_length] using h_.symm
            simp only [hl_] at hM ⊢
            clear hl_
            refine RunF.go 7 [2, 3, 5, 6, 12] (k' := (pl Go.Proofs.Try.f9 [1, 0, 1, 1, 1, 1, 1, 1])) (L' := [(2, .slice none 0 0), (3, .slice A3_4 t445.length c3_4), (5, .slice A5_4 x5_4.length c5_4), (6, .slice A6_4 x6_4.length c6_4), (12, .int .u32 0)]) (w' := W444) (by kernel_rfl) ?_
            replace hM := hM.nil 37
            have l5 : ∀ (k_ : Nat), k_ ≤ k → ∀ (A2_5 : Option Addr) (c2_5 : Nat) (x2_5 : List Int) (A3_5 : Option Addr) (c3_5 : Nat) (x3_5 : List Int) (x12_5 : Int) (W : World) (hM : Mem w W [⟨.slice A2_5 x2_5.length c2_5, 37, 1, nums .u32 x2_5⟩, ⟨.slice A3_5 x3_5.length c3_5, 37, 1, nums .u32 x3_5⟩, ⟨.slice A5_4 x5_4.length c5_4, 37, 1, nums .u32 x5_4⟩, ⟨.slice A6_4 x6_4.length c6_4, 37, 1, nums .u32 x6_4⟩]) (h : twofish_Keys.l5 k_ x5_4 x6_4 x2_5 x3_5 x12_5 = some r), RunF Go.Proofs.Try.prog (Ret fun v w' => ∃ A0' n0' c0', ∃ A1' n1' c1', v = .tuple #[.slice A0' n0' c0', .slice A1' n1' c1', .int .i64 r.2.2] ∧ Mem w w' [⟨.slice A0' n0' c0', 37, 1, nums .u32 r.1⟩, ⟨.slice A1' n1' c1', 37, 1, nums .u32 r.2.1⟩]) 9 (pl Go.Proofs.Try.f9 [1, 0, 1, 1, 1, 1, 1, 1]) 93 [(2, .slice A2_5 x2_5.length c2_5), (3, .slice A3_5 x3_5.length c3_5), (5, .slice A5_4 x5_4.length c5_4), (6, .slice A6_4 x6_4.length c6_4), (12, .int .u32 x12_5)] W := by
              intro k_
              induction k_ using Nat.strongRecOn with
              | _ k_ ih5 =>
                intro hk A2_5 c2_5 x2_5 A3_5 c3_5 x3_5 x12_5 W hM h
                cases k_ with
                | zero => exact absurd h (by simp [twofish_Keys.l5])
                | succ k =>
                  simp only [twofish_Keys.l5] at h
                  replace ih5 : ∀ m, m ≤ k → _ := fun m hm => ih5 m (by omega) (by omega)
                  replace ih4 : ∀ m, m ≤ k → _ := fun m hm => ih4 m (by omega)
                  refine RunF.go 6 [2, 3, 5, 6, 12, 64, 65] (k' := (pin Go.Proofs.Try.f9 [1, 0, 1, 1, 1, 1, 1, 1, 0] 4)) (L' := [(2, .slice A2_5 x2_5.length c2_5), (3, .slice A3_5 x3_5.length c3_5), (5, .slice A5_4 x5_4.length c5_4), (6, .slice A6_4 x6_4.length c6_4), (12, .int .u32 x12_5), (64, .int .u32 (U32 ((U32 (2 * x12_5)) * 16843009))), (65, .slice A5_4 x5_4.length c5_4)]) (w' := W) (by kernel_rfl) ?_
                  obtain ⟨t450, ht450, h⟩ := Option.bind_eq_some_iff.mp h
                  refine RunF.call (d := some 66) (g := 16) (args := #[.int .u32 (U32 ((U32 (2 * x12_5)) * 16843009)), .slice A5_4 x5_4.length c5_4]) (k2 := (pin Go.Proofs.Try.f9 [1, 0, 1, 1, 1, 1, 1, 1, 0] 5)) (by kernel_rfl) (twofish_H.calls k (U32 ((U32 (2 * x12_5)) * 16843009)) A5_4 x5_4.length c5_4 x5_4 t450 _ (hM.rd 2 rfl) ht450) ?_
                  rintro _ W449 ⟨rfl, hM_⟩
                  replace hM := hM.call hM_
                  clear hM_ ht450
                  refine RunF.go 9 [2, 3, 5, 6, 12, 13, 70, 71] (k' := (pin Go.Proofs.Try.f9 [1, 0, 1, 1, 1, 1, 1, 1, 1, 0] 5)) (L' := [(2, .slice A2_5 x2_5.length c2_5), (3, .slice A3_5 x3_5.length c3_5), (5, .slice A5_4 x5_4.length c5_4), (6, .slice A6_4 x6_4.length c6_4), (12, .int .u32 x12_5), (13, .int .u32 t450), (70, .int .u32 (U32 ((U32 ((U32 (2 * x12_5)) + 1)) * 16843009))), (71, .slice A6_4 x6_4.length c6_4)]) (w' := W449) (by kernel_rfl) ?_
                  obtain ⟨y451, hy, h⟩ := Option.bind_eq_some_iff.mp h
                  rw [show (U32 ((U32 ((U32 (2 * x12_5)) + 1)) * 16843009)) = y451 from Option.some.inj hy]
                  clear hy
                  obtain ⟨t453, ht453, h⟩ := Option.bind_eq_some_iff.mp h
                  refine RunF.call (d := some 72) (g := 16) (args := #[.int .u32 y451, .slice A6_4 x6_4.length c6_4]) (k2 := (pin Go.Proofs.Try.f9 [1, 0, 1, 1, 1, 1, 1, 1, 1, 0] 6)) (by kernel_rfl) (twofish_H.calls k y451 A6_4 x6_4.length c6_4 x6_4 t453 _ (hM.rd 3 rfl) ht453) ?_
                  rintro _ W452 ⟨rfl, hM_⟩
                  replace hM := hM.call hM_
                  clear hM_ ht453
                  obtain ⟨t455, ht455, h⟩ := Option.bind_eq_some_iff.mp h
                  refine RunF.call (d := some 73) (g := 27) (args := #[.int .u32 t453, .int .i64 8]) (k2 := (pin Go.Proofs.Try.f9 [1, 0, 1, 1, 1, 1, 1, 1, 1, 0] 7)) (by kernel_rfl) (words_Rol32.calls k t453 8 t455 _ ht455) ?_
                  rintro _ W454 ⟨rfl, hM_⟩
                  replace hM := hM.call hM_
                  clear hM_ ht455
                  refine RunF.go 12 [3, 5, 6, 12, 74, 77, 81] (k' := (pin Go.Proofs.Try.f9 [1, 0, 1, 1, 1, 1, 1, 1, 1, 1, 0] 8)) (L' := [(3, .slice A3_5 x3_5.length c3_5), (5, .slice A5_4 x5_4.length c5_4), (6, .slice A6_4 x6_4.length c6_4), (12, .int .u32 x12_5), (74, .slice A2_5 x2_5.length c2_5), (77, .int .u32 (U32 (t450 + t455))), (81, .int .u32 (U32 (t450 + (U32 (2 * t455)))))]) (w' := W454) (by kernel_rfl) ?_
                  obtain ⟨t457, ht457, h⟩ := Option.bind_eq_some_iff.mp h
                  refine RunF.call (d := some 82) (g := 27) (args := #[.int .u32 (U32 (t450 + (U32 (2 * t455)))), .int .i64 9]) (k2 := (pin Go.Proofs.Try.f9 [1, 0, 1, 1, 1, 1, 1, 1, 1, 1, 0] 9)) (by kernel_rfl) (words_Rol32.calls k (U32 (t450 + (U32 (2 * t455)))) 9 t457 _ ht457) ?_
                  rintro _ W456 ⟨rfl, hM_⟩
                  replace hM := hM.call hM_
                  clear hM_ ht457
                  refine RunF.new 37 1 2 (nums .u32 [U32 (t450 + t455), t457]) (d := some 83) (k2 := (pin Go.Proofs.Try.f9 [1, 0, 1, 1, 1, 1, 1, 1, 1, 1, 0] 10)) hM (by simp [nums, bools, strs]) (by kernel_rfl) (by kernel_rfl) ?_
                  replace hM := hM
                  intro g458 W459 hM
                  rcases two (decide (x2_5.length + ([U32 (t450 + t455), t457] : List Int).length ≤ 35184372088832)) with c465 | c465
                  · replace h := of_true h c465
                    have h_ := of_decide_eq_true c465
                    obtain ⟨A461, n462, c463, W464, hD, hM', hS_⟩ := app_doesW (P := Go.Proofs.Try.prog) (n := 93) (k := (pin Go.Proofs.Try.f9 [1, 0, 1, 1, 1, 1, 1, 1, 1, 1, 0] 10)) (L := (upd (upd [(3, .slice A3_5 x3_5.length c3_5), (5, .slice A5_4 x5_4.length c5_4), (6, .slice A6_4 x6_4.length c6_4), (12, .int .u32 x12_5), (74, .slice A2_5 x2_5.length c2_5), (77, .int .u32 (U32 (t450 + t455))), (81, .int .u32 (U32 (t450 + (U32 (2 * t455)))))] (some 82) (.int .u32 t457)) (some 83) (.slice (some ⟨g458, 0, none⟩) 2 2))) (d := some 84) (e := 37) (A := A2_5) (m := x2_5.length) (c := c2_5) (A2 := (some ⟨g458, 0, none⟩)) (m2 := 2) (c2 := 2) (cs := nums .u32 x2_5) (ys := nums .u32 ([U32 (t450 + t455), t457] : List Int)) (k2 := (pin Go.Proofs.Try.f9 [1, 0, 1, 1, 1, 1, 1, 1, 1, 1, 0] 11)) [⟨.slice (some ⟨g458, 0, none⟩) 2 2, 37, 1, nums .u32 [U32 (t450 + t455), t457]⟩] [⟨.slice A3_5 x3_5.length c3_5, 37, 1, nums .u32 x3_5⟩, ⟨.slice A5_4 x5_4.length c5_4, 37, 1, nums .u32 x5_4⟩, ⟨.slice A6_4 x6_4.length c6_4, 37, 1, nums .u32 x6_4⟩] (by kernel_rfl) (hM.pick [0, 1, 2, 3, 4] rfl rfl) (hM.rd 0 rfl) (one_nums _ _) (by omega) (by kernel_rfl)
                    rw [nums_append] at hM'
                    replace hM := hM'; clear h_ hM'
                    obtain rfl : (x2_5 ++ ([U32 (t450 + t455), t457] : List Int)).length = n462 := by have h_ := (hM.rd 1 rfl).1; simpa only [nums_length, bools_length, strs_length] using h_
                    refine RunF.does hD ?_
                    clear hD hS_
                    refine RunF.go 14 [2, 3, 5, 6, 12, 88] (k' := (pl Go.Proofs.Try.f9 [1, 0, 1, 1, 1, 1, 1, 1, 1, 1, 1, 0, 1, 1])) (L' := [(2, .slice A461 ((x2_5 ++ ([U32 (t450 + t455), t457] : List Int)).length) c463), (3, .slice A3_5 x3_5.length c3_5), (5, .slice A5_4 x5_4.length c5_4), (6, .slice A6_4 x6_4.length c6_4), (12, .int .u32 (U32 (x12_5 + 1))), (88, .bool (decide ((U32 (x12_5 + 1)) < 20)))]) (w' := W464) (by kernel_rfl) ?_
                    rcases two (decide ((U32 (x12_5 + 1)) < 20)) with c467 | c467
                    · replace h := of_true h c467
                      refine RunF.know 88 (b := true) (by kernel_rfl) c467 ?_
                      refine RunF.go 4 [2, 3, 5, 6, 12] (k' := (pl Go.Proofs.Try.f9 [1, 0, 1, 1, 1, 1, 1, 1])) (L' := [(2, .slice A461 ((x2_5 ++ ([U32 (t450 + t455), t457] : List Int)).length) c463), (3, .slice A3_5 x3_5.length c3_5), (5, .slice A5_4 x5_4.length c5_4), (6, .slice A6_4 x6_4.length c6_4), (12, .int .u32 (U32 (x12_5 + 1)))]) (w' := W464) (by kernel_rfl) ?_
                      exact ih5 k (by omega) A461 c463 (x2_5 ++ ([U32 (t450 + t455), t457] : List Int)) A3_5 c3_5 x3_5 (U32 (x12_5 + 1)) _ (hM.pick [1, 2, 3, 4] rfl rfl) h
                    · replace h := of_false h c467
                      refine RunF.know 88 (b := false) (by kernel_rfl) c467 ?_
                      refine RunF.go 5 [3, 89] (k' := (pin Go.Proofs.Try.f9 [1, 0, 1, 1, 1, 1, 1, 1, 1, 1, 1, 1, 0] 1)) (L' := [(3, .slice A3_5 x3_5.length c3_5), (89, .slice A461 ((x2_5 ++ ([U32 (t450 + t455), t457] : List Int)).length) c463)]) (w' := W464) (by kernel_rfl) ?_
                      obtain ⟨t469, ht469, h⟩ := Option.bind_eq_some_iff.mp h
                      refine RunF.call (d := some 90) (g := 28) (args := #[.slice A461 ((x2_5 ++ ([U32 (t450 + t455), t457] : List Int)).length) c463]) (k2 := (pin Go.Proofs.Try.f9 [1, 0, 1, 1, 1, 1, 1, 1, 1, 1, 1, 1, 0] 2)) (by kernel_rfl) (slices_Clone_uint32_uint32.calls k A461 ((x2_5 ++ ([U32 (t450 + t455), t457] : List Int)).length) c463 (x2_5 ++ ([U32 (t450 + t455), t457] : List Int)) t469 _ (hM.rd 1 rfl) ht469) ?_
                      rintro _ W468 ⟨A470, n471, c472, rfl, hM_⟩
                      obtain rfl : t469.length = n471 := by have h_ := (hM_.rd 0 rfl).1; simpa [nums_length, bools_length, strs_length] using h_
                      replace hM := hM.call hM_
                      clear hM_ ht469
                      refine RunF.go 1 [90, 91] (k' := (pin Go.Proofs.Try.f9 [1, 0, 1, 1, 1, 1, 1, 1, 1, 1, 1, 1, 0] 3)) (L' := [(90, .slice A470 t469.length c472), (91, .slice A3_5 x3_5.length c3_5)]) (w' := W468) (by kernel_rfl) ?_
                      obtain ⟨t475, ht475, h⟩ := Option.bind_eq_some_iff.mp h
                      refine RunF.call (d := some 92) (g := 28) (args := #[.slice A3_5 x3_5.length c3_5]) (k2 := (pin Go.Proofs.Try.f9 [1, 0, 1, 1, 1, 1, 1, 1, 1, 1, 1, 1, 0] 4)) (by kernel_rfl) (slices_Clone_uint32_uint32.calls k A3_5 x3_5.length c3_5 x3_5 t475 _ (hM.rd 3 rfl) ht475) ?_
                      rintro _ W474 ⟨A476, n477, c478, rfl, hM_⟩
                      obtain rfl : t475.length = n477 := by have h_ := (hM_.rd 0 rfl).1; simpa [nums_length, bools_length, strs_length] using h_
                      replace hM := hM.call hM_
                      clear hM_ ht475
                      refine RunF.go 4 [2, 3, 4] (k' := (pl Go.Proofs.Try.f9 [1, 0, 1, 1, 1, 1, 1, 1, 1, 1, 1, 1, 1])) (L' := [(2, .slice A470 t469.length c472), (3, .slice A476 t475.length c478), (4, .int .i64 0)]) (w' := W474) (by kernel_rfl) ?_
                      obtain rfl := Option.some.inj h
                      exact RunF.ret3 2 3 4 (.slice A470 t469.length c472) (.slice A476 t475.length c478) (.int .i64 0) (fn := Go.Proofs.Try.f9) Go.Proofs.Try.func9 (by kernel_rfl) (by kernel_rfl) (by kernel_rfl) (by kernel_rfl) (by kernel_rfl) ⟨_, rfl, A470, t469.length, c472, A476, t475.length, c478, rfl, (hM.pick [1, 0] rfl rfl)⟩
                  · replace h := of_false h c465
                    cases h
            exact l5 k (Nat.le_refl _) none 0 ([] : List Int) A3_4 c3_4 t445 0 _ (hM.pick [0, 1, 2, 3] rfl rfl) h
    exact l4 k (Nat.le_refl _) none 0 ([] : List Int) none 0 ([] : List Int) none 0 ([] : List Int) Ap0 cp0 a0 _ (hM.pick [2, 1, 0] rfl rfl) hr0 h

/-! ### scrim/twofish.New: function 18 -/
def twofish_New.f (k : Nat) (a0 : List Int) : Option (Option ((List Int) × (List Int)) × Int) := (twofish_Keys.f k a0).bind fun t2 => (if (t2.2.2 != 0) = true then (some (none, t2.2.2)) else (some ((some (t2.1, t2.2.1)), 0)))
set_option maxRecDepth 100000 in
theorem twofish_New.calls (k : Nat) (Ap0 : Option Addr) (np0 cp0 : Nat) (a0 : List Int) (r : Option ((List Int) × (List Int)) × Int) (w : World) (hr0 : Rd w (.slice Ap0 np0 cp0) (nums .u8 a0)) (h : twofish_New.f k a0 = some r) :
    Calls Go.Proofs.Try.prog 18 #[(.slice Ap0 np0 cp0)] w (Ret fun v w' => ∃ (v0' : Value) (F0' : List Ent), v = .tuple #[v0', .int .i64 r.2] ∧ (rOpt (rPtr Rs_twofish_Twofish)) (Oks F0') v0' r.1 ∧ Mem w w' (Gs [] [F0'])) := by
  obtain rfl : a0.length = np0 := by have h_ := hr0.1; simpa [nums_length, bools_length, strs_length] using h_
  unfold twofish_New.f at h
  refine calls_of [.slice Ap0 a0.length cp0] (fn := Go.Proofs.Try.f18) Go.Proofs.Try.func18 (by kernel_rfl) (by kernel_rfl) ?_
  have hM := Mem.refl w
  refine RunF.go 8 [8] (k' := (pin Go.Proofs.Try.f18 [1, 0] 1)) (L' := [(8, .slice Ap0 a0.length cp0)]) (w' := w) (by kernel_rfl) ?_
  obtain ⟨t2, ht2, h⟩ := Option.bind_eq_some_iff.mp h
  refine RunF.call (d := some 9) (g := 9) (args := #[.slice Ap0 a0.length cp0]) (k2 := (pin Go.Proofs.Try.f18 [1, 0] 2)) (by kernel_rfl) (twofish_Keys.calls k Ap0 a0.length cp0 a0 t2 _ (hr0.mono hM.below) ht2) ?_
  rintro _ W1 ⟨A3, n4, c5, A6, n7, c8, rfl, hM_⟩
  obtain rfl : t2.1.length = n4 := by have h_ := (hM_.rd 0 rfl).1; simpa [nums_length, bools_length, strs_length] using h_
  obtain rfl : t2.2.1.length = n7 := by have h_ := (hM_.rd 1 rfl).1; simpa [nums_length, bools_length, strs_length] using h_
  replace hM := hM.call hM_
  clear hM_ ht2
  refine RunF.go 14 [4, 5, 6, 14] (k' := (pl Go.Proofs.Try.f18 [1, 1, 0, 1])) (L' := [(4, .slice A3 t2.1.length c5), (5, .slice A6 t2.2.1.length c8), (6, .int .i64 t2.2.2), (14, .bool (t2.2.2 != 0))]) (w' := W1) (by kernel_rfl) ?_
  rcases two ((t2.2.2 != 0)) with c11 | c11
  · replace h := of_true h c11
    refine RunF.know 14 (b := true) (by kernel_rfl) c11 ?_
    refine RunF.go 7 [2, 3] (k' := (pl Go.Proofs.Try.f18 [1, 1, 0, 1, 0, 1])) (L' := [(2, .pointer none), (3, .int .i64 t2.2.2)]) (w' := W1) (by kernel_rfl) ?_
    obtain rfl := Option.some.inj h
    exact RunF.ret2 2 3 (.pointer none) (.int .i64 t2.2.2) (fn := Go.Proofs.Try.f18) Go.Proofs.Try.func18 (by kernel_rfl) (by kernel_rfl) (by kernel_rfl) (by kernel_rfl) ⟨_, rfl, .pointer none, ([] : List Ent), rfl, (.inl ⟨rfl, rfl⟩), (Mem.pickF (hM.as (H' := Gs [⟨.slice A3 t2.1.length c5, 37, 1, nums .u32 t2.1⟩, ⟨.slice A6 t2.2.1.length c8, 37, 1, nums .u32 t2.2.1⟩] []) rfl) [] rfl rfl (by simp [Gs]))⟩
  · replace h := of_false h c11
    refine RunF.know 14 (b := false) (by kernel_rfl) c11 ?_
    refine RunF.go 6 [16, 17] (k' := (pin Go.Proofs.Try.f18 [1, 1, 1, 0] 2)) (L' := [(16, .slice A3 t2.1.length c5), (17, .slice A6 t2.2.1.length c8)]) (w' := W1) (by kernel_rfl) ?_
    obtain ⟨Fq12, hfq12, hM⟩ := Mem.freezeS (H1 := []) (H2 := [⟨.slice A6 t2.2.1.length c8, 37, 1, nums .u32 t2.2.1⟩]) (Fs := []) (A := A3) (n := t2.1.length) (c := c5) (ty := 37) (cs := nums .u32 t2.1) (hM.as rfl)
    obtain ⟨Fq13, hfq13, hM⟩ := Mem.freezeS (H1 := []) (H2 := []) (Fs := [Fq12]) (A := A6) (n := t2.2.1.length) (c := c8) (ty := 37) (cs := nums .u32 t2.2.1) (hM.as rfl)
    refine RunF.go 1 [18] (k' := (pin Go.Proofs.Try.f18 [1, 1, 1, 0] 3)) (L' := [(18, .agg ([.slice A3 t2.1.length c5, .slice A6 t2.2.1.length c8]).toArray)]) (w' := W1) (by kernel_rfl) ?_
    refine RunF.newVar 78 ([.slice A3 t2.1.length c5, .slice A6 t2.2.1.length c8]) (d := some 19) (k2 := (pin Go.Proofs.Try.f18 [1, 1, 1, 0] 4)) hM (by kernel_rfl) ?_
    intro g14 W15 hM
    obtain ⟨Fq17, hfq17, hM⟩ := Mem.freezeP (H1 := []) (H2 := []) (Fs := [Fq13, Fq12]) (g := g14) (ty := 78) (cs := [.slice A3 t2.1.length c5, .slice A6 t2.2.1.length c8]) (hM.as rfl)
    have hs18 : rPtr Rs_twofish_Twofish (andZ (Oks Fq17) (andZ (Oks Fq12) (Oks Fq13))) (.pointer (some ⟨g14, 0, none⟩)) (t2.1, t2.2.1) := ⟨g14, _, rfl, hfq17.up (fun _ hz_ => hz_.1), _, _, rfl, ((up_nums .u32) _ _ _ _ (fun _ hz_ => hz_.2.1) (rnums_of hfq12 (Mem.oks (hM.as (H' := Gs [] [Fq17, Fq13, Fq12]) rfl) 2 rfl))), ((up_nums .u32) _ _ _ _ (fun _ hz_ => hz_.2.2) (rnums_of hfq13 (Mem.oks (hM.as (H' := Gs [] [Fq17, Fq13, Fq12]) rfl) 1 rfl)))⟩
    refine RunF.go 3 [2, 3] (k' := (pl Go.Proofs.Try.f18 [1, 1, 1, 1])) (L' := [(2, .pointer (some ⟨g14, 0, none⟩)), (3, .int .i64 0)]) (w' := W15) (by kernel_rfl) ?_
    obtain rfl := Option.some.inj h
    exact RunF.ret2 2 3 (.pointer (some ⟨g14, 0, none⟩)) (.int .i64 0) (fn := Go.Proofs.Try.f18) Go.Proofs.Try.func18 (by kernel_rfl) (by kernel_rfl) (by kernel_rfl) (by kernel_rfl) ⟨_, rfl, .pointer (some ⟨g14, 0, none⟩), (Fq17 ++ (Fq12 ++ Fq13)), rfl, (up_opt (up_ptr up_Rs_twofish_Twofish)) _ _ _ _ (fun _ (hz_ : Oks _ _) => (And.intro hz_.left (And.intro hz_.right.left hz_.right.right))) (.inr ⟨(t2.1, t2.2.1), rfl, hs18⟩), (Mem.pickF (hM.as (H' := Gs [] [Fq17, Fq13, Fq12]) rfl) [0, 2, 1] rfl rfl (by simp [Gs]))⟩

/-! ### (*scrim/twofish.Twofish).white: function 43 -/
def twofish_Twofish_white.l0 : Nat → ((List Int) × (List Int)) → Int → (List Int) → Int → Option (List Int)
  | 0, _, _, _, _ => none
  | k + 1, a0, a2, x4_0, x8_0 => if (decide (x8_0 < 4)) = true then (if (decide (0 ≤ x8_0)) = true then (if (decide (x8_0 < (4 : Int))) = true then (if (decide (0 ≤ (I64 (a2 + x8_0)))) = true then (if (decide ((I64 (a2 + x8_0)) < (a0.1.length : Int))) = true then (if (decide (0 ≤ x8_0)) = true then (if (decide (x8_0 < (4 : Int))) = true then (twofish_Twofish_white.l0 k a0 a2 (x4_0.set (x8_0 : Int).toNat (bxor .u32 (rd x4_0 x8_0) (rd a0.1 (I64 (a2 + x8_0))))) (I64 (x8_0 + 1))) else (none)) else (none)) else (none)) else (none)) else (none)) else (none)) else (some x4_0)
def twofish_Twofish_white.f (k : Nat) (a0 : ((List Int) × (List Int))) (a1 : List Int) (a2 : Int) : Option (List Int) := twofish_Twofish_white.l0 k a0 a2 a1 0
set_option maxRecDepth 100000 in
theorem twofish_Twofish_white.calls (k : Nat) (vp0 : Value) (Zp0 : Zp) (a0 : ((List Int) × (List Int))) (a1 : List Int) (a2 : Int) (r : List Int) (w : World) (hl1 : a1.length = 4) (hp0 : (rPtr Rs_twofish_Twofish) Zp0 vp0 a0) (hZp0 : ∀ W, Kept w W → Zp0 W) (h : twofish_Twofish_white.f k a0 a1 a2 = some r) :
    Calls Go.Proofs.Try.prog 43 #[vp0, .agg (nums .u32 a1).toArray, .int .i64 a2] w (Ret fun v w' => v = .agg (nums .u32 r).toArray ∧ r.length = 4 ∧ Mem w w' []) := by
  obtain ⟨gp0, _, rfl, hco1, _, _, rfl, ⟨Ao1_0, co1_0, rfl, ho1_0⟩, ⟨Ao1_1, co1_1, rfl, ho1_1⟩⟩ := id hp0
  unfold twofish_Twofish_white.f at h
  refine calls_of [.pointer (some ⟨gp0, 0, none⟩), .agg (nums .u32 a1).toArray, .int .i64 a2] (fn := Go.Proofs.Try.f43) Go.Proofs.Try.func43 (by kernel_rfl) (by kernel_rfl) ?_
  have hM := Mem.refl w
  refine RunF.go 2 [0, 1, 2] (k' := (pin Go.Proofs.Try.f43 [0] 0)) (L' := [(0, .pointer (some ⟨gp0, 0, none⟩)), (1, .agg (nums .u32 a1).toArray), (2, .int .i64 a2)]) (w' := w) (by kernel_rfl) ?_
  refine RunF.newVar 44 (nums .u32 a1) (d := some 4) (k2 := (pin Go.Proofs.Try.f43 [0] 1)) hM (by kernel_rfl) ?_
  intro g2 W3 hM
  refine RunF.newVar 44 (nums .u32 (List.replicate 4 (0 : Int))) (d := some 6) (k2 := (pin Go.Proofs.Try.f43 [0] 2)) hM (by kernel_rfl) ?_
  intro g5 W6 hM
  refine RunF.go 8 [0, 2, 4, 6, 8] (k' := (pl Go.Proofs.Try.f43 [1, 0, 1, 0, 0])) (L' := [(0, .pointer (some ⟨gp0, 0, none⟩)), (2, .int .i64 a2), (4, .pointer (some ⟨g2, 0, none⟩)), (6, .pointer (some ⟨g5, 0, none⟩)), (8, .int .i64 0)]) (w' := W6) (by kernel_rfl) ?_
  have l0 : ∀ (k_ : Nat), k_ ≤ k → ∀ (x4_0 : List Int) (x8_0 : Int) (W : World) (hM : Mem w W [⟨.pointer (some ⟨g2, 0, none⟩), 44, 0, nums .u32 x4_0⟩, ⟨.pointer (some ⟨g5, 0, none⟩), 44, 0, nums .u32 (List.replicate 4 (0 : Int))⟩]) (hlx4_0 : x4_0.length = 4) (h : twofish_Twofish_white.l0 k_ a0 a2 x4_0 x8_0 = some r), RunF Go.Proofs.Try.prog (Ret fun v w' => v = .agg (nums .u32 r).toArray ∧ r.length = 4 ∧ Mem w w' []) 43 (pl Go.Proofs.Try.f43 [1, 0, 1, 0, 0]) 27 [(0, .pointer (some ⟨gp0, 0, none⟩)), (2, .int .i64 a2), (4, .pointer (some ⟨g2, 0, none⟩)), (6, .pointer (some ⟨g5, 0, none⟩)), (8, .int .i64 x8_0)] W := by
    intro k_
    induction k_ using Nat.strongRecOn with
    | _ k_ ih0 =>
      intro hk x4_0 x8_0 W hM hlx4_0 h
      cases k_ with
      | zero => exact absurd h (by simp [twofish_Twofish_white.l0])
      | succ k =>
        simp only [twofish_Twofish_white.l0] at h
        replace ih0 : ∀ m, m ≤ k → _ := fun m hm => ih0 m (by omega) (by omega)
        refine RunF.go 5 [0, 2, 4, 6, 8, 9] (k' := (pl Go.Proofs.Try.f43 [1, 0, 1, 0, 0, 1, 0])) (L' := [(0, .pointer (some ⟨gp0, 0, none⟩)), (2, .int .i64 a2), (4, .pointer (some ⟨g2, 0, none⟩)), (6, .pointer (some ⟨g5, 0, none⟩)), (8, .int .i64 x8_0), (9, .bool (decide (x8_0 < 4)))]) (w' := W) (by kernel_rfl) ?_
        rcases two (decide (x8_0 < 4)) with c8 | c8
        · replace h := of_true h c8
          refine RunF.know 9 (b := true) (by kernel_rfl) c8 ?_
          refine RunF.go 9 [0, 2, 4, 6, 7, 8] (k' := (pl Go.Proofs.Try.f43 [1, 0, 1, 0, 0, 1, 1, 0, 0, 1])) (L' := [(0, .pointer (some ⟨gp0, 0, none⟩)), (2, .int .i64 a2), (4, .pointer (some ⟨g2, 0, none⟩)), (6, .pointer (some ⟨g5, 0, none⟩)), (7, .int .i64 x8_0), (8, .int .i64 x8_0)]) (w' := W) (by kernel_rfl) ?_
          refine RunF.draw (Still ({ W with drawn := W.drawn + 1 } : World) [.pointer (some ⟨g2, 0, none⟩)]) (by kernel_rfl) (by kernel_rfl) ?_
          have hMd10 := hM.drew
          have hS := Still.refl ({ W with drawn := W.drawn + 1 } : World) [.pointer (some ⟨g2, 0, none⟩)]
          generalize ({ W with drawn := W.drawn + 1 } : World) = W9 at hMd10 hS ⊢
          replace hM := hMd10
          refine RunAny.y 0 (by kernel_rfl) (yl_pure (d := some 11) (v := .int .i64 x8_0) (k2 := [.inRegion (opsOf (pl Go.Proofs.Try.f43 [1, 0, 1, 0, 0, 1, 1, 0, 0, 1])) []]) fun w => by kernel_rfl) (fun _ _ => trivial) hS ?_
          rcases two (decide (0 ≤ x8_0)) with c12 | c12
          · replace h := of_true h c12
            rcases two (decide (x8_0 < (4 : Int))) with c13 | c13
            · replace h := of_true h c13
              obtain ⟨hcq11, hfq11, hlq11⟩ := hM.arr_num 0 rfl (i := x8_0) (of_decide_eq_true c12) (N := 4) hlx4_0 (of_decide_eq_true c13)
              refine RunAny.y 1 (by kernel_rfl) (idxArr_own (d := some 12) (g := g2) (len := 4) (i := x8_0) (k2 := [.inRegion (opsOf (pl Go.Proofs.Try.f43 [1, 0, 1, 0, 0, 1, 1, 0, 0, 1])) []]) (by kernel_rfl) (of_decide_eq_true c12) (of_decide_eq_true c13)) (fun _ _ => trivial) hS ?_
              refine RunAny.y 3 (by kernel_rfl) (yl_pure (d := some 14) (v := .pointer (some ⟨gp0, 0, none⟩)) (k2 := [.inRegion (opsOf (pl Go.Proofs.Try.f43 [1, 0, 1, 0, 0, 1, 1, 0, 0, 1])) []]) fun w => by kernel_rfl) (fun _ _ => trivial) hS ?_
              refine RunAny.y 4 (by kernel_rfl) (yl_pure (d := some 15) (v := .pointer (some ⟨gp0, 0, none⟩)) (k2 := [.inRegion (opsOf (pl Go.Proofs.Try.f43 [1, 0, 1, 0, 0, 1, 1, 0, 0, 1])) []]) fun w => by kernel_rfl) (fun _ _ => trivial) hS ?_
              refine RunAny.y 5 (by kernel_rfl) (yl_pure (d := some 16) (v := .pointer (some ⟨gp0, 0, none⟩)) (k2 := [.inRegion (opsOf (pl Go.Proofs.Try.f43 [1, 0, 1, 0, 0, 1, 1, 0, 0, 1])) []]) fun w => by kernel_rfl) (fun _ _ => trivial) hS ?_
              refine RunAny.y 6 (by kernel_rfl) (ld_y (d := some 17) (p := ⟨gp0, 0, none⟩) (k2 := [.inRegion (opsOf (pl Go.Proofs.Try.f43 [1, 0, 1, 0, 0, 1, 1, 0, 0, 1])) []]) (.slice Ao1_0 a0.1.length co1_0) (by kernel_rfl)) (fun _ hs => hco1 _ (hZp0 _ (Mem.keptStill (hM.as (H' := Gs [⟨.pointer (some ⟨g2, 0, none⟩), 44, 0, nums .u32 x4_0⟩, ⟨.pointer (some ⟨g5, 0, none⟩), 44, 0, nums .u32 (List.replicate 4 (0 : Int))⟩] []) rfl) (Among.gs (H := [⟨.pointer (some ⟨g2, 0, none⟩), 44, 0, nums .u32 x4_0⟩, ⟨.pointer (some ⟨g5, 0, none⟩), 44, 0, nums .u32 (List.replicate 4 (0 : Int))⟩]) (by intro v_ hv_; simp only [List.mem_cons, List.not_mem_nil, or_false] at hv_; rcases hv_ with rfl <;> first | exact ⟨0, _, rfl, rfl⟩)) hs)) 0 _ rfl) hS ?_
              refine RunAny.y 7 (by kernel_rfl) (yl_pure (d := some 18) (v := .int .i64 a2) (k2 := [.inRegion (opsOf (pl Go.Proofs.Try.f43 [1, 0, 1, 0, 0, 1, 1, 0, 0, 1])) []]) fun w => by kernel_rfl) (fun _ _ => trivial) hS ?_
              refine RunAny.y 8 (by kernel_rfl) (yl_pure (d := some 19) (v := .int .i64 x8_0) (k2 := [.inRegion (opsOf (pl Go.Proofs.Try.f43 [1, 0, 1, 0, 0, 1, 1, 0, 0, 1])) []]) fun w => by kernel_rfl) (fun _ _ => trivial) hS ?_
              refine RunAny.y 9 (by kernel_rfl) (yl_pure (d := some 20) (v := .int .i64 (I64 (a2 + x8_0))) (k2 := [.inRegion (opsOf (pl Go.Proofs.Try.f43 [1, 0, 1, 0, 0, 1, 1, 0, 0, 1])) []]) fun w => by kernel_rfl) (fun _ _ => trivial) hS ?_
              rcases two (decide (0 ≤ (I64 (a2 + x8_0)))) with c15 | c15
              · replace h := of_true h c15
                rcases two (decide ((I64 (a2 + x8_0)) < (a0.1.length : Int))) with c16 | c16
                · replace h := of_true h c16
                  obtain ⟨q14, hAq14, hcq14⟩ := Rd.num (ho1_0 _ (hZp0 _ hM.kept)) (i := I64 (a2 + x8_0)) (of_decide_eq_true c15) (by have h_ := of_decide_eq_true c16; omega)
                  refine RunAny.y 10 (by kernel_rfl) (idx_y (d := some 21) (A := Ao1_0) (m := a0.1.length) (i := I64 (a2 + x8_0)) (k2 := [.inRegion (opsOf (pl Go.Proofs.Try.f43 [1, 0, 1, 0, 0, 1, 1, 0, 0, 1])) []]) (by kernel_rfl) (of_decide_eq_true c15) (by have h_ := of_decide_eq_true c16; omega) hAq14) (fun _ _ => trivial) hS ?_
                  refine RunAny.y 11 (by kernel_rfl) (ld_y (d := some 22) (p := (q14.add (I64 (a2 + x8_0) : Int).toNat)) (k2 := [.inRegion (opsOf (pl Go.Proofs.Try.f43 [1, 0, 1, 0, 0, 1, 1, 0, 0, 1])) []]) (.int .u32 (rd a0.1 (I64 (a2 + x8_0)))) (by kernel_rfl)) (fun _ hs => Rd.num_at (ho1_0 _ (hZp0 _ (Mem.keptStill (hM.as (H' := Gs [⟨.pointer (some ⟨g2, 0, none⟩), 44, 0, nums .u32 x4_0⟩, ⟨.pointer (some ⟨g5, 0, none⟩), 44, 0, nums .u32 (List.replicate 4 (0 : Int))⟩] []) rfl) (Among.gs (H := [⟨.pointer (some ⟨g2, 0, none⟩), 44, 0, nums .u32 x4_0⟩, ⟨.pointer (some ⟨g5, 0, none⟩), 44, 0, nums .u32 (List.replicate 4 (0 : Int))⟩]) (by intro v_ hv_; simp only [List.mem_cons, List.not_mem_nil, or_false] at hv_; rcases hv_ with rfl <;> first | exact ⟨0, _, rfl, rfl⟩)) hs))) hAq14 (of_decide_eq_true c15) (by have h_ := of_decide_eq_true c16; omega)) hS ?_
                  refine RunAny.does 2 (by kernel_rfl) ((ld_y (d := some 13) (p := ⟨g2, (x8_0 : Int).toNat, none⟩) (k2 := [.inRegion (opsOf (pl Go.Proofs.Try.f43 [1, 0, 1, 0, 0, 1, 1, 0, 0, 1])) []]) (.int .u32 (rd x4_0 x8_0)) (by kernel_rfl)).does hcq11) hS ?_
                  refine RunAny.y 12 (by kernel_rfl) (yl_pure (d := some 23) (v := .int .u32 (bxor .u32 (rd x4_0 x8_0) (rd a0.1 (I64 (a2 + x8_0))))) (k2 := [.inRegion (opsOf (pl Go.Proofs.Try.f43 [1, 0, 1, 0, 0, 1, 1, 0, 0, 1])) []]) fun w => by kernel_rfl) (fun _ _ => trivial) hS ?_
                  rcases two (decide (0 ≤ x8_0)) with c18 | c18
                  · replace h := of_true h c18
                    rcases two (decide (x8_0 < (4 : Int))) with c19 | c19
                    · replace h := of_true h c19
                      obtain ⟨hcq17, hfq17, hlq17⟩ := hM.arr_num 0 rfl (i := x8_0) (of_decide_eq_true c18) (N := 4) hlx4_0 (of_decide_eq_true c19)
                      refine RunAny.y 13 (by kernel_rfl) (idxArr_own (d := some 24) (g := g2) (len := 4) (i := x8_0) (k2 := [.inRegion (opsOf (pl Go.Proofs.Try.f43 [1, 0, 1, 0, 0, 1, 1, 0, 0, 1])) []]) (by kernel_rfl) (of_decide_eq_true c18) (of_decide_eq_true c19)) (fun _ _ => trivial) hS ?_
                      obtain ⟨hc_, hf_, hl_⟩ := hM.arr_num 0 rfl (i := x8_0) (of_decide_eq_true c18) (N := 4) hlx4_0 (of_decide_eq_true c19)
                      have hS' := hS.set (v := .pointer (some ⟨g2, 0, none⟩)) (g := g2) (i := (x8_0 : Int).toNat) (by simp) rfl (.int .u32 (bxor .u32 (rd x4_0 x8_0) (rd a0.1 (I64 (a2 + x8_0)))))
                      refine RunAny.doesU 14 (by kernel_rfl) (st_u (p := (⟨g2, (x8_0 : Int).toNat, none⟩ : Addr)) (v := .int .u32 (bxor .u32 (rd x4_0 x8_0) (rd a0.1 (I64 (a2 + x8_0))))) (k2 := [.inRegion (opsOf (pl Go.Proofs.Try.f43 [1, 0, 1, 0, 0, 1, 1, 0, 0, 1])) []]) (by kernel_rfl) hc_ hf_) hS' ?_
                      replace hM : Mem w (W9.setCell (⟨g2, (x8_0 : Int).toNat, none⟩ : Addr) (.int .u32 (bxor .u32 (rd x4_0 x8_0) (rd a0.1 (I64 (a2 + x8_0)))))) [⟨.pointer (some ⟨g2, 0, none⟩), 44, 0, nums .u32 (x4_0.set (x8_0 : Int).toNat (bxor .u32 (rd x4_0 x8_0) (rd a0.1 (I64 (a2 + x8_0)))))⟩, ⟨.pointer (some ⟨g5, 0, none⟩), 44, 0, nums .u32 (List.replicate 4 (0 : Int))⟩] := Mem.arr_put_num [] [⟨.pointer (some ⟨g5, 0, none⟩), 44, 0, nums .u32 (List.replicate 4 (0 : Int))⟩] (hM.pick [0, 1] rfl rfl) _ hl_ _
                      generalize W9.setCell (⟨g2, (x8_0 : Int).toNat, none⟩ : Addr) (.int .u32 (bxor .u32 (rd x4_0 x8_0) (rd a0.1 (I64 (a2 + x8_0))))) = W20 at hM hS' ⊢
                      clear hc_ hf_ hl_ hcq17 hfq17 hlq17
                      replace hS := hS'
                      refine RunAny.rebase hS ?_
                      replace hS := Still.refl W20 [.pointer (some ⟨g2, 0, none⟩)]
                      refine RunAny.done (by kernel_rfl) ?_
                      clear hS
                      refine RunF.go 6 [0, 2, 4, 6, 8] (k' := (pl Go.Proofs.Try.f43 [1, 0, 1, 0, 0])) (L' := [(0, .pointer (some ⟨gp0, 0, none⟩)), (2, .int .i64 a2), (4, .pointer (some ⟨g2, 0, none⟩)), (6, .pointer (some ⟨g5, 0, none⟩)), (8, .int .i64 (I64 (x8_0 + 1)))]) (w' := W20) (by kernel_rfl) ?_
                      exact ih0 k (by omega) (x4_0.set (x8_0 : Int).toNat (bxor .u32 (rd x4_0 x8_0) (rd a0.1 (I64 (a2 + x8_0))))) (I64 (x8_0 + 1)) _ (hM.pick [0, 1] rfl rfl) (List.length_set.trans hlx4_0) h
                    · replace h := of_false h c19
                      cases h
                  · replace h := of_false h c18
                    cases h
                · replace h := of_false h c16
                  cases h
              · replace h := of_false h c15
                cases h
            · replace h := of_false h c13
              cases h
          · replace h := of_false h c12
            cases h
        · replace h := of_false h c8
          refine RunF.know 9 (b := false) (by kernel_rfl) c8 ?_
          refine RunF.go 4 [4, 6] (k' := (pin Go.Proofs.Try.f43 [1, 1, 0] 0)) (L' := [(4, .pointer (some ⟨g2, 0, none⟩)), (6, .pointer (some ⟨g5, 0, none⟩))]) (w' := W) (by kernel_rfl) ?_
          refine RunF.y (ldv_y (d := some 26) (g := g2) (N := 4) (ty := 44) (k2 := (pin Go.Proofs.Try.f43 [1, 1, 0] 1)) (nums .u32 x4_0) (by kernel_rfl) (by simp only [nums_length, bools_length, strs_length]; exact hlx4_0)) (hM.block 0 rfl) ?_
          refine RunF.doesU (stv_u (N := 4) (cells := (nums .u32 x4_0).toArray) (old := (nums .u32 (List.replicate 4 (0 : Int))).toArray) (ty := 44) (k2 := (pin Go.Proofs.Try.f43 [1, 1, 0] 2)) (by kernel_rfl) (by rw [List.size_toArray]; simp only [nums_length, bools_length, strs_length]; exact hlx4_0) (hM.block 1 rfl) (by rw [List.size_toArray]; simp only [nums_length, bools_length, strs_length]; exact List.length_replicate) (all_nums _ _)) ?_
          replace hM : Mem w (W.setRow g5 (nums .u32 x4_0).toArray) [⟨.pointer (some ⟨g2, 0, none⟩), 44, 0, nums .u32 x4_0⟩, ⟨.pointer (some ⟨g5, 0, none⟩), 44, 0, nums .u32 x4_0⟩] := Mem.setAll [⟨.pointer (some ⟨g2, 0, none⟩), 44, 0, nums .u32 x4_0⟩] [] (hM.pick [0, 1] rfl rfl)
          generalize W.setRow g5 (nums .u32 x4_0).toArray = W21 at hM ⊢
          refine RunF.go 1 [6] (k' := (pl Go.Proofs.Try.f43 [1, 1, 1])) (L' := [(6, .pointer (some ⟨g5, 0, none⟩))]) (w' := W21) (by kernel_rfl) ?_
          obtain rfl := Option.some.inj h
          exact RunF.retc (t := 6) (ty := 44) (N := 4) (g := g5) (nums .u32 x4_0) (fn := Go.Proofs.Try.f43) Go.Proofs.Try.func43 (by kernel_rfl) (by kernel_rfl) (by kernel_rfl) (by kernel_rfl) (by simp only [nums_length, bools_length, strs_length]; exact hlx4_0) (hM.block 1 rfl) ⟨_, rfl, rfl, hlx4_0, (hM.pick [] rfl rfl)⟩
  exact l0 k (Nat.le_refl _) a1 0 _ (hM.pick [1, 0] rfl rfl) hl1 h

/-! ### (*scrim/twofish.Twofish).sums: function 44 -/
def twofish_Twofish_sums.f (k : Nat) (a0 : ((List Int) × (List Int))) (a1 : Int) (a2 : Int) (a3 : Int) : Option (Int × Int) := (twofish_H.f k a1 a0.2).bind fun t5 => ((words_Rol32.f k a2 8).bind fun t7 => ((twofish_H.f k t7 a0.2).bind fun t9 => (if (decide (0 ≤ (I64 ((I64 (2 * a3)) + 8)))) = true then (if (decide ((I64 ((I64 (2 * a3)) + 8)) < (a0.1.length : Int))) = true then (if (decide (0 ≤ (I64 ((I64 (2 * a3)) + 9)))) = true then (if (decide ((I64 ((I64 (2 * a3)) + 9)) < (a0.1.length : Int))) = true then (some (U32 ((U32 (t5 + t9)) + (rd a0.1 (I64 ((I64 (2 * a3)) + 8)))), U32 ((U32 (t5 + (U32 (2 * t9)))) + (rd a0.1 (I64 ((I64 (2 * a3)) + 9)))))) else (none)) else (none)) else (none)) else (none))))
set_option maxRecDepth 100000 in
theorem twofish_Twofish_sums.calls (k : Nat) (vp0 : Value) (Zp0 : Zp) (a0 : ((List Int) × (List Int))) (a1 : Int) (a2 : Int) (a3 : Int) (r : Int × Int) (w : World) (hp0 : (rPtr Rs_twofish_Twofish) Zp0 vp0 a0) (hZp0 : ∀ W, Kept w W → Zp0 W) (h : twofish_Twofish_sums.f k a0 a1 a2 a3 = some r) :
    Calls Go.Proofs.Try.prog 44 #[vp0, .int .u32 a1, .int .u32 a2, .int .i64 a3] w (Ret fun v w' => v = .tuple #[.int .u32 r.1, .int .u32 r.2] ∧ Mem w w' []) := by
  obtain ⟨gp0, _, rfl, hco1, _, _, rfl, ⟨Ao1_0, co1_0, rfl, ho1_0⟩, ⟨Ao1_1, co1_1, rfl, ho1_1⟩⟩ := id hp0
  unfold twofish_Twofish_sums.f at h
  refine calls_of [.pointer (some ⟨gp0, 0, none⟩), .int .u32 a1, .int .u32 a2, .int .i64 a3] (fn := Go.Proofs.Try.f44) Go.Proofs.Try.func44 (by kernel_rfl) (by kernel_rfl) ?_
  have hM := Mem.refl w
  refine RunF.go 6 [0, 1, 2, 3] (k' := (pl Go.Proofs.Try.f44 [1, 0])) (L' := [(0, .pointer (some ⟨gp0, 0, none⟩)), (1, .int .u32 a1), (2, .int .u32 a2), (3, .int .i64 a3)]) (w' := w) (by kernel_rfl) ?_
  refine RunF.draw (Still ({ w with drawn := w.drawn + 1 } : World) []) (by kernel_rfl) (by kernel_rfl) ?_
  have hMd3 := hM.drew
  have hS := Still.refl ({ w with drawn := w.drawn + 1 } : World) []
  generalize ({ w with drawn := w.drawn + 1 } : World) = W2 at hMd3 hS ⊢
  replace hM := hMd3
  refine RunAny.y 0 (by kernel_rfl) (yl_pure (d := some 12) (v := .int .u32 a1) (k2 := [.inRegion (opsOf (pl Go.Proofs.Try.f44 [1, 0])) []]) fun w => by kernel_rfl) (fun _ _ => trivial) hS ?_
  refine RunAny.y 1 (by kernel_rfl) (yl_pure (d := some 13) (v := .pointer (some ⟨gp0, 0, none⟩)) (k2 := [.inRegion (opsOf (pl Go.Proofs.Try.f44 [1, 0])) []]) fun w => by kernel_rfl) (fun _ _ => trivial) hS ?_
  refine RunAny.y 2 (by kernel_rfl) (yl_pure (d := some 14) (v := .pointer (some ⟨gp0, 0, none⟩)) (k2 := [.inRegion (opsOf (pl Go.Proofs.Try.f44 [1, 0])) []]) fun w => by kernel_rfl) (fun _ _ => trivial) hS ?_
  refine RunAny.y 3 (by kernel_rfl) (yl_pure (d := some 15) (v := .pointer (some ⟨gp0, 1, none⟩)) (k2 := [.inRegion (opsOf (pl Go.Proofs.Try.f44 [1, 0])) []]) fun w => by kernel_rfl) (fun _ _ => trivial) hS ?_
  refine RunAny.y 4 (by kernel_rfl) (ld_y (d := some 16) (p := ⟨gp0, 1, none⟩) (k2 := [.inRegion (opsOf (pl Go.Proofs.Try.f44 [1, 0])) []]) (.slice Ao1_1 a0.2.length co1_1) (by kernel_rfl)) (fun _ hs => hs.cell (hco1 _ (hZp0 _ hM.kept) 1 _ rfl) (by simp)) hS ?_
  refine RunAny.y 6 (by kernel_rfl) (yl_pure (d := some 18) (v := .int .u32 a2) (k2 := [.inRegion (opsOf (pl Go.Proofs.Try.f44 [1, 0])) []]) fun w => by kernel_rfl) (fun _ _ => trivial) hS ?_
  refine RunAny.y 8 (by kernel_rfl) (yl_pure (d := some 20) (v := .pointer (some ⟨gp0, 0, none⟩)) (k2 := [.inRegion (opsOf (pl Go.Proofs.Try.f44 [1, 0])) []]) fun w => by kernel_rfl) (fun _ _ => trivial) hS ?_
  refine RunAny.y 9 (by kernel_rfl) (yl_pure (d := some 21) (v := .pointer (some ⟨gp0, 0, none⟩)) (k2 := [.inRegion (opsOf (pl Go.Proofs.Try.f44 [1, 0])) []]) fun w => by kernel_rfl) (fun _ _ => trivial) hS ?_
  refine RunAny.y 10 (by kernel_rfl) (yl_pure (d := some 22) (v := .pointer (some ⟨gp0, 1, none⟩)) (k2 := [.inRegion (opsOf (pl Go.Proofs.Try.f44 [1, 0])) []]) fun w => by kernel_rfl) (fun _ _ => trivial) hS ?_
  refine RunAny.y 11 (by kernel_rfl) (ld_y (d := some 23) (p := ⟨gp0, 1, none⟩) (k2 := [.inRegion (opsOf (pl Go.Proofs.Try.f44 [1, 0])) []]) (.slice Ao1_1 a0.2.length co1_1) (by kernel_rfl)) (fun _ hs => hs.cell (hco1 _ (hZp0 _ hM.kept) 1 _ rfl) (by simp)) hS ?_
  obtain ⟨t5, ht5, h⟩ := Option.bind_eq_some_iff.mp h
  refine RunAny.call 5 (d := some 17) (g := 16) (args := #[.int .u32 a1, .slice Ao1_1 a0.2.length co1_1]) (by kernel_rfl) (by kernel_rfl) (twofish_H.calls k a1 Ao1_1 a0.2.length co1_1 a0.2 t5 _ (ho1_1 _ (hZp0 _ hM.kept)) ht5) (by rintro _ _ ⟨rfl, hM_⟩; exact hS.below hM_.below) ?_
  rintro _ W4 ⟨rfl, hM_⟩
  replace hS := hS.below hM_.below
  replace hM := hM.call hM_
  clear hM_ ht5
  refine RunAny.rebase hS ?_
  replace hS := Still.refl W4 []
  obtain ⟨t7, ht7, h⟩ := Option.bind_eq_some_iff.mp h
  refine RunAny.call 7 (d := some 19) (g := 27) (args := #[.int .u32 a2, .int .i64 8]) (by kernel_rfl) (by kernel_rfl) (words_Rol32.calls k a2 8 t7 _ ht7) (by rintro _ _ ⟨rfl, hM_⟩; exact hS.below hM_.below) ?_
  rintro _ W6 ⟨rfl, hM_⟩
  replace hS := hS.below hM_.below
  replace hM := hM.call hM_
  clear hM_ ht7
  refine RunAny.rebase hS ?_
  replace hS := Still.refl W6 []
  obtain ⟨t9, ht9, h⟩ := Option.bind_eq_some_iff.mp h
  refine RunAny.call 12 (d := some 24) (g := 16) (args := #[.int .u32 t7, .slice Ao1_1 a0.2.length co1_1]) (by kernel_rfl) (by kernel_rfl) (twofish_H.calls k t7 Ao1_1 a0.2.length co1_1 a0.2 t9 _ (ho1_1 _ (hZp0 _ hM.kept)) ht9) (by rintro _ _ ⟨rfl, hM_⟩; exact hS.below hM_.below) ?_
  rintro _ W8 ⟨rfl, hM_⟩
  replace hS := hS.below hM_.below
  replace hM := hM.call hM_
  clear hM_ ht9
  refine RunAny.rebase hS ?_
  replace hS := Still.refl W8 []
  refine RunAny.y 13 (by kernel_rfl) (yl_pure (d := some 10) (v := .int .u32 t5) (k2 := [.inRegion (opsOf (pl Go.Proofs.Try.f44 [1, 0])) []]) fun w => by kernel_rfl) (fun _ _ => trivial) hS ?_
  refine RunAny.y 14 (by kernel_rfl) (yl_pure (d := some 11) (v := .int .u32 t9) (k2 := [.inRegion (opsOf (pl Go.Proofs.Try.f44 [1, 0])) []]) fun w => by kernel_rfl) (fun _ _ => trivial) hS ?_
  refine RunAny.done (by kernel_rfl) ?_
  clear hS
  refine RunF.go 1 [0, 3, 10, 11] (k' := (pl Go.Proofs.Try.f44 [1, 1, 0])) (L' := [(0, .pointer (some ⟨gp0, 0, none⟩)), (3, .int .i64 a3), (10, .int .u32 t5), (11, .int .u32 t9)]) (w' := W8) (by kernel_rfl) ?_
  refine RunF.draw (Still ({ W8 with drawn := W8.drawn + 1 } : World) []) (by kernel_rfl) (by kernel_rfl) ?_
  have hMd11 := hM.drew
  have hS := Still.refl ({ W8 with drawn := W8.drawn + 1 } : World) []
  generalize ({ W8 with drawn := W8.drawn + 1 } : World) = W10 at hMd11 hS ⊢
  replace hM := hMd11
  refine RunAny.y 0 (by kernel_rfl) (yl_pure (d := some 25) (v := .int .u32 t5) (k2 := [.inRegion (opsOf (pl Go.Proofs.Try.f44 [1, 1, 0])) []]) fun w => by kernel_rfl) (fun _ _ => trivial) hS ?_
  refine RunAny.y 1 (by kernel_rfl) (yl_pure (d := some 26) (v := .int .u32 t9) (k2 := [.inRegion (opsOf (pl Go.Proofs.Try.f44 [1, 1, 0])) []]) fun w => by kernel_rfl) (fun _ _ => trivial) hS ?_
  refine RunAny.y 2 (by kernel_rfl) (yl_pure (d := some 27) (v := .int .u32 (U32 (t5 + t9))) (k2 := [.inRegion (opsOf (pl Go.Proofs.Try.f44 [1, 1, 0])) []]) fun w => by kernel_rfl) (fun _ _ => trivial) hS ?_
  refine RunAny.y 3 (by kernel_rfl) (yl_pure (d := some 28) (v := .pointer (some ⟨gp0, 0, none⟩)) (k2 := [.inRegion (opsOf (pl Go.Proofs.Try.f44 [1, 1, 0])) []]) fun w => by kernel_rfl) (fun _ _ => trivial) hS ?_
  refine RunAny.y 4 (by kernel_rfl) (yl_pure (d := some 29) (v := .pointer (some ⟨gp0, 0, none⟩)) (k2 := [.inRegion (opsOf (pl Go.Proofs.Try.f44 [1, 1, 0])) []]) fun w => by kernel_rfl) (fun _ _ => trivial) hS ?_
  refine RunAny.y 5 (by kernel_rfl) (yl_pure (d := some 30) (v := .pointer (some ⟨gp0, 0, none⟩)) (k2 := [.inRegion (opsOf (pl Go.Proofs.Try.f44 [1, 1, 0])) []]) fun w => by kernel_rfl) (fun _ _ => trivial) hS ?_
  refine RunAny.y 6 (by kernel_rfl) (ld_y (d := some 31) (p := ⟨gp0, 0, none⟩) (k2 := [.inRegion (opsOf (pl Go.Proofs.Try.f44 [1, 1, 0])) []]) (.slice Ao1_0 a0.1.length co1_0) (by kernel_rfl)) (fun _ hs => hs.cell (hco1 _ (hZp0 _ hM.kept) 0 _ rfl) (by simp)) hS ?_
  refine RunAny.y 7 (by kernel_rfl) (yl_pure (d := some 32) (v := .int .i64 a3) (k2 := [.inRegion (opsOf (pl Go.Proofs.Try.f44 [1, 1, 0])) []]) fun w => by kernel_rfl) (fun _ _ => trivial) hS ?_
  refine RunAny.y 8 (by kernel_rfl) (yl_pure (d := some 33) (v := .int .i64 (I64 (2 * a3))) (k2 := [.inRegion (opsOf (pl Go.Proofs.Try.f44 [1, 1, 0])) []]) fun w => by kernel_rfl) (fun _ _ => trivial) hS ?_
  refine RunAny.y 9 (by kernel_rfl) (yl_pure (d := some 34) (v := .int .i64 (I64 ((I64 (2 * a3)) + 8))) (k2 := [.inRegion (opsOf (pl Go.Proofs.Try.f44 [1, 1, 0])) []]) fun w => by kernel_rfl) (fun _ _ => trivial) hS ?_
  rcases two (decide (0 ≤ (I64 ((I64 (2 * a3)) + 8)))) with c13 | c13
  · replace h := of_true h c13
    rcases two (decide ((I64 ((I64 (2 * a3)) + 8)) < (a0.1.length : Int))) with c14 | c14
    · replace h := of_true h c14
      obtain ⟨q12, hAq12, hcq12⟩ := Rd.num (ho1_0 _ (hZp0 _ hM.kept)) (i := I64 ((I64 (2 * a3)) + 8)) (of_decide_eq_true c13) (by have h_ := of_decide_eq_true c14; omega)
      refine RunAny.y 10 (by kernel_rfl) (idx_y (d := some 35) (A := Ao1_0) (m := a0.1.length) (i := I64 ((I64 (2 * a3)) + 8)) (k2 := [.inRegion (opsOf (pl Go.Proofs.Try.f44 [1, 1, 0])) []]) (by kernel_rfl) (of_decide_eq_true c13) (by have h_ := of_decide_eq_true c14; omega) hAq12) (fun _ _ => trivial) hS ?_
      refine RunAny.y 11 (by kernel_rfl) (ld_y (d := some 36) (p := (q12.add (I64 ((I64 (2 * a3)) + 8) : Int).toNat)) (k2 := [.inRegion (opsOf (pl Go.Proofs.Try.f44 [1, 1, 0])) []]) (.int .u32 (rd a0.1 (I64 ((I64 (2 * a3)) + 8)))) (by kernel_rfl)) (fun _ hs => hs.cell hcq12 (by simp)) hS ?_
      refine RunAny.y 12 (by kernel_rfl) (yl_pure (d := some 37) (v := .int .u32 (U32 ((U32 (t5 + t9)) + (rd a0.1 (I64 ((I64 (2 * a3)) + 8)))))) (k2 := [.inRegion (opsOf (pl Go.Proofs.Try.f44 [1, 1, 0])) []]) fun w => by kernel_rfl) (fun _ _ => trivial) hS ?_
      refine RunAny.y 13 (by kernel_rfl) (yl_pure (d := some 38) (v := .int .u32 t5) (k2 := [.inRegion (opsOf (pl Go.Proofs.Try.f44 [1, 1, 0])) []]) fun w => by kernel_rfl) (fun _ _ => trivial) hS ?_
      refine RunAny.y 14 (by kernel_rfl) (yl_pure (d := some 39) (v := .int .u32 t9) (k2 := [.inRegion (opsOf (pl Go.Proofs.Try.f44 [1, 1, 0])) []]) fun w => by kernel_rfl) (fun _ _ => trivial) hS ?_
      refine RunAny.y 15 (by kernel_rfl) (yl_pure (d := some 40) (v := .int .u32 (U32 (2 * t9))) (k2 := [.inRegion (opsOf (pl Go.Proofs.Try.f44 [1, 1, 0])) []]) fun w => by kernel_rfl) (fun _ _ => trivial) hS ?_
      refine RunAny.y 16 (by kernel_rfl) (yl_pure (d := some 41) (v := .int .u32 (U32 (t5 + (U32 (2 * t9))))) (k2 := [.inRegion (opsOf (pl Go.Proofs.Try.f44 [1, 1, 0])) []]) fun w => by kernel_rfl) (fun _ _ => trivial) hS ?_
      refine RunAny.y 17 (by kernel_rfl) (yl_pure (d := some 42) (v := .pointer (some ⟨gp0, 0, none⟩)) (k2 := [.inRegion (opsOf (pl Go.Proofs.Try.f44 [1, 1, 0])) []]) fun w => by kernel_rfl) (fun _ _ => trivial) hS ?_
      refine RunAny.y 18 (by kernel_rfl) (yl_pure (d := some 43) (v := .pointer (some ⟨gp0, 0, none⟩)) (k2 := [.inRegion (opsOf (pl Go.Proofs.Try.f44 [1, 1, 0])) []]) fun w => by kernel_rfl) (fun _ _ => trivial) hS ?_
      refine RunAny.y 19 (by kernel_rfl) (yl_pure (d := some 44) (v := .pointer (some ⟨gp0, 0, none⟩)) (k2 := [.inRegion (opsOf (pl Go.Proofs.Try.f44 [1, 1, 0])) []]) fun w => by kernel_rfl) (fun _ _ => trivial) hS ?_
      refine RunAny.y 20 (by kernel_rfl) (ld_y (d := some 45) (p := ⟨gp0, 0, none⟩) (k2 := [.inRegion (opsOf (pl Go.Proofs.Try.f44 [1, 1, 0])) []]) (.slice Ao1_0 a0.1.length co1_0) (by kernel_rfl)) (fun _ hs => hs.cell (hco1 _ (hZp0 _ hM.kept) 0 _ rfl) (by simp)) hS ?_
      refine RunAny.y 21 (by kernel_rfl) (yl_pure (d := some 46) (v := .int .i64 a3) (k2 := [.inRegion (opsOf (pl Go.Proofs.Try.f44 [1, 1, 0])) []]) fun w => by kernel_rfl) (fun _ _ => trivial) hS ?_
      refine RunAny.y 22 (by kernel_rfl) (yl_pure (d := some 47) (v := .int .i64 (I64 (2 * a3))) (k2 := [.inRegion (opsOf (pl Go.Proofs.Try.f44 [1, 1, 0])) []]) fun w => by kernel_rfl) (fun _ _ => trivial) hS ?_
      refine RunAny.y 23 (by kernel_rfl) (yl_pure (d := some 48) (v := .int .i64 (I64 ((I64 (2 * a3)) + 9))) (k2 := [.inRegion (opsOf (pl Go.Proofs.Try.f44 [1, 1, 0])) []]) fun w => by kernel_rfl) (fun _ _ => trivial) hS ?_
      rcases two (decide (0 ≤ (I64 ((I64 (2 * a3)) + 9)))) with c16 | c16
      · replace h := of_true h c16
        rcases two (decide ((I64 ((I64 (2 * a3)) + 9)) < (a0.1.length : Int))) with c17 | c17
        · replace h := of_true h c17
          obtain ⟨q15, hAq15, hcq15⟩ := Rd.num (ho1_0 _ (hZp0 _ hM.kept)) (i := I64 ((I64 (2 * a3)) + 9)) (of_decide_eq_true c16) (by have h_ := of_decide_eq_true c17; omega)
          refine RunAny.y 24 (by kernel_rfl) (idx_y (d := some 49) (A := Ao1_0) (m := a0.1.length) (i := I64 ((I64 (2 * a3)) + 9)) (k2 := [.inRegion (opsOf (pl Go.Proofs.Try.f44 [1, 1, 0])) []]) (by kernel_rfl) (of_decide_eq_true c16) (by have h_ := of_decide_eq_true c17; omega) hAq15) (fun _ _ => trivial) hS ?_
          refine RunAny.y 25 (by kernel_rfl) (ld_y (d := some 50) (p := (q15.add (I64 ((I64 (2 * a3)) + 9) : Int).toNat)) (k2 := [.inRegion (opsOf (pl Go.Proofs.Try.f44 [1, 1, 0])) []]) (.int .u32 (rd a0.1 (I64 ((I64 (2 * a3)) + 9)))) (by kernel_rfl)) (fun _ hs => hs.cell hcq15 (by simp)) hS ?_
          refine RunAny.y 26 (by kernel_rfl) (yl_pure (d := some 51) (v := .int .u32 (U32 ((U32 (t5 + (U32 (2 * t9)))) + (rd a0.1 (I64 ((I64 (2 * a3)) + 9)))))) (k2 := [.inRegion (opsOf (pl Go.Proofs.Try.f44 [1, 1, 0])) []]) fun w => by kernel_rfl) (fun _ _ => trivial) hS ?_
          refine RunAny.y 27 (by kernel_rfl) (yl_pure (d := some 8) (v := .int .u32 (U32 ((U32 (t5 + t9)) + (rd a0.1 (I64 ((I64 (2 * a3)) + 8)))))) (k2 := [.inRegion (opsOf (pl Go.Proofs.Try.f44 [1, 1, 0])) []]) fun w => by kernel_rfl) (fun _ _ => trivial) hS ?_
          refine RunAny.y 28 (by kernel_rfl) (yl_pure (d := some 9) (v := .int .u32 (U32 ((U32 (t5 + (U32 (2 * t9)))) + (rd a0.1 (I64 ((I64 (2 * a3)) + 9)))))) (k2 := [.inRegion (opsOf (pl Go.Proofs.Try.f44 [1, 1, 0])) []]) fun w => by kernel_rfl) (fun _ _ => trivial) hS ?_
          refine RunAny.done (by kernel_rfl) ?_
          clear hS
          obtain rfl := Option.some.inj h
          exact RunF.ret2 8 9 (.int .u32 (U32 ((U32 (t5 + t9)) + (rd a0.1 (I64 ((I64 (2 * a3)) + 8)))))) (.int .u32 (U32 ((U32 (t5 + (U32 (2 * t9)))) + (rd a0.1 (I64 ((I64 (2 * a3)) + 9)))))) (fn := Go.Proofs.Try.f44) Go.Proofs.Try.func44 (by kernel_rfl) (by kernel_rfl) (by kernel_rfl) (by kernel_rfl) ⟨_, rfl, rfl, (hM.pick [] rfl rfl)⟩
        · replace h := of_false h c17
          cases h
      · replace h := of_false h c16
        cases h
    · replace h := of_false h c14
      cases h
  · replace h := of_false h c13
    cases h


end Go.Scr.S
