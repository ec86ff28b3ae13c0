/- The functions that the law TwofishH reaches, as plain functions, and that each call answers so. -/
import Derived.Test.YtngagagokcnnaaaProg
import Derived.Test.YtngagagokcnnaaaFnTwofishH1
set_option linter.unusedVariables false
set_option linter.unusedSimpArgs false
set_option linter.unnecessarySimpa false
namespace Go.Scr.S
open Go.RowKit (Below)
/-! ### (*scrim/twofish.Twofish).Block: function 22 -/
mutual
def twofish_Twofish_Block.l0 : Nat → ((List Int) × (List Int)) → (List Int) → Bool → (List Int) → Int → Option (List Int × Int)
  | 0, _, _, _, _, _ => none
  | k + 1, a0, a1, a2, x8_0, x22_0 => if (decide (x22_0 < 4)) = true then (if (decide (0 ≤ (I64 (4 * x22_0)))) = true then (if (decide ((I64 (4 * x22_0)) ≤ (I64 (4 * (I64 (x22_0 + 1)))))) = true then (if (decide ((I64 (4 * (I64 (x22_0 + 1)))) ≤ (a1.length : Int))) = true then ((words_Le32.f k ((a1.take (I64 (4 * (I64 (x22_0 + 1))) : Int).toNat).drop (I64 (4 * x22_0) : Int).toNat)).bind fun t17 => (if (decide (0 ≤ x22_0)) = true then (if (decide (x22_0 < (4 : Int))) = true then (twofish_Twofish_Block.l0 k a0 a1 a2 (x8_0.set (x22_0 : Int).toNat t17.1) (I64 (x22_0 + 1))) else (none)) else (none))) else (none)) else (none)) else (none)) else (if a2 = true then ((twofish_Twofish_white.f k a0 x8_0 4).bind fun t24 => (twofish_Twofish_Block.l1 k a0 t24 15)) else ((twofish_Twofish_white.f k a0 x8_0 0).bind fun t147 => (twofish_Twofish_Block.l3 k a0 t147 0)))
def twofish_Twofish_Block.l1 : Nat → ((List Int) × (List Int)) → (List Int) → Int → Option (List Int × Int)
  | 0, _, _, _ => none
  | k + 1, a0, x8_1, x10_1 => if (decide (x10_1 ≥ 0)) = true then ((twofish_Twofish_sums.f k a0 (rd x8_1 0) (rd x8_1 1) x10_1).bind fun t30 => ((words_Rol32.f k (rd x8_1 2) 1).bind fun t37 => ((words_Rol32.f k (bxor .u32 (rd x8_1 3) t30.2) (-1)).bind fun t45 => (twofish_Twofish_Block.l1 k a0 ([bxor .u32 t37 t30.1, t45, rd x8_1 0, rd x8_1 1] : List Int) (I64 (x10_1 - 1)))))) else ((twofish_Twofish_white.f k a0 ([rd x8_1 2, rd x8_1 3, rd x8_1 0, rd x8_1 1] : List Int) 0).bind fun t124 => (if (decide (0 ≤ 16)) = true then (twofish_Twofish_Block.l2 k t124 (List.replicate 0 (0 : Int)) 0) else (none)))
def twofish_Twofish_Block.l2 : Nat → (List Int) → (List Int) → Int → Option (List Int × Int)
  | 0, _, _, _ => none
  | k + 1, t124, x16_2, x129_2 => if (decide (x129_2 < 4)) = true then (if (decide (0 ≤ x129_2)) = true then (if (decide (x129_2 < (4 : Int))) = true then ((words_PutLe32.f k (rd t124 x129_2)).bind fun t135 => (if (decide (x16_2.length + t135.length ≤ 1000000000)) = true then (twofish_Twofish_Block.l2 k t124 (x16_2 ++ t135) (I64 (x129_2 + 1))) else (none))) else (none)) else (none)) else (some (x16_2, 0))
def twofish_Twofish_Block.l3 : Nat → ((List Int) × (List Int)) → (List Int) → Int → Option (List Int × Int)
  | 0, _, _, _ => none
  | k + 1, a0, x8_3, x87_3 => if (decide (x87_3 < 16)) = true then ((twofish_Twofish_sums.f k a0 (rd x8_3 0) (rd x8_3 1) x87_3).bind fun t153 => ((words_Rol32.f k (bxor .u32 (rd x8_3 2) t153.1) (-1)).bind fun t160 => ((words_Rol32.f k (rd x8_3 3) 1).bind fun t168 => (twofish_Twofish_Block.l3 k a0 ([t160, bxor .u32 t168 t153.2, rd x8_3 0, rd x8_3 1] : List Int) (I64 (x87_3 + 1)))))) else ((twofish_Twofish_white.f k a0 ([rd x8_3 2, rd x8_3 3, rd x8_3 0, rd x8_3 1] : List Int) 4).bind fun t246 => (if (decide (0 ≤ 16)) = true then (twofish_Twofish_Block.l4 k t246 (List.replicate 0 (0 : Int)) 0) else (none)))
def twofish_Twofish_Block.l4 : Nat → (List Int) → (List Int) → Int → Option (List Int × Int)
  | 0, _, _, _ => none
  | k + 1, t246, x16_4, x129_4 => if (decide (x129_4 < 4)) = true then (if (decide (0 ≤ x129_4)) = true then (if (decide (x129_4 < (4 : Int))) = true then ((words_PutLe32.f k (rd t246 x129_4)).bind fun t257 => (if (decide (x16_4.length + t257.length ≤ 1000000000)) = true then (twofish_Twofish_Block.l4 k t246 (x16_4 ++ t257) (I64 (x129_4 + 1))) else (none))) else (none)) else (none)) else (some (x16_4, 0))
end
def twofish_Twofish_Block.f (k : Nat) (a0 : ((List Int) × (List Int))) (a1 : List Int) (a2 : Bool) : Option (List Int × Int) := if ((a1.length : Int) != 16) = true then (some (([] : List Int), 1)) else (twofish_Twofish_Block.l0 k a0 a1 a2 (List.replicate 4 (0 : Int)) 0)
set_option maxRecDepth 100000 in
set_option maxHeartbeats 8000000 in
theorem twofish_Twofish_Block.calls (k : Nat) (vp0 : Value) (Zp0 : Zp) (a0 : ((List Int) × (List Int))) (Ap1 : Option Addr) (np1 cp1 : Nat) (a1 : List Int) (a2 : Bool) (r : List Int × Int) (w : World) (hr1 : Rd w (.slice Ap1 np1 cp1) (nums .u8 a1)) (hp0 : (rPtr Rs_twofish_Twofish) Zp0 vp0 a0) (hZp0 : ∀ W, Kept w W → Zp0 W) (h : twofish_Twofish_Block.f k a0 a1 a2 = some r) :
    Calls Go.Proofs.Try.prog 22 #[vp0, (.slice Ap1 np1 cp1), .bool a2] w (Ret fun v w' => ∃ A0' n0' c0', v = .tuple #[.slice A0' n0' c0', .int .i64 r.2] ∧ Mem w w' [⟨.slice A0' n0' c0', 5, 1, nums .u8 r.1⟩]) := by
  obtain rfl : a1.length = np1 := by have h_ := hr1.1; simpa [nums_length, bools_length, strs_length] using h_
  obtain ⟨gp0, _, rfl, hco1, _, _, rfl, ⟨Ao1_0, co1_0, rfl, ho1_0⟩, ⟨Ao1_1, co1_1, rfl, ho1_1⟩⟩ := id hp0
  unfold twofish_Twofish_Block.f at h
  refine calls_of [.pointer (some ⟨gp0, 0, none⟩), .slice Ap1 a1.length cp1, .bool a2] (fn := Go.Proofs.Try.f22) Go.Proofs.Try.func22 (by kernel_rfl) (by kernel_rfl) ?_
  have hM := Mem.refl w
  refine RunF.go 12 [0, 1, 2, 21] (k' := (pl Go.Proofs.Try.f22 [1, 0, 1])) (L' := [(0, .pointer (some ⟨gp0, 0, none⟩)), (1, .slice Ap1 a1.length cp1), (2, .bool a2), (21, .bool ((a1.length : Int) != 16))]) (w' := w) (by kernel_rfl) ?_
  rcases two (((a1.length : Int) != 16)) with c2 | c2
  · replace h := of_true h c2
    refine RunF.know 21 (b := true) (by kernel_rfl) c2 ?_
    refine RunF.go 6 [6, 7] (k' := (pl Go.Proofs.Try.f22 [1, 0, 1, 0, 1])) (L' := [(6, .slice none 0 0), (7, .int .i64 1)]) (w' := w) (by kernel_rfl) ?_
    replace hM := hM.nil 5
    obtain rfl := Option.some.inj h
    exact RunF.ret2 6 7 (.slice none 0 0) (.int .i64 1) (fn := Go.Proofs.Try.f22) Go.Proofs.Try.func22 (by kernel_rfl) (by kernel_rfl) (by kernel_rfl) (by kernel_rfl) ⟨_, rfl, none, 0, 0, rfl, (hM.pick [0] rfl rfl)⟩
  · replace h := of_false h c2
    refine RunF.know 21 (b := false) (by kernel_rfl) c2 ?_
    refine RunF.go 4 [0, 1, 2] (k' := (pin Go.Proofs.Try.f22 [1, 1, 0] 0)) (L' := [(0, .pointer (some ⟨gp0, 0, none⟩)), (1, .slice Ap1 a1.length cp1), (2, .bool a2)]) (w' := w) (by kernel_rfl) ?_
    refine RunF.newVar 44 (nums .u32 (List.replicate 4 (0 : Int))) (d := some 8) (k2 := (pin Go.Proofs.Try.f22 [1, 1, 0] 1)) hM (by kernel_rfl) ?_
    intro g4 W5 hM
    refine RunF.go 8 [0, 1, 2, 8, 22] (k' := (pl Go.Proofs.Try.f22 [1, 1, 1, 0, 1, 0, 0])) (L' := [(0, .pointer (some ⟨gp0, 0, none⟩)), (1, .slice Ap1 a1.length cp1), (2, .bool a2), (8, .pointer (some ⟨g4, 0, none⟩)), (22, .int .i64 0)]) (w' := W5) (by kernel_rfl) ?_
    have l0 : ∀ (k_ : Nat), k_ ≤ k → ∀ (x8_0 : List Int) (x22_0 : Int) (W : World) (hM : Mem w W [⟨.pointer (some ⟨g4, 0, none⟩), 44, 0, nums .u32 x8_0⟩]) (hlx8_0 : x8_0.length = 4) (h : twofish_Twofish_Block.l0 k_ a0 a1 a2 x8_0 x22_0 = some r), RunF Go.Proofs.Try.prog (Ret fun v w' => ∃ A0' n0' c0', v = .tuple #[.slice A0' n0' c0', .int .i64 r.2] ∧ Mem w w' [⟨.slice A0' n0' c0', 5, 1, nums .u8 r.1⟩]) 22 (pl Go.Proofs.Try.f22 [1, 1, 1, 0, 1, 0, 0]) 138 [(0, .pointer (some ⟨gp0, 0, none⟩)), (1, .slice Ap1 a1.length cp1), (2, .bool a2), (8, .pointer (some ⟨g4, 0, none⟩)), (22, .int .i64 x22_0)] W := by
      intro k_
      induction k_ using Nat.strongRecOn with
      | _ k_ ih0 =>
        intro hk x8_0 x22_0 W hM hlx8_0 h
        cases k_ with
        | zero => exact absurd h (by simp [twofish_Twofish_Block.l0])
        | succ k =>
          simp only [twofish_Twofish_Block.l0] at h
          replace ih0 : ∀ m, m ≤ k → _ := fun m hm => ih0 m (by omega) (by omega)
          refine RunF.go 5 [0, 1, 2, 8, 22, 23] (k' := (pl Go.Proofs.Try.f22 [1, 1, 1, 0, 1, 0, 0, 1, 0])) (L' := [(0, .pointer (some ⟨gp0, 0, none⟩)), (1, .slice Ap1 a1.length cp1), (2, .bool a2), (8, .pointer (some ⟨g4, 0, none⟩)), (22, .int .i64 x22_0), (23, .bool (decide (x22_0 < 4)))]) (w' := W) (by kernel_rfl) ?_
          rcases two (decide (x22_0 < 4)) with c7 | c7
          · replace h := of_true h c7
            refine RunF.know 23 (b := true) (by kernel_rfl) c7 ?_
            refine RunF.go 17 [0, 1, 2, 8, 22, 26, 27, 29, 32] (k' := (pin Go.Proofs.Try.f22 [1, 1, 1, 0, 1, 0, 0, 1, 1, 0, 0, 1] 7)) (L' := [(0, .pointer (some ⟨gp0, 0, none⟩)), (1, .slice Ap1 a1.length cp1), (2, .bool a2), (8, .pointer (some ⟨g4, 0, none⟩)), (22, .int .i64 x22_0), (26, .int .i64 x22_0), (27, .slice Ap1 a1.length cp1), (29, .int .i64 (I64 (4 * x22_0))), (32, .int .i64 (I64 (4 * (I64 (x22_0 + 1)))))]) (w' := W) (by kernel_rfl) ?_
            rcases two (decide (0 ≤ (I64 (4 * x22_0)))) with c8 | c8
            · replace h := of_true h c8
              rcases two (decide ((I64 (4 * x22_0)) ≤ (I64 (4 * (I64 (x22_0 + 1)))))) with c9 | c9
              · replace h := of_true h c9
                rcases two (decide ((I64 (4 * (I64 (x22_0 + 1)))) ≤ (a1.length : Int))) with c10 | c10
                · replace h := of_true h c10
                  have zc8 := of_decide_eq_true c8
                  have zc9 := of_decide_eq_true c9
                  have zc10 := of_decide_eq_true c10
                  obtain ⟨A11, n12, c13, hy14, rfl, hs15⟩ := cut (P := Go.Proofs.Try.prog) (n := 138) (k := (pin Go.Proofs.Try.f22 [1, 1, 1, 0, 1, 0, 0, 1, 1, 0, 0, 1] 7)) (L := [(0, .pointer (some ⟨gp0, 0, none⟩)), (1, .slice Ap1 a1.length cp1), (2, .bool a2), (8, .pointer (some ⟨g4, 0, none⟩)), (22, .int .i64 x22_0), (26, .int .i64 x22_0), (27, .slice Ap1 a1.length cp1), (29, .int .i64 (I64 (4 * x22_0))), (32, .int .i64 (I64 (4 * (I64 (x22_0 + 1)))))]) (d := some 33) (A := Ap1) (m := a1.length) (c := cp1) (l := I64 (4 * x22_0)) (h := I64 (4 * (I64 (x22_0 + 1)))) (k2 := (pin Go.Proofs.Try.f22 [1, 1, 1, 0, 1, 0, 0, 1, 1, 0, 0, 1] 8)) .u8 a1 (by kernel_rfl) (by omega) (by omega) (by omega) (hr1.mono hM.below)
                  clear zc8
                  clear zc9
                  clear zc10
                  refine RunF.y hy14 trivial ?_
                  obtain ⟨t17, ht17, h⟩ := Option.bind_eq_some_iff.mp h
                  refine RunF.call (d := some 34) (g := 24) (args := #[.slice A11 (((a1.take (I64 (4 * (I64 (x22_0 + 1))) : Int).toNat).drop (I64 (4 * x22_0) : Int).toNat).length) c13]) (k2 := (pin Go.Proofs.Try.f22 [1, 1, 1, 0, 1, 0, 0, 1, 1, 0, 0, 1] 9)) (by kernel_rfl) (words_Le32.calls k A11 (((a1.take (I64 (4 * (I64 (x22_0 + 1))) : Int).toNat).drop (I64 (4 * x22_0) : Int).toNat).length) c13 ((a1.take (I64 (4 * (I64 (x22_0 + 1))) : Int).toNat).drop (I64 (4 * x22_0) : Int).toNat) t17 _ (hs15 _ (hr1.mono hM.below)) ht17) ?_
                  rintro _ W16 ⟨rfl, hM_⟩
                  replace hM := hM.call hM_
                  clear hM_ ht17
                  refine RunF.go 3 [0, 1, 2, 8, 22, 26, 35] (k' := (pin Go.Proofs.Try.f22 [1, 1, 1, 0, 1, 0, 0, 1, 1, 0, 0, 1] 12)) (L' := [(0, .pointer (some ⟨gp0, 0, none⟩)), (1, .slice Ap1 a1.length cp1), (2, .bool a2), (8, .pointer (some ⟨g4, 0, none⟩)), (22, .int .i64 x22_0), (26, .int .i64 x22_0), (35, .int .u32 t17.1)]) (w' := W16) (by kernel_rfl) ?_
                  rcases two (decide (0 ≤ x22_0)) with c19 | c19
                  · replace h := of_true h c19
                    rcases two (decide (x22_0 < (4 : Int))) with c20 | c20
                    · replace h := of_true h c20
                      obtain ⟨hcq18, hfq18, hlq18⟩ := hM.arr_num 0 rfl (i := x22_0) (of_decide_eq_true c19) (N := 4) hlx8_0 (of_decide_eq_true c20)
                      refine RunF.y (idxArr_own (d := some 37) (g := g4) (len := 4) (i := x22_0) (k2 := (pin Go.Proofs.Try.f22 [1, 1, 1, 0, 1, 0, 0, 1, 1, 0, 0, 1] 13)) (by kernel_rfl) (of_decide_eq_true c19) (of_decide_eq_true c20)) trivial ?_
                      obtain ⟨hc_, hf_, hl_⟩ := hM.arr_num 0 rfl (i := x22_0) (of_decide_eq_true c19) (N := 4) hlx8_0 (of_decide_eq_true c20)
                      refine RunF.doesU (st_u (p := (⟨g4, (x22_0 : Int).toNat, none⟩ : Addr)) (v := .int .u32 t17.1) (k2 := (pin Go.Proofs.Try.f22 [1, 1, 1, 0, 1, 0, 0, 1, 1, 0, 0, 1] 14)) (by kernel_rfl) hc_ hf_) ?_
                      replace hM : Mem w (W16.setCell (⟨g4, (x22_0 : Int).toNat, none⟩ : Addr) (.int .u32 t17.1)) [⟨.pointer (some ⟨g4, 0, none⟩), 44, 0, nums .u32 (x8_0.set (x22_0 : Int).toNat t17.1)⟩] := Mem.arr_put_num [] [] (hM.pick [0] rfl rfl) _ hl_ _
                      generalize W16.setCell (⟨g4, (x22_0 : Int).toNat, none⟩ : Addr) (.int .u32 t17.1) = W21 at hM ⊢
                      clear hc_ hf_ hl_ hcq18 hfq18 hlq18
                      refine RunF.go 7 [0, 1, 2, 8, 22] (k' := (pl Go.Proofs.Try.f22 [1, 1, 1, 0, 1, 0, 0])) (L' := [(0, .pointer (some ⟨gp0, 0, none⟩)), (1, .slice Ap1 a1.length cp1), (2, .bool a2), (8, .pointer (some ⟨g4, 0, none⟩)), (22, .int .i64 (I64 (x22_0 + 1)))]) (w' := W21) (by kernel_rfl) ?_
                      exact ih0 k (by omega) (x8_0.set (x22_0 : Int).toNat t17.1) (I64 (x22_0 + 1)) _ (hM.pick [0] rfl rfl) (List.length_set.trans hlx8_0) h
                    · replace h := of_false h c20
                      cases h
                  · replace h := of_false h c19
                    cases h
                · replace h := of_false h c10
                  cases h
              · replace h := of_false h c9
                cases h
            · replace h := of_false h c8
              cases h
          · replace h := of_false h c7
            refine RunF.know 23 (b := false) (by kernel_rfl) c7 ?_
            refine RunF.go 7 [0, 8, 39] (k' := (pl Go.Proofs.Try.f22 [1, 1, 1, 1, 0, 1])) (L' := [(0, .pointer (some ⟨gp0, 0, none⟩)), (8, .pointer (some ⟨g4, 0, none⟩)), (39, .bool a2)]) (w' := W) (by kernel_rfl) ?_
            rcases two (a2) with c22 | c22
            · replace h := of_true h c22
              refine RunF.know 39 (b := true) (by kernel_rfl) c22 ?_
              refine RunF.go 4 [0, 8, 40] (k' := (pin Go.Proofs.Try.f22 [1, 1, 1, 1, 0, 1, 0, 0] 1)) (L' := [(0, .pointer (some ⟨gp0, 0, none⟩)), (8, .pointer (some ⟨g4, 0, none⟩)), (40, .pointer (some ⟨gp0, 0, none⟩))]) (w' := W) (by kernel_rfl) ?_
              refine RunF.y (ldv_y (d := some 41) (g := g4) (N := 4) (ty := 44) (k2 := (pin Go.Proofs.Try.f22 [1, 1, 1, 1, 0, 1, 0, 0] 2)) (nums .u32 x8_0) (by kernel_rfl) (by simp only [nums_length, bools_length, strs_length]; exact hlx8_0)) (hM.block 0 rfl) ?_
              obtain ⟨t24, ht24, h⟩ := Option.bind_eq_some_iff.mp h
              refine RunF.call (d := some 42) (g := 43) (args := #[.pointer (some ⟨gp0, 0, none⟩), .agg (nums .u32 x8_0).toArray, .int .i64 4]) (k2 := (pin Go.Proofs.Try.f22 [1, 1, 1, 1, 0, 1, 0, 0] 3)) (by kernel_rfl) (twofish_Twofish_white.calls k (.pointer (some ⟨gp0, 0, none⟩)) Zp0 a0 x8_0 4 t24 _ hlx8_0 hp0 (fun _ hb_ => (hZp0 _ (hM.kept.trans hb_))) ht24) ?_
              rintro _ W23 ⟨rfl, hNt24_0, hM_⟩
              replace hM := hM.call hM_
              clear hM_ ht24
              refine RunF.doesU (stv_u (N := 4) (cells := (nums .u32 t24).toArray) (old := (nums .u32 x8_0).toArray) (ty := 44) (k2 := (pin Go.Proofs.Try.f22 [1, 1, 1, 1, 0, 1, 0, 0] 4)) (by kernel_rfl) (by rw [List.size_toArray]; simp only [nums_length, bools_length, strs_length]; exact hNt24_0) (hM.block 0 rfl) (by rw [List.size_toArray]; simp only [nums_length, bools_length, strs_length]; exact hlx8_0) (all_nums _ _)) ?_
              replace hM : Mem w (W23.setRow g4 (nums .u32 t24).toArray) [⟨.pointer (some ⟨g4, 0, none⟩), 44, 0, nums .u32 t24⟩] := Mem.setAll [] [] (hM.pick [0] rfl rfl)
              generalize W23.setRow g4 (nums .u32 t24).toArray = W25 at hM ⊢
              refine RunF.go 8 [0, 8, 10] (k' := (pl Go.Proofs.Try.f22 [1, 1, 1, 1, 0, 1, 0, 1, 0, 1, 0, 0])) (L' := [(0, .pointer (some ⟨gp0, 0, none⟩)), (8, .pointer (some ⟨g4, 0, none⟩)), (10, .int .i64 15)]) (w' := W25) (by kernel_rfl) ?_
              have l1 : ∀ (k_ : Nat), k_ ≤ k → ∀ (x8_1 : List Int) (x10_1 : Int) (W : World) (hM : Mem w W [⟨.pointer (some ⟨g4, 0, none⟩), 44, 0, nums .u32 x8_1⟩]) (hlx8_1 : x8_1.length = 4) (h : twofish_Twofish_Block.l1 k_ a0 x8_1 x10_1 = some r), RunF Go.Proofs.Try.prog (Ret fun v w' => ∃ A0' n0' c0', v = .tuple #[.slice A0' n0' c0', .int .i64 r.2] ∧ Mem w w' [⟨.slice A0' n0' c0', 5, 1, nums .u8 r.1⟩]) 22 (pl Go.Proofs.Try.f22 [1, 1, 1, 1, 0, 1, 0, 1, 0, 1, 0, 0]) 138 [(0, .pointer (some ⟨gp0, 0, none⟩)), (8, .pointer (some ⟨g4, 0, none⟩)), (10, .int .i64 x10_1)] W := by
                intro k_
                induction k_ using Nat.strongRecOn with
                | _ k_ ih1 =>
                  intro hk x8_1 x10_1 W hM hlx8_1 h
                  cases k_ with
                  | zero => exact absurd h (by simp [twofish_Twofish_Block.l1])
                  | succ k =>
                    simp only [twofish_Twofish_Block.l1] at h
                    replace ih1 : ∀ m, m ≤ k → _ := fun m hm => ih1 m (by omega) (by omega)
                    replace ih0 : ∀ m, m ≤ k → _ := fun m hm => ih0 m (by omega)
                    refine RunF.go 6 [0, 8, 10, 44] (k' := (pl Go.Proofs.Try.f22 [1, 1, 1, 1, 0, 1, 0, 1, 0, 1, 0, 0, 0, 1])) (L' := [(0, .pointer (some ⟨gp0, 0, none⟩)), (8, .pointer (some ⟨g4, 0, none⟩)), (10, .int .i64 x10_1), (44, .bool (decide (x10_1 ≥ 0)))]) (w' := W) (by kernel_rfl) ?_
                    rcases two (decide (x10_1 ≥ 0)) with c26 | c26
                    · replace h := of_true h c26
                      refine RunF.know 44 (b := true) (by kernel_rfl) c26 ?_
                      refine RunF.go 7 [0, 8, 10, 48] (k' := (pin Go.Proofs.Try.f22 [1, 1, 1, 1, 0, 1, 0, 1, 0, 1, 0, 0, 1, 0, 0, 0] 1)) (L' := [(0, .pointer (some ⟨gp0, 0, none⟩)), (8, .pointer (some ⟨g4, 0, none⟩)), (10, .int .i64 x10_1), (48, .pointer (some ⟨gp0, 0, none⟩))]) (w' := W) (by kernel_rfl) ?_
                      obtain ⟨hcq27, hfq27, hlq27⟩ := hM.arr_num 0 rfl (i := 0) (by omega) (N := 4) hlx8_1 (by decide)
                      refine RunF.y (idxArr_own (d := some 49) (g := g4) (len := 4) (i := 0) (k2 := (pin Go.Proofs.Try.f22 [1, 1, 1, 1, 0, 1, 0, 1, 0, 1, 0, 0, 1, 0, 0, 0] 2)) (by kernel_rfl) (by omega) (by decide)) trivial ?_
                      refine RunF.y (ld_y (d := some 50) (p := ⟨g4, (0 : Int).toNat, none⟩) (k2 := (pin Go.Proofs.Try.f22 [1, 1, 1, 1, 0, 1, 0, 1, 0, 1, 0, 0, 1, 0, 0, 0] 3)) (.int .u32 (rd x8_1 0)) (by kernel_rfl)) hcq27 ?_
                      obtain ⟨hcq28, hfq28, hlq28⟩ := hM.arr_num 0 rfl (i := 1) (by omega) (N := 4) hlx8_1 (by decide)
                      refine RunF.y (idxArr_own (d := some 51) (g := g4) (len := 4) (i := 1) (k2 := (pin Go.Proofs.Try.f22 [1, 1, 1, 1, 0, 1, 0, 1, 0, 1, 0, 0, 1, 0, 0, 0] 4)) (by kernel_rfl) (by omega) (by decide)) trivial ?_
                      refine RunF.y (ld_y (d := some 52) (p := ⟨g4, (1 : Int).toNat, none⟩) (k2 := (pin Go.Proofs.Try.f22 [1, 1, 1, 1, 0, 1, 0, 1, 0, 1, 0, 0, 1, 0, 0, 0] 5)) (.int .u32 (rd x8_1 1)) (by kernel_rfl)) hcq28 ?_
                      refine RunF.go 1 [0, 8, 10, 48, 50, 52, 53] (k' := (pin Go.Proofs.Try.f22 [1, 1, 1, 1, 0, 1, 0, 1, 0, 1, 0, 0, 1, 0, 0, 0] 6)) (L' := [(0, .pointer (some ⟨gp0, 0, none⟩)), (8, .pointer (some ⟨g4, 0, none⟩)), (10, .int .i64 x10_1), (48, .pointer (some ⟨gp0, 0, none⟩)), (50, .int .u32 (rd x8_1 0)), (52, .int .u32 (rd x8_1 1)), (53, .int .i64 x10_1)]) (w' := W) (by kernel_rfl) ?_
                      obtain ⟨t30, ht30, h⟩ := Option.bind_eq_some_iff.mp h
                      refine RunF.call (d := some 54) (g := 44) (args := #[.pointer (some ⟨gp0, 0, none⟩), .int .u32 (rd x8_1 0), .int .u32 (rd x8_1 1), .int .i64 x10_1]) (k2 := (pin Go.Proofs.Try.f22 [1, 1, 1, 1, 0, 1, 0, 1, 0, 1, 0, 0, 1, 0, 0, 0] 7)) (by kernel_rfl) (twofish_Twofish_sums.calls k (.pointer (some ⟨gp0, 0, none⟩)) Zp0 a0 (rd x8_1 0) (rd x8_1 1) x10_1 t30 _ hp0 (fun _ hb_ => (hZp0 _ (hM.kept.trans hb_))) ht30) ?_
                      rintro _ W29 ⟨rfl, hM_⟩
                      replace hM := hM.call hM_
                      clear hM_ ht30
                      refine RunF.go 6 [0, 8, 10, 11, 12] (k' := (pl Go.Proofs.Try.f22 [1, 1, 1, 1, 0, 1, 0, 1, 0, 1, 0, 0, 1, 0, 0, 1])) (L' := [(0, .pointer (some ⟨gp0, 0, none⟩)), (8, .pointer (some ⟨g4, 0, none⟩)), (10, .int .i64 x10_1), (11, .int .u32 t30.1), (12, .int .u32 t30.2)]) (w' := W29) (by kernel_rfl) ?_
                      refine RunF.draw (Still ({ W29 with drawn := W29.drawn + 1 } : World) [.pointer (some ⟨g4, 0, none⟩)]) (by kernel_rfl) (by kernel_rfl) ?_
                      have hMd32 := hM.drew
                      have hS := Still.refl ({ W29 with drawn := W29.drawn + 1 } : World) [.pointer (some ⟨g4, 0, none⟩)]
                      generalize ({ W29 with drawn := W29.drawn + 1 } : World) = W31 at hMd32 hS ⊢
                      replace hM := hMd32
                      obtain ⟨hcq33, hfq33, hlq33⟩ := hM.arr_num 0 rfl (i := 2) (by omega) (N := 4) hlx8_1 (by decide)
                      refine RunAny.y 0 (by kernel_rfl) (idxArr_own (d := some 57) (g := g4) (len := 4) (i := 2) (k2 := [.inRegion (opsOf (pl Go.Proofs.Try.f22 [1, 1, 1, 1, 0, 1, 0, 1, 0, 1, 0, 0, 1, 0, 0, 1])) []]) (by kernel_rfl) (by omega) (by decide)) (fun _ _ => trivial) hS ?_
                      refine RunAny.y 3 (by kernel_rfl) (yl_pure (d := some 60) (v := .int .u32 t30.1) (k2 := [.inRegion (opsOf (pl Go.Proofs.Try.f22 [1, 1, 1, 1, 0, 1, 0, 1, 0, 1, 0, 0, 1, 0, 0, 1])) []]) fun w => by kernel_rfl) (fun _ _ => trivial) hS ?_
                      obtain ⟨hcq34, hfq34, hlq34⟩ := hM.arr_num 0 rfl (i := 3) (by omega) (N := 4) hlx8_1 (by decide)
                      refine RunAny.y 5 (by kernel_rfl) (idxArr_own (d := some 62) (g := g4) (len := 4) (i := 3) (k2 := [.inRegion (opsOf (pl Go.Proofs.Try.f22 [1, 1, 1, 1, 0, 1, 0, 1, 0, 1, 0, 0, 1, 0, 0, 1])) []]) (by kernel_rfl) (by omega) (by decide)) (fun _ _ => trivial) hS ?_
                      refine RunAny.y 7 (by kernel_rfl) (yl_pure (d := some 64) (v := .int .u32 t30.2) (k2 := [.inRegion (opsOf (pl Go.Proofs.Try.f22 [1, 1, 1, 1, 0, 1, 0, 1, 0, 1, 0, 0, 1, 0, 0, 1])) []]) fun w => by kernel_rfl) (fun _ _ => trivial) hS ?_
                      obtain ⟨hcq35, hfq35, hlq35⟩ := hM.arr_num 0 rfl (i := 0) (by omega) (N := 4) hlx8_1 (by decide)
                      refine RunAny.y 10 (by kernel_rfl) (idxArr_own (d := some 67) (g := g4) (len := 4) (i := 0) (k2 := [.inRegion (opsOf (pl Go.Proofs.Try.f22 [1, 1, 1, 1, 0, 1, 0, 1, 0, 1, 0, 0, 1, 0, 0, 1])) []]) (by kernel_rfl) (by omega) (by decide)) (fun _ _ => trivial) hS ?_
                      obtain ⟨hcq36, hfq36, hlq36⟩ := hM.arr_num 0 rfl (i := 1) (by omega) (N := 4) hlx8_1 (by decide)
                      refine RunAny.y 12 (by kernel_rfl) (idxArr_own (d := some 69) (g := g4) (len := 4) (i := 1) (k2 := [.inRegion (opsOf (pl Go.Proofs.Try.f22 [1, 1, 1, 1, 0, 1, 0, 1, 0, 1, 0, 0, 1, 0, 0, 1])) []]) (by kernel_rfl) (by omega) (by decide)) (fun _ _ => trivial) hS ?_
                      obtain ⟨t37, ht37, h⟩ := Option.bind_eq_some_iff.mp h
                      obtain ⟨t45, ht45, h⟩ := Option.bind_eq_some_iff.mp h
                      have J51 : ∀ (W52 : World) (hS : Still W52 [.pointer (some ⟨g4, 0, none⟩)] W52) (hM : Mem w W52 [⟨.pointer (some ⟨g4, 0, none⟩), 44, 0, nums .u32 x8_1⟩]) , RunAny Go.Proofs.Try.prog (Ret fun v w' => ∃ A0' n0' c0', v = .tuple #[.slice A0' n0' c0', .int .i64 r.2] ∧ Mem w w' [⟨.slice A0' n0' c0', 5, 1, nums .u8 r.1⟩]) 22 (rest1 (pl Go.Proofs.Try.f22 [1, 1, 1, 1, 0, 1, 0, 1, 0, 1, 0, 0, 1, 0, 0, 1])) 138 (opsOf (pl Go.Proofs.Try.f22 [1, 1, 1, 1, 0, 1, 0, 1, 0, 1, 0, 0, 1, 0, 0, 1])) (Still W52 [.pointer (some ⟨g4, 0, none⟩)]) 1 [0, 3, 5, 7, 10, 12, 1, 11, 13, 2, 4, 6, 8, 9, 14] [(0, .pointer (some ⟨gp0, 0, none⟩)), (8, .pointer (some ⟨g4, 0, none⟩)), (10, .int .i64 x10_1), (11, .int .u32 t30.1), (12, .int .u32 t30.2), (57, .pointer (some ⟨g4, (2 : Int).toNat, none⟩)), (58, .int .u32 (rd x8_1 2)), (59, .int .u32 t37), (60, .int .u32 t30.1), (61, .int .u32 (bxor .u32 t37 t30.1)), (62, .pointer (some ⟨g4, (3 : Int).toNat, none⟩)), (63, .int .u32 (rd x8_1 3)), (64, .int .u32 t30.2), (65, .int .u32 (bxor .u32 (rd x8_1 3) t30.2)), (66, .int .u32 t45), (67, .pointer (some ⟨g4, (0 : Int).toNat, none⟩)), (68, .int .u32 (rd x8_1 0)), (69, .pointer (some ⟨g4, (1 : Int).toNat, none⟩)), (70, .int .u32 (rd x8_1 1)), (71, .agg (nums .u32 ([bxor .u32 t37 t30.1, t45, rd x8_1 0, rd x8_1 1] : List Int)).toArray)] W52 := by
                        intro W52 hS hM 
                        have hS' := hS.setRow (v := .pointer (some ⟨g4, 0, none⟩)) (g := g4) (by simp) rfl (nums .u32 ([bxor .u32 t37 t30.1, t45, rd x8_1 0, rd x8_1 1] : List Int)).toArray
                        refine RunAny.doesU 15 (by kernel_rfl) (stv_u (N := 4) (cells := (nums .u32 ([bxor .u32 t37 t30.1, t45, rd x8_1 0, rd x8_1 1] : List Int)).toArray) (old := (nums .u32 x8_1).toArray) (ty := 44) (k2 := [.inRegion (opsOf (pl Go.Proofs.Try.f22 [1, 1, 1, 1, 0, 1, 0, 1, 0, 1, 0, 0, 1, 0, 0, 1])) []]) (by kernel_rfl) (by rw [List.size_toArray]; simp only [nums_length, bools_length, strs_length]; exact rfl) (hM.block 0 rfl) (by rw [List.size_toArray]; simp only [nums_length, bools_length, strs_length]; exact hlx8_1) (all_nums _ _)) hS' ?_
                        replace hM : Mem w (W52.setRow g4 (nums .u32 ([bxor .u32 t37 t30.1, t45, rd x8_1 0, rd x8_1 1] : List Int)).toArray) [⟨.pointer (some ⟨g4, 0, none⟩), 44, 0, nums .u32 ([bxor .u32 t37 t30.1, t45, rd x8_1 0, rd x8_1 1] : List Int)⟩] := Mem.setAll [] [] (hM.pick [0] rfl rfl)
                        generalize W52.setRow g4 (nums .u32 ([bxor .u32 t37 t30.1, t45, rd x8_1 0, rd x8_1 1] : List Int)).toArray = W53 at hM hS' ⊢
                        replace hS := hS'
                        refine RunAny.rebase hS ?_
                        replace hS := Still.refl W53 [.pointer (some ⟨g4, 0, none⟩)]
                        refine RunAny.done (by kernel_rfl) ?_
                        clear hS
                        refine RunF.go 7 [0, 8, 10] (k' := (pl Go.Proofs.Try.f22 [1, 1, 1, 1, 0, 1, 0, 1, 0, 1, 0, 0])) (L' := [(0, .pointer (some ⟨gp0, 0, none⟩)), (8, .pointer (some ⟨g4, 0, none⟩)), (10, .int .i64 (I64 (x10_1 - 1)))]) (w' := W53) (by kernel_rfl) ?_
                        exact ih1 k (by omega) ([bxor .u32 t37 t30.1, t45, rd x8_1 0, rd x8_1 1] : List Int) (I64 (x10_1 - 1)) _ (hM.pick [0] rfl rfl) rfl h
                      have J54 : ∀ (W55 : World) (hS : Still W55 [.pointer (some ⟨g4, 0, none⟩)] W55) (hM : Mem w W55 [⟨.pointer (some ⟨g4, 0, none⟩), 44, 0, nums .u32 x8_1⟩]) (hcq35 : W55.cell? ⟨g4, (0 : Int).toNat, none⟩ = some (.int .u32 (rd x8_1 0))), RunAny Go.Proofs.Try.prog (Ret fun v w' => ∃ A0' n0' c0', v = .tuple #[.slice A0' n0' c0', .int .i64 r.2] ∧ Mem w w' [⟨.slice A0' n0' c0', 5, 1, nums .u8 r.1⟩]) 22 (rest1 (pl Go.Proofs.Try.f22 [1, 1, 1, 1, 0, 1, 0, 1, 0, 1, 0, 0, 1, 0, 0, 1])) 138 (opsOf (pl Go.Proofs.Try.f22 [1, 1, 1, 1, 0, 1, 0, 1, 0, 1, 0, 0, 1, 0, 0, 1])) (Still W55 [.pointer (some ⟨g4, 0, none⟩)]) 3 [0, 3, 5, 7, 10, 12, 1, 13, 2, 4, 6, 8, 9] [(0, .pointer (some ⟨gp0, 0, none⟩)), (8, .pointer (some ⟨g4, 0, none⟩)), (10, .int .i64 x10_1), (11, .int .u32 t30.1), (12, .int .u32 t30.2), (57, .pointer (some ⟨g4, (2 : Int).toNat, none⟩)), (58, .int .u32 (rd x8_1 2)), (59, .int .u32 t37), (60, .int .u32 t30.1), (61, .int .u32 (bxor .u32 t37 t30.1)), (62, .pointer (some ⟨g4, (3 : Int).toNat, none⟩)), (63, .int .u32 (rd x8_1 3)), (64, .int .u32 t30.2), (65, .int .u32 (bxor .u32 (rd x8_1 3) t30.2)), (66, .int .u32 t45), (67, .pointer (some ⟨g4, (0 : Int).toNat, none⟩)), (69, .pointer (some ⟨g4, (1 : Int).toNat, none⟩)), (70, .int .u32 (rd x8_1 1))] W55 := by
                        intro W55 hS hM hcq35
                        refine RunAny.does 11 (by kernel_rfl) ((ld_y (d := some 68) (p := ⟨g4, (0 : Int).toNat, none⟩) (k2 := [.inRegion (opsOf (pl Go.Proofs.Try.f22 [1, 1, 1, 1, 0, 1, 0, 1, 0, 1, 0, 0, 1, 0, 0, 1])) []]) (.int .u32 (rd x8_1 0)) (by kernel_rfl)).does hcq35) hS ?_
                        refine RunAny.y 14 (by kernel_rfl) (yl_pure (d := some 71) (v := .agg (nums .u32 ([bxor .u32 t37 t30.1, t45, rd x8_1 0, rd x8_1 1] : List Int)).toArray) (k2 := [.inRegion (opsOf (pl Go.Proofs.Try.f22 [1, 1, 1, 1, 0, 1, 0, 1, 0, 1, 0, 0, 1, 0, 0, 1])) []]) fun w => by kernel_rfl) (fun _ _ => trivial) hS ?_
                        exact RunAny.same [0, 3, 5, 7, 10, 12, 1, 11, 13, 2, 4, 6, 8, 9, 14] (by kernel_rfl) [0, 8, 10, 11, 12, 57, 58, 59, 60, 61, 62, 63, 64, 65, 66, 67, 68, 69, 70, 71] (by kernel_rfl) (J51 _ hS (hM.pick [0] rfl rfl))
                      have J56 : ∀ (W57 : World) (hS : Still W57 [.pointer (some ⟨g4, 0, none⟩)] W57) (hM : Mem w W57 [⟨.pointer (some ⟨g4, 0, none⟩), 44, 0, nums .u32 x8_1⟩]) (hcq36 : W57.cell? ⟨g4, (1 : Int).toNat, none⟩ = some (.int .u32 (rd x8_1 1))), RunAny Go.Proofs.Try.prog (Ret fun v w' => ∃ A0' n0' c0', v = .tuple #[.slice A0' n0' c0', .int .i64 r.2] ∧ Mem w w' [⟨.slice A0' n0' c0', 5, 1, nums .u8 r.1⟩]) 22 (rest1 (pl Go.Proofs.Try.f22 [1, 1, 1, 1, 0, 1, 0, 1, 0, 1, 0, 0, 1, 0, 0, 1])) 138 (opsOf (pl Go.Proofs.Try.f22 [1, 1, 1, 1, 0, 1, 0, 1, 0, 1, 0, 0, 1, 0, 0, 1])) (Still W57 [.pointer (some ⟨g4, 0, none⟩)]) 3 [0, 3, 5, 7, 10, 12, 1, 11, 2, 4, 6, 8, 9] [(0, .pointer (some ⟨gp0, 0, none⟩)), (8, .pointer (some ⟨g4, 0, none⟩)), (10, .int .i64 x10_1), (11, .int .u32 t30.1), (12, .int .u32 t30.2), (57, .pointer (some ⟨g4, (2 : Int).toNat, none⟩)), (58, .int .u32 (rd x8_1 2)), (59, .int .u32 t37), (60, .int .u32 t30.1), (61, .int .u32 (bxor .u32 t37 t30.1)), (62, .pointer (some ⟨g4, (3 : Int).toNat, none⟩)), (63, .int .u32 (rd x8_1 3)), (64, .int .u32 t30.2), (65, .int .u32 (bxor .u32 (rd x8_1 3) t30.2)), (66, .int .u32 t45), (67, .pointer (some ⟨g4, (0 : Int).toNat, none⟩)), (68, .int .u32 (rd x8_1 0)), (69, .pointer (some ⟨g4, (1 : Int).toNat, none⟩))] W57 := by
                        intro W57 hS hM hcq36
                        refine RunAny.does 13 (by kernel_rfl) ((ld_y (d := some 70) (p := ⟨g4, (1 : Int).toNat, none⟩) (k2 := [.inRegion (opsOf (pl Go.Proofs.Try.f22 [1, 1, 1, 1, 0, 1, 0, 1, 0, 1, 0, 0, 1, 0, 0, 1])) []]) (.int .u32 (rd x8_1 1)) (by kernel_rfl)).does hcq36) hS ?_
                        refine RunAny.y 14 (by kernel_rfl) (yl_pure (d := some 71) (v := .agg (nums .u32 ([bxor .u32 t37 t30.1, t45, rd x8_1 0, rd x8_1 1] : List Int)).toArray) (k2 := [.inRegion (opsOf (pl Go.Proofs.Try.f22 [1, 1, 1, 1, 0, 1, 0, 1, 0, 1, 0, 0, 1, 0, 0, 1])) []]) fun w => by kernel_rfl) (fun _ _ => trivial) hS ?_
                        exact RunAny.same [0, 3, 5, 7, 10, 12, 1, 11, 13, 2, 4, 6, 8, 9, 14] (by kernel_rfl) [0, 8, 10, 11, 12, 57, 58, 59, 60, 61, 62, 63, 64, 65, 66, 67, 68, 69, 70, 71] (by kernel_rfl) (J51 _ hS (hM.pick [0] rfl rfl))
                      have J58 : ∀ (W59 : World) (hS : Still W59 [.pointer (some ⟨g4, 0, none⟩)] W59) (hM : Mem w W59 [⟨.pointer (some ⟨g4, 0, none⟩), 44, 0, nums .u32 x8_1⟩]) , RunAny Go.Proofs.Try.prog (Ret fun v w' => ∃ A0' n0' c0', v = .tuple #[.slice A0' n0' c0', .int .i64 r.2] ∧ Mem w w' [⟨.slice A0' n0' c0', 5, 1, nums .u8 r.1⟩]) 22 (rest1 (pl Go.Proofs.Try.f22 [1, 1, 1, 1, 0, 1, 0, 1, 0, 1, 0, 0, 1, 0, 0, 1])) 138 (opsOf (pl Go.Proofs.Try.f22 [1, 1, 1, 1, 0, 1, 0, 1, 0, 1, 0, 0, 1, 0, 0, 1])) (Still W59 [.pointer (some ⟨g4, 0, none⟩)]) 3 [0, 3, 5, 7, 10, 12, 1, 11, 13, 2, 4, 6, 8] [(0, .pointer (some ⟨gp0, 0, none⟩)), (8, .pointer (some ⟨g4, 0, none⟩)), (10, .int .i64 x10_1), (11, .int .u32 t30.1), (12, .int .u32 t30.2), (57, .pointer (some ⟨g4, (2 : Int).toNat, none⟩)), (58, .int .u32 (rd x8_1 2)), (59, .int .u32 t37), (60, .int .u32 t30.1), (61, .int .u32 (bxor .u32 t37 t30.1)), (62, .pointer (some ⟨g4, (3 : Int).toNat, none⟩)), (63, .int .u32 (rd x8_1 3)), (64, .int .u32 t30.2), (65, .int .u32 (bxor .u32 (rd x8_1 3) t30.2)), (67, .pointer (some ⟨g4, (0 : Int).toNat, none⟩)), (68, .int .u32 (rd x8_1 0)), (69, .pointer (some ⟨g4, (1 : Int).toNat, none⟩)), (70, .int .u32 (rd x8_1 1))] W59 := by
                        intro W59 hS hM 
                        refine RunAny.call 9 (d := some 66) (g := 27) (args := #[.int .u32 (bxor .u32 (rd x8_1 3) t30.2), .int .i64 (-1)]) (by kernel_rfl) (by kernel_rfl) (words_Rol32.calls k (bxor .u32 (rd x8_1 3) t30.2) (-1) t45 _ ht45) (by rintro _ _ ⟨rfl, hM_⟩; exact hS.below hM_.below) ?_
                        rintro _ W60 ⟨rfl, hM_⟩
                        replace hS := hS.below hM_.below
                        replace hM := hM.call hM_
                        clear hM_ ht45
                        refine RunAny.rebase hS ?_
                        replace hS := Still.refl W60 [.pointer (some ⟨g4, 0, none⟩)]
                        refine RunAny.y 14 (by kernel_rfl) (yl_pure (d := some 71) (v := .agg (nums .u32 ([bxor .u32 t37 t30.1, t45, rd x8_1 0, rd x8_1 1] : List Int)).toArray) (k2 := [.inRegion (opsOf (pl Go.Proofs.Try.f22 [1, 1, 1, 1, 0, 1, 0, 1, 0, 1, 0, 0, 1, 0, 0, 1])) []]) fun w => by kernel_rfl) (fun _ _ => trivial) hS ?_
                        exact RunAny.same [0, 3, 5, 7, 10, 12, 1, 11, 13, 2, 4, 6, 8, 9, 14] (by kernel_rfl) [0, 8, 10, 11, 12, 57, 58, 59, 60, 61, 62, 63, 64, 65, 66, 67, 68, 69, 70, 71] (by kernel_rfl) (J51 _ hS (hM.pick [0] rfl rfl))
                      have J61 : ∀ (W62 : World) (hS : Still W62 [.pointer (some ⟨g4, 0, none⟩)] W62) (hM : Mem w W62 [⟨.pointer (some ⟨g4, 0, none⟩), 44, 0, nums .u32 x8_1⟩]) (hcq35 : W62.cell? ⟨g4, (0 : Int).toNat, none⟩ = some (.int .u32 (rd x8_1 0))) (hcq36 : W62.cell? ⟨g4, (1 : Int).toNat, none⟩ = some (.int .u32 (rd x8_1 1))), RunAny Go.Proofs.Try.prog (Ret fun v w' => ∃ A0' n0' c0', v = .tuple #[.slice A0' n0' c0', .int .i64 r.2] ∧ Mem w w' [⟨.slice A0' n0' c0', 5, 1, nums .u8 r.1⟩]) 22 (rest1 (pl Go.Proofs.Try.f22 [1, 1, 1, 1, 0, 1, 0, 1, 0, 1, 0, 0, 1, 0, 0, 1])) 138 (opsOf (pl Go.Proofs.Try.f22 [1, 1, 1, 1, 0, 1, 0, 1, 0, 1, 0, 0, 1, 0, 0, 1])) (Still W62 [.pointer (some ⟨g4, 0, none⟩)]) 4 [0, 3, 5, 7, 10, 12, 1, 2, 4, 6, 8, 9] [(0, .pointer (some ⟨gp0, 0, none⟩)), (8, .pointer (some ⟨g4, 0, none⟩)), (10, .int .i64 x10_1), (11, .int .u32 t30.1), (12, .int .u32 t30.2), (57, .pointer (some ⟨g4, (2 : Int).toNat, none⟩)), (58, .int .u32 (rd x8_1 2)), (59, .int .u32 t37), (60, .int .u32 t30.1), (61, .int .u32 (bxor .u32 t37 t30.1)), (62, .pointer (some ⟨g4, (3 : Int).toNat, none⟩)), (63, .int .u32 (rd x8_1 3)), (64, .int .u32 t30.2), (65, .int .u32 (bxor .u32 (rd x8_1 3) t30.2)), (66, .int .u32 t45), (67, .pointer (some ⟨g4, (0 : Int).toNat, none⟩)), (69, .pointer (some ⟨g4, (1 : Int).toNat, none⟩))] W62 := by
                        intro W62 hS hM hcq35 hcq36
                        refine RunAny.all [11, 13] (by kernel_rfl) (by simp) ?_
                        refine ⟨?_, ?_, trivial⟩
                        · refine Stepped.does 11 ((ld_y (d := some 68) (p := ⟨g4, (0 : Int).toNat, none⟩) (k2 := [.inRegion (opsOf (pl Go.Proofs.Try.f22 [1, 1, 1, 1, 0, 1, 0, 1, 0, 1, 0, 0, 1, 0, 0, 1])) []]) (.int .u32 (rd x8_1 0)) (by kernel_rfl)).does hcq35) hS ?_
                          exact RunAny.same [0, 3, 5, 7, 10, 12, 1, 11, 2, 4, 6, 8, 9] (by kernel_rfl) [0, 8, 10, 11, 12, 57, 58, 59, 60, 61, 62, 63, 64, 65, 66, 67, 68, 69] (by kernel_rfl) (J56 _ hS (hM.pick [0] rfl rfl) hcq36)
                        · refine Stepped.does 13 ((ld_y (d := some 70) (p := ⟨g4, (1 : Int).toNat, none⟩) (k2 := [.inRegion (opsOf (pl Go.Proofs.Try.f22 [1, 1, 1, 1, 0, 1, 0, 1, 0, 1, 0, 0, 1, 0, 0, 1])) []]) (.int .u32 (rd x8_1 1)) (by kernel_rfl)).does hcq36) hS ?_
                          exact RunAny.same [0, 3, 5, 7, 10, 12, 1, 13, 2, 4, 6, 8, 9] (by kernel_rfl) [0, 8, 10, 11, 12, 57, 58, 59, 60, 61, 62, 63, 64, 65, 66, 67, 69, 70] (by kernel_rfl) (J54 _ hS (hM.pick [0] rfl rfl) hcq35)
                      have J63 : ∀ (W64 : World) (hS : Still W64 [.pointer (some ⟨g4, 0, none⟩)] W64) (hM : Mem w W64 [⟨.pointer (some ⟨g4, 0, none⟩), 44, 0, nums .u32 x8_1⟩]) (hcq35 : W64.cell? ⟨g4, (0 : Int).toNat, none⟩ = some (.int .u32 (rd x8_1 0))), RunAny Go.Proofs.Try.prog (Ret fun v w' => ∃ A0' n0' c0', v = .tuple #[.slice A0' n0' c0', .int .i64 r.2] ∧ Mem w w' [⟨.slice A0' n0' c0', 5, 1, nums .u8 r.1⟩]) 22 (rest1 (pl Go.Proofs.Try.f22 [1, 1, 1, 1, 0, 1, 0, 1, 0, 1, 0, 0, 1, 0, 0, 1])) 138 (opsOf (pl Go.Proofs.Try.f22 [1, 1, 1, 1, 0, 1, 0, 1, 0, 1, 0, 0, 1, 0, 0, 1])) (Still W64 [.pointer (some ⟨g4, 0, none⟩)]) 4 [0, 3, 5, 7, 10, 12, 1, 13, 2, 4, 6, 8] [(0, .pointer (some ⟨gp0, 0, none⟩)), (8, .pointer (some ⟨g4, 0, none⟩)), (10, .int .i64 x10_1), (11, .int .u32 t30.1), (12, .int .u32 t30.2), (57, .pointer (some ⟨g4, (2 : Int).toNat, none⟩)), (58, .int .u32 (rd x8_1 2)), (59, .int .u32 t37), (60, .int .u32 t30.1), (61, .int .u32 (bxor .u32 t37 t30.1)), (62, .pointer (some ⟨g4, (3 : Int).toNat, none⟩)), (63, .int .u32 (rd x8_1 3)), (64, .int .u32 t30.2), (65, .int .u32 (bxor .u32 (rd x8_1 3) t30.2)), (67, .pointer (some ⟨g4, (0 : Int).toNat, none⟩)), (69, .pointer (some ⟨g4, (1 : Int).toNat, none⟩)), (70, .int .u32 (rd x8_1 1))] W64 := by
                        intro W64 hS hM hcq35
                        refine RunAny.all [9, 11] (by kernel_rfl) (by simp) ?_
                        refine ⟨?_, ?_, trivial⟩
                        · refine Stepped.call 9 (d := some 66) (g := 27) (args := #[.int .u32 (bxor .u32 (rd x8_1 3) t30.2), .int .i64 (-1)]) (by kernel_rfl) (words_Rol32.calls k (bxor .u32 (rd x8_1 3) t30.2) (-1) t45 _ ht45) (by rintro _ _ ⟨rfl, hM_⟩; exact hS.below hM_.below) ?_
                          rintro _ W65 ⟨rfl, hM_⟩
                          replace hS := hS.below hM_.below
                          replace hM := hM.call hM_
                          clear hM_ ht45
                          replace hcq35 := (hM.arr_num 0 rfl (i := 0) (by omega) (N := 4) hlx8_1 (by decide)).1
                          refine RunAny.rebase hS ?_
                          replace hS := Still.refl W65 [.pointer (some ⟨g4, 0, none⟩)]
                          exact RunAny.same [0, 3, 5, 7, 10, 12, 1, 13, 2, 4, 6, 8, 9] (by kernel_rfl) [0, 8, 10, 11, 12, 57, 58, 59, 60, 61, 62, 63, 64, 65, 66, 67, 69, 70] (by kernel_rfl) (J54 _ hS (hM.pick [0] rfl rfl) hcq35)
                        · refine Stepped.does 11 ((ld_y (d := some 68) (p := ⟨g4, (0 : Int).toNat, none⟩) (k2 := [.inRegion (opsOf (pl Go.Proofs.Try.f22 [1, 1, 1, 1, 0, 1, 0, 1, 0, 1, 0, 0, 1, 0, 0, 1])) []]) (.int .u32 (rd x8_1 0)) (by kernel_rfl)).does hcq35) hS ?_
                          exact RunAny.same [0, 3, 5, 7, 10, 12, 1, 11, 13, 2, 4, 6, 8] (by kernel_rfl) [0, 8, 10, 11, 12, 57, 58, 59, 60, 61, 62, 63, 64, 65, 67, 68, 69, 70] (by kernel_rfl) (J58 _ hS (hM.pick [0] rfl rfl))
                      have J66 : ∀ (W67 : World) (hS : Still W67 [.pointer (some ⟨g4, 0, none⟩)] W67) (hM : Mem w W67 [⟨.pointer (some ⟨g4, 0, none⟩), 44, 0, nums .u32 x8_1⟩]) (hcq36 : W67.cell? ⟨g4, (1 : Int).toNat, none⟩ = some (.int .u32 (rd x8_1 1))), RunAny Go.Proofs.Try.prog (Ret fun v w' => ∃ A0' n0' c0', v = .tuple #[.slice A0' n0' c0', .int .i64 r.2] ∧ Mem w w' [⟨.slice A0' n0' c0', 5, 1, nums .u8 r.1⟩]) 22 (rest1 (pl Go.Proofs.Try.f22 [1, 1, 1, 1, 0, 1, 0, 1, 0, 1, 0, 0, 1, 0, 0, 1])) 138 (opsOf (pl Go.Proofs.Try.f22 [1, 1, 1, 1, 0, 1, 0, 1, 0, 1, 0, 0, 1, 0, 0, 1])) (Still W67 [.pointer (some ⟨g4, 0, none⟩)]) 4 [0, 3, 5, 7, 10, 12, 1, 11, 2, 4, 6, 8] [(0, .pointer (some ⟨gp0, 0, none⟩)), (8, .pointer (some ⟨g4, 0, none⟩)), (10, .int .i64 x10_1), (11, .int .u32 t30.1), (12, .int .u32 t30.2), (57, .pointer (some ⟨g4, (2 : Int).toNat, none⟩)), (58, .int .u32 (rd x8_1 2)), (59, .int .u32 t37), (60, .int .u32 t30.1), (61, .int .u32 (bxor .u32 t37 t30.1)), (62, .pointer (some ⟨g4, (3 : Int).toNat, none⟩)), (63, .int .u32 (rd x8_1 3)), (64, .int .u32 t30.2), (65, .int .u32 (bxor .u32 (rd x8_1 3) t30.2)), (67, .pointer (some ⟨g4, (0 : Int).toNat, none⟩)), (68, .int .u32 (rd x8_1 0)), (69, .pointer (some ⟨g4, (1 : Int).toNat, none⟩))] W67 := by
                        intro W67 hS hM hcq36
                        refine RunAny.all [9, 13] (by kernel_rfl) (by simp) ?_
                        refine ⟨?_, ?_, trivial⟩
                        · refine Stepped.call 9 (d := some 66) (g := 27) (args := #[.int .u32 (bxor .u32 (rd x8_1 3) t30.2), .int .i64 (-1)]) (by kernel_rfl) (words_Rol32.calls k (bxor .u32 (rd x8_1 3) t30.2) (-1) t45 _ ht45) (by rintro _ _ ⟨rfl, hM_⟩; exact hS.below hM_.below) ?_
                          rintro _ W68 ⟨rfl, hM_⟩
                          replace hS := hS.below hM_.below
                          replace hM := hM.call hM_
                          clear hM_ ht45
                          replace hcq36 := (hM.arr_num 0 rfl (i := 1) (by omega) (N := 4) hlx8_1 (by decide)).1
                          refine RunAny.rebase hS ?_
                          replace hS := Still.refl W68 [.pointer (some ⟨g4, 0, none⟩)]
                          exact RunAny.same [0, 3, 5, 7, 10, 12, 1, 11, 2, 4, 6, 8, 9] (by kernel_rfl) [0, 8, 10, 11, 12, 57, 58, 59, 60, 61, 62, 63, 64, 65, 66, 67, 68, 69] (by kernel_rfl) (J56 _ hS (hM.pick [0] rfl rfl) hcq36)
                        · refine Stepped.does 13 ((ld_y (d := some 70) (p := ⟨g4, (1 : Int).toNat, none⟩) (k2 := [.inRegion (opsOf (pl Go.Proofs.Try.f22 [1, 1, 1, 1, 0, 1, 0, 1, 0, 1, 0, 0, 1, 0, 0, 1])) []]) (.int .u32 (rd x8_1 1)) (by kernel_rfl)).does hcq36) hS ?_
                          exact RunAny.same [0, 3, 5, 7, 10, 12, 1, 11, 13, 2, 4, 6, 8] (by kernel_rfl) [0, 8, 10, 11, 12, 57, 58, 59, 60, 61, 62, 63, 64, 65, 67, 68, 69, 70] (by kernel_rfl) (J58 _ hS (hM.pick [0] rfl rfl))
                      have J69 : ∀ (W70 : World) (hS : Still W70 [.pointer (some ⟨g4, 0, none⟩)] W70) (hM : Mem w W70 [⟨.pointer (some ⟨g4, 0, none⟩), 44, 0, nums .u32 x8_1⟩]) , RunAny Go.Proofs.Try.prog (Ret fun v w' => ∃ A0' n0' c0', v = .tuple #[.slice A0' n0' c0', .int .i64 r.2] ∧ Mem w w' [⟨.slice A0' n0' c0', 5, 1, nums .u8 r.1⟩]) 22 (rest1 (pl Go.Proofs.Try.f22 [1, 1, 1, 1, 0, 1, 0, 1, 0, 1, 0, 0, 1, 0, 0, 1])) 138 (opsOf (pl Go.Proofs.Try.f22 [1, 1, 1, 1, 0, 1, 0, 1, 0, 1, 0, 0, 1, 0, 0, 1])) (Still W70 [.pointer (some ⟨g4, 0, none⟩)]) 5 [0, 3, 5, 7, 10, 12, 1, 11, 13, 6, 8] [(0, .pointer (some ⟨gp0, 0, none⟩)), (8, .pointer (some ⟨g4, 0, none⟩)), (10, .int .i64 x10_1), (11, .int .u32 t30.1), (12, .int .u32 t30.2), (57, .pointer (some ⟨g4, (2 : Int).toNat, none⟩)), (58, .int .u32 (rd x8_1 2)), (60, .int .u32 t30.1), (62, .pointer (some ⟨g4, (3 : Int).toNat, none⟩)), (63, .int .u32 (rd x8_1 3)), (64, .int .u32 t30.2), (65, .int .u32 (bxor .u32 (rd x8_1 3) t30.2)), (67, .pointer (some ⟨g4, (0 : Int).toNat, none⟩)), (68, .int .u32 (rd x8_1 0)), (69, .pointer (some ⟨g4, (1 : Int).toNat, none⟩)), (70, .int .u32 (rd x8_1 1))] W70 := by
                        intro W70 hS hM 
                        refine RunAny.call 2 (d := some 59) (g := 27) (args := #[.int .u32 (rd x8_1 2), .int .i64 1]) (by kernel_rfl) (by kernel_rfl) (words_Rol32.calls k (rd x8_1 2) 1 t37 _ ht37) (by rintro _ _ ⟨rfl, hM_⟩; exact hS.below hM_.below) ?_
                        rintro _ W71 ⟨rfl, hM_⟩
                        replace hS := hS.below hM_.below
                        replace hM := hM.call hM_
                        clear hM_ ht37
                        refine RunAny.rebase hS ?_
                        replace hS := Still.refl W71 [.pointer (some ⟨g4, 0, none⟩)]
                        refine RunAny.y 4 (by kernel_rfl) (yl_pure (d := some 61) (v := .int .u32 (bxor .u32 t37 t30.1)) (k2 := [.inRegion (opsOf (pl Go.Proofs.Try.f22 [1, 1, 1, 1, 0, 1, 0, 1, 0, 1, 0, 0, 1, 0, 0, 1])) []]) fun w => by kernel_rfl) (fun _ _ => trivial) hS ?_
                        exact RunAny.same [0, 3, 5, 7, 10, 12, 1, 11, 13, 2, 4, 6, 8] (by kernel_rfl) [0, 8, 10, 11, 12, 57, 58, 59, 60, 61, 62, 63, 64, 65, 67, 68, 69, 70] (by kernel_rfl) (J58 _ hS (hM.pick [0] rfl rfl))
                      have J72 : ∀ (W73 : World) (hS : Still W73 [.pointer (some ⟨g4, 0, none⟩)] W73) (hM : Mem w W73 [⟨.pointer (some ⟨g4, 0, none⟩), 44, 0, nums .u32 x8_1⟩]) (hcq34 : W73.cell? ⟨g4, (3 : Int).toNat, none⟩ = some (.int .u32 (rd x8_1 3))), RunAny Go.Proofs.Try.prog (Ret fun v w' => ∃ A0' n0' c0', v = .tuple #[.slice A0' n0' c0', .int .i64 r.2] ∧ Mem w w' [⟨.slice A0' n0' c0', 5, 1, nums .u8 r.1⟩]) 22 (rest1 (pl Go.Proofs.Try.f22 [1, 1, 1, 1, 0, 1, 0, 1, 0, 1, 0, 0, 1, 0, 0, 1])) 138 (opsOf (pl Go.Proofs.Try.f22 [1, 1, 1, 1, 0, 1, 0, 1, 0, 1, 0, 0, 1, 0, 0, 1])) (Still W73 [.pointer (some ⟨g4, 0, none⟩)]) 5 [0, 3, 5, 7, 10, 12, 1, 11, 13, 2, 4] [(0, .pointer (some ⟨gp0, 0, none⟩)), (8, .pointer (some ⟨g4, 0, none⟩)), (10, .int .i64 x10_1), (11, .int .u32 t30.1), (12, .int .u32 t30.2), (57, .pointer (some ⟨g4, (2 : Int).toNat, none⟩)), (58, .int .u32 (rd x8_1 2)), (59, .int .u32 t37), (60, .int .u32 t30.1), (61, .int .u32 (bxor .u32 t37 t30.1)), (62, .pointer (some ⟨g4, (3 : Int).toNat, none⟩)), (64, .int .u32 t30.2), (67, .pointer (some ⟨g4, (0 : Int).toNat, none⟩)), (68, .int .u32 (rd x8_1 0)), (69, .pointer (some ⟨g4, (1 : Int).toNat, none⟩)), (70, .int .u32 (rd x8_1 1))] W73 := by
                        intro W73 hS hM hcq34
                        refine RunAny.does 6 (by kernel_rfl) ((ld_y (d := some 63) (p := ⟨g4, (3 : Int).toNat, none⟩) (k2 := [.inRegion (opsOf (pl Go.Proofs.Try.f22 [1, 1, 1, 1, 0, 1, 0, 1, 0, 1, 0, 0, 1, 0, 0, 1])) []]) (.int .u32 (rd x8_1 3)) (by kernel_rfl)).does hcq34) hS ?_
                        refine RunAny.y 8 (by kernel_rfl) (yl_pure (d := some 65) (v := .int .u32 (bxor .u32 (rd x8_1 3) t30.2)) (k2 := [.inRegion (opsOf (pl Go.Proofs.Try.f22 [1, 1, 1, 1, 0, 1, 0, 1, 0, 1, 0, 0, 1, 0, 0, 1])) []]) fun w => by kernel_rfl) (fun _ _ => trivial) hS ?_
                        exact RunAny.same [0, 3, 5, 7, 10, 12, 1, 11, 13, 2, 4, 6, 8] (by kernel_rfl) [0, 8, 10, 11, 12, 57, 58, 59, 60, 61, 62, 63, 64, 65, 67, 68, 69, 70] (by kernel_rfl) (J58 _ hS (hM.pick [0] rfl rfl))
                      have J74 : ∀ (W75 : World) (hS : Still W75 [.pointer (some ⟨g4, 0, none⟩)] W75) (hM : Mem w W75 [⟨.pointer (some ⟨g4, 0, none⟩), 44, 0, nums .u32 x8_1⟩]) (hcq35 : W75.cell? ⟨g4, (0 : Int).toNat, none⟩ = some (.int .u32 (rd x8_1 0))) (hcq36 : W75.cell? ⟨g4, (1 : Int).toNat, none⟩ = some (.int .u32 (rd x8_1 1))), RunAny Go.Proofs.Try.prog (Ret fun v w' => ∃ A0' n0' c0', v = .tuple #[.slice A0' n0' c0', .int .i64 r.2] ∧ Mem w w' [⟨.slice A0' n0' c0', 5, 1, nums .u8 r.1⟩]) 22 (rest1 (pl Go.Proofs.Try.f22 [1, 1, 1, 1, 0, 1, 0, 1, 0, 1, 0, 0, 1, 0, 0, 1])) 138 (opsOf (pl Go.Proofs.Try.f22 [1, 1, 1, 1, 0, 1, 0, 1, 0, 1, 0, 0, 1, 0, 0, 1])) (Still W75 [.pointer (some ⟨g4, 0, none⟩)]) 5 [0, 3, 5, 7, 10, 12, 1, 2, 4, 6, 8] [(0, .pointer (some ⟨gp0, 0, none⟩)), (8, .pointer (some ⟨g4, 0, none⟩)), (10, .int .i64 x10_1), (11, .int .u32 t30.1), (12, .int .u32 t30.2), (57, .pointer (some ⟨g4, (2 : Int).toNat, none⟩)), (58, .int .u32 (rd x8_1 2)), (59, .int .u32 t37), (60, .int .u32 t30.1), (61, .int .u32 (bxor .u32 t37 t30.1)), (62, .pointer (some ⟨g4, (3 : Int).toNat, none⟩)), (63, .int .u32 (rd x8_1 3)), (64, .int .u32 t30.2), (65, .int .u32 (bxor .u32 (rd x8_1 3) t30.2)), (67, .pointer (some ⟨g4, (0 : Int).toNat, none⟩)), (69, .pointer (some ⟨g4, (1 : Int).toNat, none⟩))] W75 := by
                        intro W75 hS hM hcq35 hcq36
                        refine RunAny.all [9, 11, 13] (by kernel_rfl) (by simp) ?_
                        refine ⟨?_, ?_, ?_, trivial⟩
                        · refine Stepped.call 9 (d := some 66) (g := 27) (args := #[.int .u32 (bxor .u32 (rd x8_1 3) t30.2), .int .i64 (-1)]) (by kernel_rfl) (words_Rol32.calls k (bxor .u32 (rd x8_1 3) t30.2) (-1) t45 _ ht45) (by rintro _ _ ⟨rfl, hM_⟩; exact hS.below hM_.below) ?_
                          rintro _ W76 ⟨rfl, hM_⟩
                          replace hS := hS.below hM_.below
                          replace hM := hM.call hM_
                          clear hM_ ht45
                          replace hcq35 := (hM.arr_num 0 rfl (i := 0) (by omega) (N := 4) hlx8_1 (by decide)).1
                          replace hcq36 := (hM.arr_num 0 rfl (i := 1) (by omega) (N := 4) hlx8_1 (by decide)).1
                          refine RunAny.rebase hS ?_
                          replace hS := Still.refl W76 [.pointer (some ⟨g4, 0, none⟩)]
                          exact RunAny.same [0, 3, 5, 7, 10, 12, 1, 2, 4, 6, 8, 9] (by kernel_rfl) [0, 8, 10, 11, 12, 57, 58, 59, 60, 61, 62, 63, 64, 65, 66, 67, 69] (by kernel_rfl) (J61 _ hS (hM.pick [0] rfl rfl) hcq35 hcq36)
                        · refine Stepped.does 11 ((ld_y (d := some 68) (p := ⟨g4, (0 : Int).toNat, none⟩) (k2 := [.inRegion (opsOf (pl Go.Proofs.Try.f22 [1, 1, 1, 1, 0, 1, 0, 1, 0, 1, 0, 0, 1, 0, 0, 1])) []]) (.int .u32 (rd x8_1 0)) (by kernel_rfl)).does hcq35) hS ?_
                          exact RunAny.same [0, 3, 5, 7, 10, 12, 1, 11, 2, 4, 6, 8] (by kernel_rfl) [0, 8, 10, 11, 12, 57, 58, 59, 60, 61, 62, 63, 64, 65, 67, 68, 69] (by kernel_rfl) (J66 _ hS (hM.pick [0] rfl rfl) hcq36)
                        · refine Stepped.does 13 ((ld_y (d := some 70) (p := ⟨g4, (1 : Int).toNat, none⟩) (k2 := [.inRegion (opsOf (pl Go.Proofs.Try.f22 [1, 1, 1, 1, 0, 1, 0, 1, 0, 1, 0, 0, 1, 0, 0, 1])) []]) (.int .u32 (rd x8_1 1)) (by kernel_rfl)).does hcq36) hS ?_
                          exact RunAny.same [0, 3, 5, 7, 10, 12, 1, 13, 2, 4, 6, 8] (by kernel_rfl) [0, 8, 10, 11, 12, 57, 58, 59, 60, 61, 62, 63, 64, 65, 67, 69, 70] (by kernel_rfl) (J63 _ hS (hM.pick [0] rfl rfl) hcq35)
                      have J77 : ∀ (W78 : World) (hS : Still W78 [.pointer (some ⟨g4, 0, none⟩)] W78) (hM : Mem w W78 [⟨.pointer (some ⟨g4, 0, none⟩), 44, 0, nums .u32 x8_1⟩]) (hcq33 : W78.cell? ⟨g4, (2 : Int).toNat, none⟩ = some (.int .u32 (rd x8_1 2))), RunAny Go.Proofs.Try.prog (Ret fun v w' => ∃ A0' n0' c0', v = .tuple #[.slice A0' n0' c0', .int .i64 r.2] ∧ Mem w w' [⟨.slice A0' n0' c0', 5, 1, nums .u8 r.1⟩]) 22 (rest1 (pl Go.Proofs.Try.f22 [1, 1, 1, 1, 0, 1, 0, 1, 0, 1, 0, 0, 1, 0, 0, 1])) 138 (opsOf (pl Go.Proofs.Try.f22 [1, 1, 1, 1, 0, 1, 0, 1, 0, 1, 0, 0, 1, 0, 0, 1])) (Still W78 [.pointer (some ⟨g4, 0, none⟩)]) 6 [0, 3, 5, 7, 10, 12, 11, 13, 6, 8] [(0, .pointer (some ⟨gp0, 0, none⟩)), (8, .pointer (some ⟨g4, 0, none⟩)), (10, .int .i64 x10_1), (11, .int .u32 t30.1), (12, .int .u32 t30.2), (57, .pointer (some ⟨g4, (2 : Int).toNat, none⟩)), (60, .int .u32 t30.1), (62, .pointer (some ⟨g4, (3 : Int).toNat, none⟩)), (63, .int .u32 (rd x8_1 3)), (64, .int .u32 t30.2), (65, .int .u32 (bxor .u32 (rd x8_1 3) t30.2)), (67, .pointer (some ⟨g4, (0 : Int).toNat, none⟩)), (68, .int .u32 (rd x8_1 0)), (69, .pointer (some ⟨g4, (1 : Int).toNat, none⟩)), (70, .int .u32 (rd x8_1 1))] W78 := by
                        intro W78 hS hM hcq33
                        refine RunAny.does 1 (by kernel_rfl) ((ld_y (d := some 58) (p := ⟨g4, (2 : Int).toNat, none⟩) (k2 := [.inRegion (opsOf (pl Go.Proofs.Try.f22 [1, 1, 1, 1, 0, 1, 0, 1, 0, 1, 0, 0, 1, 0, 0, 1])) []]) (.int .u32 (rd x8_1 2)) (by kernel_rfl)).does hcq33) hS ?_
                        exact RunAny.same [0, 3, 5, 7, 10, 12, 1, 11, 13, 6, 8] (by kernel_rfl) [0, 8, 10, 11, 12, 57, 58, 60, 62, 63, 64, 65, 67, 68, 69, 70] (by kernel_rfl) (J69 _ hS (hM.pick [0] rfl rfl))
                      have J79 : ∀ (W80 : World) (hS : Still W80 [.pointer (some ⟨g4, 0, none⟩)] W80) (hM : Mem w W80 [⟨.pointer (some ⟨g4, 0, none⟩), 44, 0, nums .u32 x8_1⟩]) (hcq35 : W80.cell? ⟨g4, (0 : Int).toNat, none⟩ = some (.int .u32 (rd x8_1 0))), RunAny Go.Proofs.Try.prog (Ret fun v w' => ∃ A0' n0' c0', v = .tuple #[.slice A0' n0' c0', .int .i64 r.2] ∧ Mem w w' [⟨.slice A0' n0' c0', 5, 1, nums .u8 r.1⟩]) 22 (rest1 (pl Go.Proofs.Try.f22 [1, 1, 1, 1, 0, 1, 0, 1, 0, 1, 0, 0, 1, 0, 0, 1])) 138 (opsOf (pl Go.Proofs.Try.f22 [1, 1, 1, 1, 0, 1, 0, 1, 0, 1, 0, 0, 1, 0, 0, 1])) (Still W80 [.pointer (some ⟨g4, 0, none⟩)]) 6 [0, 3, 5, 7, 10, 12, 1, 13, 6, 8] [(0, .pointer (some ⟨gp0, 0, none⟩)), (8, .pointer (some ⟨g4, 0, none⟩)), (10, .int .i64 x10_1), (11, .int .u32 t30.1), (12, .int .u32 t30.2), (57, .pointer (some ⟨g4, (2 : Int).toNat, none⟩)), (58, .int .u32 (rd x8_1 2)), (60, .int .u32 t30.1), (62, .pointer (some ⟨g4, (3 : Int).toNat, none⟩)), (63, .int .u32 (rd x8_1 3)), (64, .int .u32 t30.2), (65, .int .u32 (bxor .u32 (rd x8_1 3) t30.2)), (67, .pointer (some ⟨g4, (0 : Int).toNat, none⟩)), (69, .pointer (some ⟨g4, (1 : Int).toNat, none⟩)), (70, .int .u32 (rd x8_1 1))] W80 := by
                        intro W80 hS hM hcq35
                        refine RunAny.all [2, 11] (by kernel_rfl) (by simp) ?_
                        refine ⟨?_, ?_, trivial⟩
                        · refine Stepped.call 2 (d := some 59) (g := 27) (args := #[.int .u32 (rd x8_1 2), .int .i64 1]) (by kernel_rfl) (words_Rol32.calls k (rd x8_1 2) 1 t37 _ ht37) (by rintro _ _ ⟨rfl, hM_⟩; exact hS.below hM_.below) ?_
                          rintro _ W81 ⟨rfl, hM_⟩
                          replace hS := hS.below hM_.below
                          replace hM := hM.call hM_
                          clear hM_ ht37
                          replace hcq35 := (hM.arr_num 0 rfl (i := 0) (by omega) (N := 4) hlx8_1 (by decide)).1
                          refine RunAny.rebase hS ?_
                          replace hS := Still.refl W81 [.pointer (some ⟨g4, 0, none⟩)]
                          refine RunAny.y 4 (by kernel_rfl) (yl_pure (d := some 61) (v := .int .u32 (bxor .u32 t37 t30.1)) (k2 := [.inRegion (opsOf (pl Go.Proofs.Try.f22 [1, 1, 1, 1, 0, 1, 0, 1, 0, 1, 0, 0, 1, 0, 0, 1])) []]) fun w => by kernel_rfl) (fun _ _ => trivial) hS ?_
                          exact RunAny.same [0, 3, 5, 7, 10, 12, 1, 13, 2, 4, 6, 8] (by kernel_rfl) [0, 8, 10, 11, 12, 57, 58, 59, 60, 61, 62, 63, 64, 65, 67, 69, 70] (by kernel_rfl) (J63 _ hS (hM.pick [0] rfl rfl) hcq35)
                        · refine Stepped.does 11 ((ld_y (d := some 68) (p := ⟨g4, (0 : Int).toNat, none⟩) (k2 := [.inRegion (opsOf (pl Go.Proofs.Try.f22 [1, 1, 1, 1, 0, 1, 0, 1, 0, 1, 0, 0, 1, 0, 0, 1])) []]) (.int .u32 (rd x8_1 0)) (by kernel_rfl)).does hcq35) hS ?_
                          exact RunAny.same [0, 3, 5, 7, 10, 12, 1, 11, 13, 6, 8] (by kernel_rfl) [0, 8, 10, 11, 12, 57, 58, 60, 62, 63, 64, 65, 67, 68, 69, 70] (by kernel_rfl) (J69 _ hS (hM.pick [0] rfl rfl))
                      have J82 : ∀ (W83 : World) (hS : Still W83 [.pointer (some ⟨g4, 0, none⟩)] W83) (hM : Mem w W83 [⟨.pointer (some ⟨g4, 0, none⟩), 44, 0, nums .u32 x8_1⟩]) (hcq34 : W83.cell? ⟨g4, (3 : Int).toNat, none⟩ = some (.int .u32 (rd x8_1 3))) (hcq35 : W83.cell? ⟨g4, (0 : Int).toNat, none⟩ = some (.int .u32 (rd x8_1 0))), RunAny Go.Proofs.Try.prog (Ret fun v w' => ∃ A0' n0' c0', v = .tuple #[.slice A0' n0' c0', .int .i64 r.2] ∧ Mem w w' [⟨.slice A0' n0' c0', 5, 1, nums .u8 r.1⟩]) 22 (rest1 (pl Go.Proofs.Try.f22 [1, 1, 1, 1, 0, 1, 0, 1, 0, 1, 0, 0, 1, 0, 0, 1])) 138 (opsOf (pl Go.Proofs.Try.f22 [1, 1, 1, 1, 0, 1, 0, 1, 0, 1, 0, 0, 1, 0, 0, 1])) (Still W83 [.pointer (some ⟨g4, 0, none⟩)]) 6 [0, 3, 5, 7, 10, 12, 1, 13, 2, 4] [(0, .pointer (some ⟨gp0, 0, none⟩)), (8, .pointer (some ⟨g4, 0, none⟩)), (10, .int .i64 x10_1), (11, .int .u32 t30.1), (12, .int .u32 t30.2), (57, .pointer (some ⟨g4, (2 : Int).toNat, none⟩)), (58, .int .u32 (rd x8_1 2)), (59, .int .u32 t37), (60, .int .u32 t30.1), (61, .int .u32 (bxor .u32 t37 t30.1)), (62, .pointer (some ⟨g4, (3 : Int).toNat, none⟩)), (64, .int .u32 t30.2), (67, .pointer (some ⟨g4, (0 : Int).toNat, none⟩)), (69, .pointer (some ⟨g4, (1 : Int).toNat, none⟩)), (70, .int .u32 (rd x8_1 1))] W83 := by
                        intro W83 hS hM hcq34 hcq35
                        refine RunAny.all [6, 11] (by kernel_rfl) (by simp) ?_
                        refine ⟨?_, ?_, trivial⟩
                        · refine Stepped.does 6 ((ld_y (d := some 63) (p := ⟨g4, (3 : Int).toNat, none⟩) (k2 := [.inRegion (opsOf (pl Go.Proofs.Try.f22 [1, 1, 1, 1, 0, 1, 0, 1, 0, 1, 0, 0, 1, 0, 0, 1])) []]) (.int .u32 (rd x8_1 3)) (by kernel_rfl)).does hcq34) hS ?_
                          refine RunAny.y 8 (by kernel_rfl) (yl_pure (d := some 65) (v := .int .u32 (bxor .u32 (rd x8_1 3) t30.2)) (k2 := [.inRegion (opsOf (pl Go.Proofs.Try.f22 [1, 1, 1, 1, 0, 1, 0, 1, 0, 1, 0, 0, 1, 0, 0, 1])) []]) fun w => by kernel_rfl) (fun _ _ => trivial) hS ?_
                          exact RunAny.same [0, 3, 5, 7, 10, 12, 1, 13, 2, 4, 6, 8] (by kernel_rfl) [0, 8, 10, 11, 12, 57, 58, 59, 60, 61, 62, 63, 64, 65, 67, 69, 70] (by kernel_rfl) (J63 _ hS (hM.pick [0] rfl rfl) hcq35)
                        · refine Stepped.does 11 ((ld_y (d := some 68) (p := ⟨g4, (0 : Int).toNat, none⟩) (k2 := [.inRegion (opsOf (pl Go.Proofs.Try.f22 [1, 1, 1, 1, 0, 1, 0, 1, 0, 1, 0, 0, 1, 0, 0, 1])) []]) (.int .u32 (rd x8_1 0)) (by kernel_rfl)).does hcq35) hS ?_
                          exact RunAny.same [0, 3, 5, 7, 10, 12, 1, 11, 13, 2, 4] (by kernel_rfl) [0, 8, 10, 11, 12, 57, 58, 59, 60, 61, 62, 64, 67, 68, 69, 70] (by kernel_rfl) (J72 _ hS (hM.pick [0] rfl rfl) hcq34)
                      have J84 : ∀ (W85 : World) (hS : Still W85 [.pointer (some ⟨g4, 0, none⟩)] W85) (hM : Mem w W85 [⟨.pointer (some ⟨g4, 0, none⟩), 44, 0, nums .u32 x8_1⟩]) (hcq36 : W85.cell? ⟨g4, (1 : Int).toNat, none⟩ = some (.int .u32 (rd x8_1 1))), RunAny Go.Proofs.Try.prog (Ret fun v w' => ∃ A0' n0' c0', v = .tuple #[.slice A0' n0' c0', .int .i64 r.2] ∧ Mem w w' [⟨.slice A0' n0' c0', 5, 1, nums .u8 r.1⟩]) 22 (rest1 (pl Go.Proofs.Try.f22 [1, 1, 1, 1, 0, 1, 0, 1, 0, 1, 0, 0, 1, 0, 0, 1])) 138 (opsOf (pl Go.Proofs.Try.f22 [1, 1, 1, 1, 0, 1, 0, 1, 0, 1, 0, 0, 1, 0, 0, 1])) (Still W85 [.pointer (some ⟨g4, 0, none⟩)]) 6 [0, 3, 5, 7, 10, 12, 1, 11, 6, 8] [(0, .pointer (some ⟨gp0, 0, none⟩)), (8, .pointer (some ⟨g4, 0, none⟩)), (10, .int .i64 x10_1), (11, .int .u32 t30.1), (12, .int .u32 t30.2), (57, .pointer (some ⟨g4, (2 : Int).toNat, none⟩)), (58, .int .u32 (rd x8_1 2)), (60, .int .u32 t30.1), (62, .pointer (some ⟨g4, (3 : Int).toNat, none⟩)), (63, .int .u32 (rd x8_1 3)), (64, .int .u32 t30.2), (65, .int .u32 (bxor .u32 (rd x8_1 3) t30.2)), (67, .pointer (some ⟨g4, (0 : Int).toNat, none⟩)), (68, .int .u32 (rd x8_1 0)), (69, .pointer (some ⟨g4, (1 : Int).toNat, none⟩))] W85 := by
                        intro W85 hS hM hcq36
                        refine RunAny.all [2, 13] (by kernel_rfl) (by simp) ?_
                        refine ⟨?_, ?_, trivial⟩
                        · refine Stepped.call 2 (d := some 59) (g := 27) (args := #[.int .u32 (rd x8_1 2), .int .i64 1]) (by kernel_rfl) (words_Rol32.calls k (rd x8_1 2) 1 t37 _ ht37) (by rintro _ _ ⟨rfl, hM_⟩; exact hS.below hM_.below) ?_
                          rintro _ W86 ⟨rfl, hM_⟩
                          replace hS := hS.below hM_.below
                          replace hM := hM.call hM_
                          clear hM_ ht37
                          replace hcq36 := (hM.arr_num 0 rfl (i := 1) (by omega) (N := 4) hlx8_1 (by decide)).1
                          refine RunAny.rebase hS ?_
                          replace hS := Still.refl W86 [.pointer (some ⟨g4, 0, none⟩)]
                          refine RunAny.y 4 (by kernel_rfl) (yl_pure (d := some 61) (v := .int .u32 (bxor .u32 t37 t30.1)) (k2 := [.inRegion (opsOf (pl Go.Proofs.Try.f22 [1, 1, 1, 1, 0, 1, 0, 1, 0, 1, 0, 0, 1, 0, 0, 1])) []]) fun w => by kernel_rfl) (fun _ _ => trivial) hS ?_
                          exact RunAny.same [0, 3, 5, 7, 10, 12, 1, 11, 2, 4, 6, 8] (by kernel_rfl) [0, 8, 10, 11, 12, 57, 58, 59, 60, 61, 62, 63, 64, 65, 67, 68, 69] (by kernel_rfl) (J66 _ hS (hM.pick [0] rfl rfl) hcq36)
                        · refine Stepped.does 13 ((ld_y (d := some 70) (p := ⟨g4, (1 : Int).toNat, none⟩) (k2 := [.inRegion (opsOf (pl Go.Proofs.Try.f22 [1, 1, 1, 1, 0, 1, 0, 1, 0, 1, 0, 0, 1, 0, 0, 1])) []]) (.int .u32 (rd x8_1 1)) (by kernel_rfl)).does hcq36) hS ?_
                          exact RunAny.same [0, 3, 5, 7, 10, 12, 1, 11, 13, 6, 8] (by kernel_rfl) [0, 8, 10, 11, 12, 57, 58, 60, 62, 63, 64, 65, 67, 68, 69, 70] (by kernel_rfl) (J69 _ hS (hM.pick [0] rfl rfl))
                      have J87 : ∀ (W88 : World) (hS : Still W88 [.pointer (some ⟨g4, 0, none⟩)] W88) (hM : Mem w W88 [⟨.pointer (some ⟨g4, 0, none⟩), 44, 0, nums .u32 x8_1⟩]) (hcq34 : W88.cell? ⟨g4, (3 : Int).toNat, none⟩ = some (.int .u32 (rd x8_1 3))) (hcq36 : W88.cell? ⟨g4, (1 : Int).toNat, none⟩ = some (.int .u32 (rd x8_1 1))), RunAny Go.Proofs.Try.prog (Ret fun v w' => ∃ A0' n0' c0', v = .tuple #[.slice A0' n0' c0', .int .i64 r.2] ∧ Mem w w' [⟨.slice A0' n0' c0', 5, 1, nums .u8 r.1⟩]) 22 (rest1 (pl Go.Proofs.Try.f22 [1, 1, 1, 1, 0, 1, 0, 1, 0, 1, 0, 0, 1, 0, 0, 1])) 138 (opsOf (pl Go.Proofs.Try.f22 [1, 1, 1, 1, 0, 1, 0, 1, 0, 1, 0, 0, 1, 0, 0, 1])) (Still W88 [.pointer (some ⟨g4, 0, none⟩)]) 6 [0, 3, 5, 7, 10, 12, 1, 11, 2, 4] [(0, .pointer (some ⟨gp0, 0, none⟩)), (8, .pointer (some ⟨g4, 0, none⟩)), (10, .int .i64 x10_1), (11, .int .u32 t30.1), (12, .int .u32 t30.2), (57, .pointer (some ⟨g4, (2 : Int).toNat, none⟩)), (58, .int .u32 (rd x8_1 2)), (59, .int .u32 t37), (60, .int .u32 t30.1), (61, .int .u32 (bxor .u32 t37 t30.1)), (62, .pointer (some ⟨g4, (3 : Int).toNat, none⟩)), (64, .int .u32 t30.2), (67, .pointer (some ⟨g4, (0 : Int).toNat, none⟩)), (68, .int .u32 (rd x8_1 0)), (69, .pointer (some ⟨g4, (1 : Int).toNat, none⟩))] W88 := by
                        intro W88 hS hM hcq34 hcq36
                        refine RunAny.all [6, 13] (by kernel_rfl) (by simp) ?_
                        refine ⟨?_, ?_, trivial⟩
                        · refine Stepped.does 6 ((ld_y (d := some 63) (p := ⟨g4, (3 : Int).toNat, none⟩) (k2 := [.inRegion (opsOf (pl Go.Proofs.Try.f22 [1, 1, 1, 1, 0, 1, 0, 1, 0, 1, 0, 0, 1, 0, 0, 1])) []]) (.int .u32 (rd x8_1 3)) (by kernel_rfl)).does hcq34) hS ?_
                          refine RunAny.y 8 (by kernel_rfl) (yl_pure (d := some 65) (v := .int .u32 (bxor .u32 (rd x8_1 3) t30.2)) (k2 := [.inRegion (opsOf (pl Go.Proofs.Try.f22 [1, 1, 1, 1, 0, 1, 0, 1, 0, 1, 0, 0, 1, 0, 0, 1])) []]) fun w => by kernel_rfl) (fun _ _ => trivial) hS ?_
                          exact RunAny.same [0, 3, 5, 7, 10, 12, 1, 11, 2, 4, 6, 8] (by kernel_rfl) [0, 8, 10, 11, 12, 57, 58, 59, 60, 61, 62, 63, 64, 65, 67, 68, 69] (by kernel_rfl) (J66 _ hS (hM.pick [0] rfl rfl) hcq36)
                        · refine Stepped.does 13 ((ld_y (d := some 70) (p := ⟨g4, (1 : Int).toNat, none⟩) (k2 := [.inRegion (opsOf (pl Go.Proofs.Try.f22 [1, 1, 1, 1, 0, 1, 0, 1, 0, 1, 0, 0, 1, 0, 0, 1])) []]) (.int .u32 (rd x8_1 1)) (by kernel_rfl)).does hcq36) hS ?_
                          exact RunAny.same [0, 3, 5, 7, 10, 12, 1, 11, 13, 2, 4] (by kernel_rfl) [0, 8, 10, 11, 12, 57, 58, 59, 60, 61, 62, 64, 67, 68, 69, 70] (by kernel_rfl) (J72 _ hS (hM.pick [0] rfl rfl) hcq34)
                      have J89 : ∀ (W90 : World) (hS : Still W90 [.pointer (some ⟨g4, 0, none⟩)] W90) (hM : Mem w W90 [⟨.pointer (some ⟨g4, 0, none⟩), 44, 0, nums .u32 x8_1⟩]) (hcq34 : W90.cell? ⟨g4, (3 : Int).toNat, none⟩ = some (.int .u32 (rd x8_1 3))), RunAny Go.Proofs.Try.prog (Ret fun v w' => ∃ A0' n0' c0', v = .tuple #[.slice A0' n0' c0', .int .i64 r.2] ∧ Mem w w' [⟨.slice A0' n0' c0', 5, 1, nums .u8 r.1⟩]) 22 (rest1 (pl Go.Proofs.Try.f22 [1, 1, 1, 1, 0, 1, 0, 1, 0, 1, 0, 0, 1, 0, 0, 1])) 138 (opsOf (pl Go.Proofs.Try.f22 [1, 1, 1, 1, 0, 1, 0, 1, 0, 1, 0, 0, 1, 0, 0, 1])) (Still W90 [.pointer (some ⟨g4, 0, none⟩)]) 7 [0, 3, 5, 7, 10, 12, 1, 11, 13] [(0, .pointer (some ⟨gp0, 0, none⟩)), (8, .pointer (some ⟨g4, 0, none⟩)), (10, .int .i64 x10_1), (11, .int .u32 t30.1), (12, .int .u32 t30.2), (57, .pointer (some ⟨g4, (2 : Int).toNat, none⟩)), (58, .int .u32 (rd x8_1 2)), (60, .int .u32 t30.1), (62, .pointer (some ⟨g4, (3 : Int).toNat, none⟩)), (64, .int .u32 t30.2), (67, .pointer (some ⟨g4, (0 : Int).toNat, none⟩)), (68, .int .u32 (rd x8_1 0)), (69, .pointer (some ⟨g4, (1 : Int).toNat, none⟩)), (70, .int .u32 (rd x8_1 1))] W90 := by
                        intro W90 hS hM hcq34
                        refine RunAny.all [2, 6] (by kernel_rfl) (by simp) ?_
                        refine ⟨?_, ?_, trivial⟩
                        · refine Stepped.call 2 (d := some 59) (g := 27) (args := #[.int .u32 (rd x8_1 2), .int .i64 1]) (by kernel_rfl) (words_Rol32.calls k (rd x8_1 2) 1 t37 _ ht37) (by rintro _ _ ⟨rfl, hM_⟩; exact hS.below hM_.below) ?_
                          rintro _ W91 ⟨rfl, hM_⟩
                          replace hS := hS.below hM_.below
                          replace hM := hM.call hM_
                          clear hM_ ht37
                          replace hcq34 := (hM.arr_num 0 rfl (i := 3) (by omega) (N := 4) hlx8_1 (by decide)).1
                          refine RunAny.rebase hS ?_
                          replace hS := Still.refl W91 [.pointer (some ⟨g4, 0, none⟩)]
                          refine RunAny.y 4 (by kernel_rfl) (yl_pure (d := some 61) (v := .int .u32 (bxor .u32 t37 t30.1)) (k2 := [.inRegion (opsOf (pl Go.Proofs.Try.f22 [1, 1, 1, 1, 0, 1, 0, 1, 0, 1, 0, 0, 1, 0, 0, 1])) []]) fun w => by kernel_rfl) (fun _ _ => trivial) hS ?_
                          exact RunAny.same [0, 3, 5, 7, 10, 12, 1, 11, 13, 2, 4] (by kernel_rfl) [0, 8, 10, 11, 12, 57, 58, 59, 60, 61, 62, 64, 67, 68, 69, 70] (by kernel_rfl) (J72 _ hS (hM.pick [0] rfl rfl) hcq34)
                        · refine Stepped.does 6 ((ld_y (d := some 63) (p := ⟨g4, (3 : Int).toNat, none⟩) (k2 := [.inRegion (opsOf (pl Go.Proofs.Try.f22 [1, 1, 1, 1, 0, 1, 0, 1, 0, 1, 0, 0, 1, 0, 0, 1])) []]) (.int .u32 (rd x8_1 3)) (by kernel_rfl)).does hcq34) hS ?_
                          refine RunAny.y 8 (by kernel_rfl) (yl_pure (d := some 65) (v := .int .u32 (bxor .u32 (rd x8_1 3) t30.2)) (k2 := [.inRegion (opsOf (pl Go.Proofs.Try.f22 [1, 1, 1, 1, 0, 1, 0, 1, 0, 1, 0, 0, 1, 0, 0, 1])) []]) fun w => by kernel_rfl) (fun _ _ => trivial) hS ?_
                          exact RunAny.same [0, 3, 5, 7, 10, 12, 1, 11, 13, 6, 8] (by kernel_rfl) [0, 8, 10, 11, 12, 57, 58, 60, 62, 63, 64, 65, 67, 68, 69, 70] (by kernel_rfl) (J69 _ hS (hM.pick [0] rfl rfl))
                      have J92 : ∀ (W93 : World) (hS : Still W93 [.pointer (some ⟨g4, 0, none⟩)] W93) (hM : Mem w W93 [⟨.pointer (some ⟨g4, 0, none⟩), 44, 0, nums .u32 x8_1⟩]) (hcq33 : W93.cell? ⟨g4, (2 : Int).toNat, none⟩ = some (.int .u32 (rd x8_1 2))) (hcq35 : W93.cell? ⟨g4, (0 : Int).toNat, none⟩ = some (.int .u32 (rd x8_1 0))), RunAny Go.Proofs.Try.prog (Ret fun v w' => ∃ A0' n0' c0', v = .tuple #[.slice A0' n0' c0', .int .i64 r.2] ∧ Mem w w' [⟨.slice A0' n0' c0', 5, 1, nums .u8 r.1⟩]) 22 (rest1 (pl Go.Proofs.Try.f22 [1, 1, 1, 1, 0, 1, 0, 1, 0, 1, 0, 0, 1, 0, 0, 1])) 138 (opsOf (pl Go.Proofs.Try.f22 [1, 1, 1, 1, 0, 1, 0, 1, 0, 1, 0, 0, 1, 0, 0, 1])) (Still W93 [.pointer (some ⟨g4, 0, none⟩)]) 7 [0, 3, 5, 7, 10, 12, 13, 6, 8] [(0, .pointer (some ⟨gp0, 0, none⟩)), (8, .pointer (some ⟨g4, 0, none⟩)), (10, .int .i64 x10_1), (11, .int .u32 t30.1), (12, .int .u32 t30.2), (57, .pointer (some ⟨g4, (2 : Int).toNat, none⟩)), (60, .int .u32 t30.1), (62, .pointer (some ⟨g4, (3 : Int).toNat, none⟩)), (63, .int .u32 (rd x8_1 3)), (64, .int .u32 t30.2), (65, .int .u32 (bxor .u32 (rd x8_1 3) t30.2)), (67, .pointer (some ⟨g4, (0 : Int).toNat, none⟩)), (69, .pointer (some ⟨g4, (1 : Int).toNat, none⟩)), (70, .int .u32 (rd x8_1 1))] W93 := by
                        intro W93 hS hM hcq33 hcq35
                        refine RunAny.all [1, 11] (by kernel_rfl) (by simp) ?_
                        refine ⟨?_, ?_, trivial⟩
                        · refine Stepped.does 1 ((ld_y (d := some 58) (p := ⟨g4, (2 : Int).toNat, none⟩) (k2 := [.inRegion (opsOf (pl Go.Proofs.Try.f22 [1, 1, 1, 1, 0, 1, 0, 1, 0, 1, 0, 0, 1, 0, 0, 1])) []]) (.int .u32 (rd x8_1 2)) (by kernel_rfl)).does hcq33) hS ?_
                          exact RunAny.same [0, 3, 5, 7, 10, 12, 1, 13, 6, 8] (by kernel_rfl) [0, 8, 10, 11, 12, 57, 58, 60, 62, 63, 64, 65, 67, 69, 70] (by kernel_rfl) (J79 _ hS (hM.pick [0] rfl rfl) hcq35)
                        · refine Stepped.does 11 ((ld_y (d := some 68) (p := ⟨g4, (0 : Int).toNat, none⟩) (k2 := [.inRegion (opsOf (pl Go.Proofs.Try.f22 [1, 1, 1, 1, 0, 1, 0, 1, 0, 1, 0, 0, 1, 0, 0, 1])) []]) (.int .u32 (rd x8_1 0)) (by kernel_rfl)).does hcq35) hS ?_
                          exact RunAny.same [0, 3, 5, 7, 10, 12, 11, 13, 6, 8] (by kernel_rfl) [0, 8, 10, 11, 12, 57, 60, 62, 63, 64, 65, 67, 68, 69, 70] (by kernel_rfl) (J77 _ hS (hM.pick [0] rfl rfl) hcq33)
                      have J94 : ∀ (W95 : World) (hS : Still W95 [.pointer (some ⟨g4, 0, none⟩)] W95) (hM : Mem w W95 [⟨.pointer (some ⟨g4, 0, none⟩), 44, 0, nums .u32 x8_1⟩]) (hcq33 : W95.cell? ⟨g4, (2 : Int).toNat, none⟩ = some (.int .u32 (rd x8_1 2))) (hcq36 : W95.cell? ⟨g4, (1 : Int).toNat, none⟩ = some (.int .u32 (rd x8_1 1))), RunAny Go.Proofs.Try.prog (Ret fun v w' => ∃ A0' n0' c0', v = .tuple #[.slice A0' n0' c0', .int .i64 r.2] ∧ Mem w w' [⟨.slice A0' n0' c0', 5, 1, nums .u8 r.1⟩]) 22 (rest1 (pl Go.Proofs.Try.f22 [1, 1, 1, 1, 0, 1, 0, 1, 0, 1, 0, 0, 1, 0, 0, 1])) 138 (opsOf (pl Go.Proofs.Try.f22 [1, 1, 1, 1, 0, 1, 0, 1, 0, 1, 0, 0, 1, 0, 0, 1])) (Still W95 [.pointer (some ⟨g4, 0, none⟩)]) 7 [0, 3, 5, 7, 10, 12, 11, 6, 8] [(0, .pointer (some ⟨gp0, 0, none⟩)), (8, .pointer (some ⟨g4, 0, none⟩)), (10, .int .i64 x10_1), (11, .int .u32 t30.1), (12, .int .u32 t30.2), (57, .pointer (some ⟨g4, (2 : Int).toNat, none⟩)), (60, .int .u32 t30.1), (62, .pointer (some ⟨g4, (3 : Int).toNat, none⟩)), (63, .int .u32 (rd x8_1 3)), (64, .int .u32 t30.2), (65, .int .u32 (bxor .u32 (rd x8_1 3) t30.2)), (67, .pointer (some ⟨g4, (0 : Int).toNat, none⟩)), (68, .int .u32 (rd x8_1 0)), (69, .pointer (some ⟨g4, (1 : Int).toNat, none⟩))] W95 := by
                        intro W95 hS hM hcq33 hcq36
                        refine RunAny.all [1, 13] (by kernel_rfl) (by simp) ?_
                        refine ⟨?_, ?_, trivial⟩
                        · refine Stepped.does 1 ((ld_y (d := some 58) (p := ⟨g4, (2 : Int).toNat, none⟩) (k2 := [.inRegion (opsOf (pl Go.Proofs.Try.f22 [1, 1, 1, 1, 0, 1, 0, 1, 0, 1, 0, 0, 1, 0, 0, 1])) []]) (.int .u32 (rd x8_1 2)) (by kernel_rfl)).does hcq33) hS ?_
                          exact RunAny.same [0, 3, 5, 7, 10, 12, 1, 11, 6, 8] (by kernel_rfl) [0, 8, 10, 11, 12, 57, 58, 60, 62, 63, 64, 65, 67, 68, 69] (by kernel_rfl) (J84 _ hS (hM.pick [0] rfl rfl) hcq36)
                        · refine Stepped.does 13 ((ld_y (d := some 70) (p := ⟨g4, (1 : Int).toNat, none⟩) (k2 := [.inRegion (opsOf (pl Go.Proofs.Try.f22 [1, 1, 1, 1, 0, 1, 0, 1, 0, 1, 0, 0, 1, 0, 0, 1])) []]) (.int .u32 (rd x8_1 1)) (by kernel_rfl)).does hcq36) hS ?_
                          exact RunAny.same [0, 3, 5, 7, 10, 12, 11, 13, 6, 8] (by kernel_rfl) [0, 8, 10, 11, 12, 57, 60, 62, 63, 64, 65, 67, 68, 69, 70] (by kernel_rfl) (J77 _ hS (hM.pick [0] rfl rfl) hcq33)
                      have J96 : ∀ (W97 : World) (hS : Still W97 [.pointer (some ⟨g4, 0, none⟩)] W97) (hM : Mem w W97 [⟨.pointer (some ⟨g4, 0, none⟩), 44, 0, nums .u32 x8_1⟩]) (hcq35 : W97.cell? ⟨g4, (0 : Int).toNat, none⟩ = some (.int .u32 (rd x8_1 0))) (hcq36 : W97.cell? ⟨g4, (1 : Int).toNat, none⟩ = some (.int .u32 (rd x8_1 1))), RunAny Go.Proofs.Try.prog (Ret fun v w' => ∃ A0' n0' c0', v = .tuple #[.slice A0' n0' c0', .int .i64 r.2] ∧ Mem w w' [⟨.slice A0' n0' c0', 5, 1, nums .u8 r.1⟩]) 22 (rest1 (pl Go.Proofs.Try.f22 [1, 1, 1, 1, 0, 1, 0, 1, 0, 1, 0, 0, 1, 0, 0, 1])) 138 (opsOf (pl Go.Proofs.Try.f22 [1, 1, 1, 1, 0, 1, 0, 1, 0, 1, 0, 0, 1, 0, 0, 1])) (Still W97 [.pointer (some ⟨g4, 0, none⟩)]) 7 [0, 3, 5, 7, 10, 12, 1, 6, 8] [(0, .pointer (some ⟨gp0, 0, none⟩)), (8, .pointer (some ⟨g4, 0, none⟩)), (10, .int .i64 x10_1), (11, .int .u32 t30.1), (12, .int .u32 t30.2), (57, .pointer (some ⟨g4, (2 : Int).toNat, none⟩)), (58, .int .u32 (rd x8_1 2)), (60, .int .u32 t30.1), (62, .pointer (some ⟨g4, (3 : Int).toNat, none⟩)), (63, .int .u32 (rd x8_1 3)), (64, .int .u32 t30.2), (65, .int .u32 (bxor .u32 (rd x8_1 3) t30.2)), (67, .pointer (some ⟨g4, (0 : Int).toNat, none⟩)), (69, .pointer (some ⟨g4, (1 : Int).toNat, none⟩))] W97 := by
                        intro W97 hS hM hcq35 hcq36
                        refine RunAny.all [2, 11, 13] (by kernel_rfl) (by simp) ?_
                        refine ⟨?_, ?_, ?_, trivial⟩
                        · refine Stepped.call 2 (d := some 59) (g := 27) (args := #[.int .u32 (rd x8_1 2), .int .i64 1]) (by kernel_rfl) (words_Rol32.calls k (rd x8_1 2) 1 t37 _ ht37) (by rintro _ _ ⟨rfl, hM_⟩; exact hS.below hM_.below) ?_
                          rintro _ W98 ⟨rfl, hM_⟩
                          replace hS := hS.below hM_.below
                          replace hM := hM.call hM_
                          clear hM_ ht37
                          replace hcq35 := (hM.arr_num 0 rfl (i := 0) (by omega) (N := 4) hlx8_1 (by decide)).1
                          replace hcq36 := (hM.arr_num 0 rfl (i := 1) (by omega) (N := 4) hlx8_1 (by decide)).1
                          refine RunAny.rebase hS ?_
                          replace hS := Still.refl W98 [.pointer (some ⟨g4, 0, none⟩)]
                          refine RunAny.y 4 (by kernel_rfl) (yl_pure (d := some 61) (v := .int .u32 (bxor .u32 t37 t30.1)) (k2 := [.inRegion (opsOf (pl Go.Proofs.Try.f22 [1, 1, 1, 1, 0, 1, 0, 1, 0, 1, 0, 0, 1, 0, 0, 1])) []]) fun w => by kernel_rfl) (fun _ _ => trivial) hS ?_
                          exact RunAny.same [0, 3, 5, 7, 10, 12, 1, 2, 4, 6, 8] (by kernel_rfl) [0, 8, 10, 11, 12, 57, 58, 59, 60, 61, 62, 63, 64, 65, 67, 69] (by kernel_rfl) (J74 _ hS (hM.pick [0] rfl rfl) hcq35 hcq36)
                        · refine Stepped.does 11 ((ld_y (d := some 68) (p := ⟨g4, (0 : Int).toNat, none⟩) (k2 := [.inRegion (opsOf (pl Go.Proofs.Try.f22 [1, 1, 1, 1, 0, 1, 0, 1, 0, 1, 0, 0, 1, 0, 0, 1])) []]) (.int .u32 (rd x8_1 0)) (by kernel_rfl)).does hcq35) hS ?_
                          exact RunAny.same [0, 3, 5, 7, 10, 12, 1, 11, 6, 8] (by kernel_rfl) [0, 8, 10, 11, 12, 57, 58, 60, 62, 63, 64, 65, 67, 68, 69] (by kernel_rfl) (J84 _ hS (hM.pick [0] rfl rfl) hcq36)
                        · refine Stepped.does 13 ((ld_y (d := some 70) (p := ⟨g4, (1 : Int).toNat, none⟩) (k2 := [.inRegion (opsOf (pl Go.Proofs.Try.f22 [1, 1, 1, 1, 0, 1, 0, 1, 0, 1, 0, 0, 1, 0, 0, 1])) []]) (.int .u32 (rd x8_1 1)) (by kernel_rfl)).does hcq36) hS ?_
                          exact RunAny.same [0, 3, 5, 7, 10, 12, 1, 13, 6, 8] (by kernel_rfl) [0, 8, 10, 11, 12, 57, 58, 60, 62, 63, 64, 65, 67, 69, 70] (by kernel_rfl) (J79 _ hS (hM.pick [0] rfl rfl) hcq35)
                      have J99 : ∀ (W100 : World) (hS : Still W100 [.pointer (some ⟨g4, 0, none⟩)] W100) (hM : Mem w W100 [⟨.pointer (some ⟨g4, 0, none⟩), 44, 0, nums .u32 x8_1⟩]) (hcq34 : W100.cell? ⟨g4, (3 : Int).toNat, none⟩ = some (.int .u32 (rd x8_1 3))) (hcq35 : W100.cell? ⟨g4, (0 : Int).toNat, none⟩ = some (.int .u32 (rd x8_1 0))) (hcq36 : W100.cell? ⟨g4, (1 : Int).toNat, none⟩ = some (.int .u32 (rd x8_1 1))), RunAny Go.Proofs.Try.prog (Ret fun v w' => ∃ A0' n0' c0', v = .tuple #[.slice A0' n0' c0', .int .i64 r.2] ∧ Mem w w' [⟨.slice A0' n0' c0', 5, 1, nums .u8 r.1⟩]) 22 (rest1 (pl Go.Proofs.Try.f22 [1, 1, 1, 1, 0, 1, 0, 1, 0, 1, 0, 0, 1, 0, 0, 1])) 138 (opsOf (pl Go.Proofs.Try.f22 [1, 1, 1, 1, 0, 1, 0, 1, 0, 1, 0, 0, 1, 0, 0, 1])) (Still W100 [.pointer (some ⟨g4, 0, none⟩)]) 7 [0, 3, 5, 7, 10, 12, 1, 2, 4] [(0, .pointer (some ⟨gp0, 0, none⟩)), (8, .pointer (some ⟨g4, 0, none⟩)), (10, .int .i64 x10_1), (11, .int .u32 t30.1), (12, .int .u32 t30.2), (57, .pointer (some ⟨g4, (2 : Int).toNat, none⟩)), (58, .int .u32 (rd x8_1 2)), (59, .int .u32 t37), (60, .int .u32 t30.1), (61, .int .u32 (bxor .u32 t37 t30.1)), (62, .pointer (some ⟨g4, (3 : Int).toNat, none⟩)), (64, .int .u32 t30.2), (67, .pointer (some ⟨g4, (0 : Int).toNat, none⟩)), (69, .pointer (some ⟨g4, (1 : Int).toNat, none⟩))] W100 := by
                        intro W100 hS hM hcq34 hcq35 hcq36
                        refine RunAny.all [6, 11, 13] (by kernel_rfl) (by simp) ?_
                        refine ⟨?_, ?_, ?_, trivial⟩
                        · refine Stepped.does 6 ((ld_y (d := some 63) (p := ⟨g4, (3 : Int).toNat, none⟩) (k2 := [.inRegion (opsOf (pl Go.Proofs.Try.f22 [1, 1, 1, 1, 0, 1, 0, 1, 0, 1, 0, 0, 1, 0, 0, 1])) []]) (.int .u32 (rd x8_1 3)) (by kernel_rfl)).does hcq34) hS ?_
                          refine RunAny.y 8 (by kernel_rfl) (yl_pure (d := some 65) (v := .int .u32 (bxor .u32 (rd x8_1 3) t30.2)) (k2 := [.inRegion (opsOf (pl Go.Proofs.Try.f22 [1, 1, 1, 1, 0, 1, 0, 1, 0, 1, 0, 0, 1, 0, 0, 1])) []]) fun w => by kernel_rfl) (fun _ _ => trivial) hS ?_
                          exact RunAny.same [0, 3, 5, 7, 10, 12, 1, 2, 4, 6, 8] (by kernel_rfl) [0, 8, 10, 11, 12, 57, 58, 59, 60, 61, 62, 63, 64, 65, 67, 69] (by kernel_rfl) (J74 _ hS (hM.pick [0] rfl rfl) hcq35 hcq36)
                        · refine Stepped.does 11 ((ld_y (d := some 68) (p := ⟨g4, (0 : Int).toNat, none⟩) (k2 := [.inRegion (opsOf (pl Go.Proofs.Try.f22 [1, 1, 1, 1, 0, 1, 0, 1, 0, 1, 0, 0, 1, 0, 0, 1])) []]) (.int .u32 (rd x8_1 0)) (by kernel_rfl)).does hcq35) hS ?_
                          exact RunAny.same [0, 3, 5, 7, 10, 12, 1, 11, 2, 4] (by kernel_rfl) [0, 8, 10, 11, 12, 57, 58, 59, 60, 61, 62, 64, 67, 68, 69] (by kernel_rfl) (J87 _ hS (hM.pick [0] rfl rfl) hcq34 hcq36)
                        · refine Stepped.does 13 ((ld_y (d := some 70) (p := ⟨g4, (1 : Int).toNat, none⟩) (k2 := [.inRegion (opsOf (pl Go.Proofs.Try.f22 [1, 1, 1, 1, 0, 1, 0, 1, 0, 1, 0, 0, 1, 0, 0, 1])) []]) (.int .u32 (rd x8_1 1)) (by kernel_rfl)).does hcq36) hS ?_
                          exact RunAny.same [0, 3, 5, 7, 10, 12, 1, 13, 2, 4] (by kernel_rfl) [0, 8, 10, 11, 12, 57, 58, 59, 60, 61, 62, 64, 67, 69, 70] (by kernel_rfl) (J82 _ hS (hM.pick [0] rfl rfl) hcq34 hcq35)
                      have J101 : ∀ (W102 : World) (hS : Still W102 [.pointer (some ⟨g4, 0, none⟩)] W102) (hM : Mem w W102 [⟨.pointer (some ⟨g4, 0, none⟩), 44, 0, nums .u32 x8_1⟩]) (hcq33 : W102.cell? ⟨g4, (2 : Int).toNat, none⟩ = some (.int .u32 (rd x8_1 2))) (hcq34 : W102.cell? ⟨g4, (3 : Int).toNat, none⟩ = some (.int .u32 (rd x8_1 3))), RunAny Go.Proofs.Try.prog (Ret fun v w' => ∃ A0' n0' c0', v = .tuple #[.slice A0' n0' c0', .int .i64 r.2] ∧ Mem w w' [⟨.slice A0' n0' c0', 5, 1, nums .u8 r.1⟩]) 22 (rest1 (pl Go.Proofs.Try.f22 [1, 1, 1, 1, 0, 1, 0, 1, 0, 1, 0, 0, 1, 0, 0, 1])) 138 (opsOf (pl Go.Proofs.Try.f22 [1, 1, 1, 1, 0, 1, 0, 1, 0, 1, 0, 0, 1, 0, 0, 1])) (Still W102 [.pointer (some ⟨g4, 0, none⟩)]) 8 [0, 3, 5, 7, 10, 12, 11, 13] [(0, .pointer (some ⟨gp0, 0, none⟩)), (8, .pointer (some ⟨g4, 0, none⟩)), (10, .int .i64 x10_1), (11, .int .u32 t30.1), (12, .int .u32 t30.2), (57, .pointer (some ⟨g4, (2 : Int).toNat, none⟩)), (60, .int .u32 t30.1), (62, .pointer (some ⟨g4, (3 : Int).toNat, none⟩)), (64, .int .u32 t30.2), (67, .pointer (some ⟨g4, (0 : Int).toNat, none⟩)), (68, .int .u32 (rd x8_1 0)), (69, .pointer (some ⟨g4, (1 : Int).toNat, none⟩)), (70, .int .u32 (rd x8_1 1))] W102 := by
                        intro W102 hS hM hcq33 hcq34
                        refine RunAny.all [1, 6] (by kernel_rfl) (by simp) ?_
                        refine ⟨?_, ?_, trivial⟩
                        · refine Stepped.does 1 ((ld_y (d := some 58) (p := ⟨g4, (2 : Int).toNat, none⟩) (k2 := [.inRegion (opsOf (pl Go.Proofs.Try.f22 [1, 1, 1, 1, 0, 1, 0, 1, 0, 1, 0, 0, 1, 0, 0, 1])) []]) (.int .u32 (rd x8_1 2)) (by kernel_rfl)).does hcq33) hS ?_
                          exact RunAny.same [0, 3, 5, 7, 10, 12, 1, 11, 13] (by kernel_rfl) [0, 8, 10, 11, 12, 57, 58, 60, 62, 64, 67, 68, 69, 70] (by kernel_rfl) (J89 _ hS (hM.pick [0] rfl rfl) hcq34)
                        · refine Stepped.does 6 ((ld_y (d := some 63) (p := ⟨g4, (3 : Int).toNat, none⟩) (k2 := [.inRegion (opsOf (pl Go.Proofs.Try.f22 [1, 1, 1, 1, 0, 1, 0, 1, 0, 1, 0, 0, 1, 0, 0, 1])) []]) (.int .u32 (rd x8_1 3)) (by kernel_rfl)).does hcq34) hS ?_
                          refine RunAny.y 8 (by kernel_rfl) (yl_pure (d := some 65) (v := .int .u32 (bxor .u32 (rd x8_1 3) t30.2)) (k2 := [.inRegion (opsOf (pl Go.Proofs.Try.f22 [1, 1, 1, 1, 0, 1, 0, 1, 0, 1, 0, 0, 1, 0, 0, 1])) []]) fun w => by kernel_rfl) (fun _ _ => trivial) hS ?_
                          exact RunAny.same [0, 3, 5, 7, 10, 12, 11, 13, 6, 8] (by kernel_rfl) [0, 8, 10, 11, 12, 57, 60, 62, 63, 64, 65, 67, 68, 69, 70] (by kernel_rfl) (J77 _ hS (hM.pick [0] rfl rfl) hcq33)
                      have J103 : ∀ (W104 : World) (hS : Still W104 [.pointer (some ⟨g4, 0, none⟩)] W104) (hM : Mem w W104 [⟨.pointer (some ⟨g4, 0, none⟩), 44, 0, nums .u32 x8_1⟩]) (hcq34 : W104.cell? ⟨g4, (3 : Int).toNat, none⟩ = some (.int .u32 (rd x8_1 3))) (hcq35 : W104.cell? ⟨g4, (0 : Int).toNat, none⟩ = some (.int .u32 (rd x8_1 0))), RunAny Go.Proofs.Try.prog (Ret fun v w' => ∃ A0' n0' c0', v = .tuple #[.slice A0' n0' c0', .int .i64 r.2] ∧ Mem w w' [⟨.slice A0' n0' c0', 5, 1, nums .u8 r.1⟩]) 22 (rest1 (pl Go.Proofs.Try.f22 [1, 1, 1, 1, 0, 1, 0, 1, 0, 1, 0, 0, 1, 0, 0, 1])) 138 (opsOf (pl Go.Proofs.Try.f22 [1, 1, 1, 1, 0, 1, 0, 1, 0, 1, 0, 0, 1, 0, 0, 1])) (Still W104 [.pointer (some ⟨g4, 0, none⟩)]) 8 [0, 3, 5, 7, 10, 12, 1, 13] [(0, .pointer (some ⟨gp0, 0, none⟩)), (8, .pointer (some ⟨g4, 0, none⟩)), (10, .int .i64 x10_1), (11, .int .u32 t30.1), (12, .int .u32 t30.2), (57, .pointer (some ⟨g4, (2 : Int).toNat, none⟩)), (58, .int .u32 (rd x8_1 2)), (60, .int .u32 t30.1), (62, .pointer (some ⟨g4, (3 : Int).toNat, none⟩)), (64, .int .u32 t30.2), (67, .pointer (some ⟨g4, (0 : Int).toNat, none⟩)), (69, .pointer (some ⟨g4, (1 : Int).toNat, none⟩)), (70, .int .u32 (rd x8_1 1))] W104 := by
                        intro W104 hS hM hcq34 hcq35
                        refine RunAny.all [2, 6, 11] (by kernel_rfl) (by simp) ?_
                        refine ⟨?_, ?_, ?_, trivial⟩
                        · refine Stepped.call 2 (d := some 59) (g := 27) (args := #[.int .u32 (rd x8_1 2), .int .i64 1]) (by kernel_rfl) (words_Rol32.calls k (rd x8_1 2) 1 t37 _ ht37) (by rintro _ _ ⟨rfl, hM_⟩; exact hS.below hM_.below) ?_
                          rintro _ W105 ⟨rfl, hM_⟩
                          replace hS := hS.below hM_.below
                          replace hM := hM.call hM_
                          clear hM_ ht37
                          replace hcq34 := (hM.arr_num 0 rfl (i := 3) (by omega) (N := 4) hlx8_1 (by decide)).1
                          replace hcq35 := (hM.arr_num 0 rfl (i := 0) (by omega) (N := 4) hlx8_1 (by decide)).1
                          refine RunAny.rebase hS ?_
                          replace hS := Still.refl W105 [.pointer (some ⟨g4, 0, none⟩)]
                          refine RunAny.y 4 (by kernel_rfl) (yl_pure (d := some 61) (v := .int .u32 (bxor .u32 t37 t30.1)) (k2 := [.inRegion (opsOf (pl Go.Proofs.Try.f22 [1, 1, 1, 1, 0, 1, 0, 1, 0, 1, 0, 0, 1, 0, 0, 1])) []]) fun w => by kernel_rfl) (fun _ _ => trivial) hS ?_
                          exact RunAny.same [0, 3, 5, 7, 10, 12, 1, 13, 2, 4] (by kernel_rfl) [0, 8, 10, 11, 12, 57, 58, 59, 60, 61, 62, 64, 67, 69, 70] (by kernel_rfl) (J82 _ hS (hM.pick [0] rfl rfl) hcq34 hcq35)
                        · refine Stepped.does 6 ((ld_y (d := some 63) (p := ⟨g4, (3 : Int).toNat, none⟩) (k2 := [.inRegion (opsOf (pl Go.Proofs.Try.f22 [1, 1, 1, 1, 0, 1, 0, 1, 0, 1, 0, 0, 1, 0, 0, 1])) []]) (.int .u32 (rd x8_1 3)) (by kernel_rfl)).does hcq34) hS ?_
                          refine RunAny.y 8 (by kernel_rfl) (yl_pure (d := some 65) (v := .int .u32 (bxor .u32 (rd x8_1 3) t30.2)) (k2 := [.inRegion (opsOf (pl Go.Proofs.Try.f22 [1, 1, 1, 1, 0, 1, 0, 1, 0, 1, 0, 0, 1, 0, 0, 1])) []]) fun w => by kernel_rfl) (fun _ _ => trivial) hS ?_
                          exact RunAny.same [0, 3, 5, 7, 10, 12, 1, 13, 6, 8] (by kernel_rfl) [0, 8, 10, 11, 12, 57, 58, 60, 62, 63, 64, 65, 67, 69, 70] (by kernel_rfl) (J79 _ hS (hM.pick [0] rfl rfl) hcq35)
                        · refine Stepped.does 11 ((ld_y (d := some 68) (p := ⟨g4, (0 : Int).toNat, none⟩) (k2 := [.inRegion (opsOf (pl Go.Proofs.Try.f22 [1, 1, 1, 1, 0, 1, 0, 1, 0, 1, 0, 0, 1, 0, 0, 1])) []]) (.int .u32 (rd x8_1 0)) (by kernel_rfl)).does hcq35) hS ?_
                          exact RunAny.same [0, 3, 5, 7, 10, 12, 1, 11, 13] (by kernel_rfl) [0, 8, 10, 11, 12, 57, 58, 60, 62, 64, 67, 68, 69, 70] (by kernel_rfl) (J89 _ hS (hM.pick [0] rfl rfl) hcq34)
                      have J106 : ∀ (W107 : World) (hS : Still W107 [.pointer (some ⟨g4, 0, none⟩)] W107) (hM : Mem w W107 [⟨.pointer (some ⟨g4, 0, none⟩), 44, 0, nums .u32 x8_1⟩]) (hcq34 : W107.cell? ⟨g4, (3 : Int).toNat, none⟩ = some (.int .u32 (rd x8_1 3))) (hcq36 : W107.cell? ⟨g4, (1 : Int).toNat, none⟩ = some (.int .u32 (rd x8_1 1))), RunAny Go.Proofs.Try.prog (Ret fun v w' => ∃ A0' n0' c0', v = .tuple #[.slice A0' n0' c0', .int .i64 r.2] ∧ Mem w w' [⟨.slice A0' n0' c0', 5, 1, nums .u8 r.1⟩]) 22 (rest1 (pl Go.Proofs.Try.f22 [1, 1, 1, 1, 0, 1, 0, 1, 0, 1, 0, 0, 1, 0, 0, 1])) 138 (opsOf (pl Go.Proofs.Try.f22 [1, 1, 1, 1, 0, 1, 0, 1, 0, 1, 0, 0, 1, 0, 0, 1])) (Still W107 [.pointer (some ⟨g4, 0, none⟩)]) 8 [0, 3, 5, 7, 10, 12, 1, 11] [(0, .pointer (some ⟨gp0, 0, none⟩)), (8, .pointer (some ⟨g4, 0, none⟩)), (10, .int .i64 x10_1), (11, .int .u32 t30.1), (12, .int .u32 t30.2), (57, .pointer (some ⟨g4, (2 : Int).toNat, none⟩)), (58, .int .u32 (rd x8_1 2)), (60, .int .u32 t30.1), (62, .pointer (some ⟨g4, (3 : Int).toNat, none⟩)), (64, .int .u32 t30.2), (67, .pointer (some ⟨g4, (0 : Int).toNat, none⟩)), (68, .int .u32 (rd x8_1 0)), (69, .pointer (some ⟨g4, (1 : Int).toNat, none⟩))] W107 := by
                        intro W107 hS hM hcq34 hcq36
                        refine RunAny.all [2, 6, 13] (by kernel_rfl) (by simp) ?_
                        refine ⟨?_, ?_, ?_, trivial⟩
                        · refine Stepped.call 2 (d := some 59) (g := 27) (args := #[.int .u32 (rd x8_1 2), .int .i64 1]) (by kernel_rfl) (words_Rol32.calls k (rd x8_1 2) 1 t37 _ ht37) (by rintro _ _ ⟨rfl, hM_⟩; exact hS.below hM_.below) ?_
                          rintro _ W108 ⟨rfl, hM_⟩
                          replace hS := hS.below hM_.below
                          replace hM := hM.call hM_
                          clear hM_ ht37
                          replace hcq34 := (hM.arr_num 0 rfl (i := 3) (by omega) (N := 4) hlx8_1 (by decide)).1
                          replace hcq36 := (hM.arr_num 0 rfl (i := 1) (by omega) (N := 4) hlx8_1 (by decide)).1
                          refine RunAny.rebase hS ?_
                          replace hS := Still.refl W108 [.pointer (some ⟨g4, 0, none⟩)]
                          refine RunAny.y 4 (by kernel_rfl) (yl_pure (d := some 61) (v := .int .u32 (bxor .u32 t37 t30.1)) (k2 := [.inRegion (opsOf (pl Go.Proofs.Try.f22 [1, 1, 1, 1, 0, 1, 0, 1, 0, 1, 0, 0, 1, 0, 0, 1])) []]) fun w => by kernel_rfl) (fun _ _ => trivial) hS ?_
                          exact RunAny.same [0, 3, 5, 7, 10, 12, 1, 11, 2, 4] (by kernel_rfl) [0, 8, 10, 11, 12, 57, 58, 59, 60, 61, 62, 64, 67, 68, 69] (by kernel_rfl) (J87 _ hS (hM.pick [0] rfl rfl) hcq34 hcq36)
                        · refine Stepped.does 6 ((ld_y (d := some 63) (p := ⟨g4, (3 : Int).toNat, none⟩) (k2 := [.inRegion (opsOf (pl Go.Proofs.Try.f22 [1, 1, 1, 1, 0, 1, 0, 1, 0, 1, 0, 0, 1, 0, 0, 1])) []]) (.int .u32 (rd x8_1 3)) (by kernel_rfl)).does hcq34) hS ?_
                          refine RunAny.y 8 (by kernel_rfl) (yl_pure (d := some 65) (v := .int .u32 (bxor .u32 (rd x8_1 3) t30.2)) (k2 := [.inRegion (opsOf (pl Go.Proofs.Try.f22 [1, 1, 1, 1, 0, 1, 0, 1, 0, 1, 0, 0, 1, 0, 0, 1])) []]) fun w => by kernel_rfl) (fun _ _ => trivial) hS ?_
                          exact RunAny.same [0, 3, 5, 7, 10, 12, 1, 11, 6, 8] (by kernel_rfl) [0, 8, 10, 11, 12, 57, 58, 60, 62, 63, 64, 65, 67, 68, 69] (by kernel_rfl) (J84 _ hS (hM.pick [0] rfl rfl) hcq36)
                        · refine Stepped.does 13 ((ld_y (d := some 70) (p := ⟨g4, (1 : Int).toNat, none⟩) (k2 := [.inRegion (opsOf (pl Go.Proofs.Try.f22 [1, 1, 1, 1, 0, 1, 0, 1, 0, 1, 0, 0, 1, 0, 0, 1])) []]) (.int .u32 (rd x8_1 1)) (by kernel_rfl)).does hcq36) hS ?_
                          exact RunAny.same [0, 3, 5, 7, 10, 12, 1, 11, 13] (by kernel_rfl) [0, 8, 10, 11, 12, 57, 58, 60, 62, 64, 67, 68, 69, 70] (by kernel_rfl) (J89 _ hS (hM.pick [0] rfl rfl) hcq34)
                      have J109 : ∀ (W110 : World) (hS : Still W110 [.pointer (some ⟨g4, 0, none⟩)] W110) (hM : Mem w W110 [⟨.pointer (some ⟨g4, 0, none⟩), 44, 0, nums .u32 x8_1⟩]) (hcq33 : W110.cell? ⟨g4, (2 : Int).toNat, none⟩ = some (.int .u32 (rd x8_1 2))) (hcq35 : W110.cell? ⟨g4, (0 : Int).toNat, none⟩ = some (.int .u32 (rd x8_1 0))) (hcq36 : W110.cell? ⟨g4, (1 : Int).toNat, none⟩ = some (.int .u32 (rd x8_1 1))), RunAny Go.Proofs.Try.prog (Ret fun v w' => ∃ A0' n0' c0', v = .tuple #[.slice A0' n0' c0', .int .i64 r.2] ∧ Mem w w' [⟨.slice A0' n0' c0', 5, 1, nums .u8 r.1⟩]) 22 (rest1 (pl Go.Proofs.Try.f22 [1, 1, 1, 1, 0, 1, 0, 1, 0, 1, 0, 0, 1, 0, 0, 1])) 138 (opsOf (pl Go.Proofs.Try.f22 [1, 1, 1, 1, 0, 1, 0, 1, 0, 1, 0, 0, 1, 0, 0, 1])) (Still W110 [.pointer (some ⟨g4, 0, none⟩)]) 8 [0, 3, 5, 7, 10, 12, 6, 8] [(0, .pointer (some ⟨gp0, 0, none⟩)), (8, .pointer (some ⟨g4, 0, none⟩)), (10, .int .i64 x10_1), (11, .int .u32 t30.1), (12, .int .u32 t30.2), (57, .pointer (some ⟨g4, (2 : Int).toNat, none⟩)), (60, .int .u32 t30.1), (62, .pointer (some ⟨g4, (3 : Int).toNat, none⟩)), (63, .int .u32 (rd x8_1 3)), (64, .int .u32 t30.2), (65, .int .u32 (bxor .u32 (rd x8_1 3) t30.2)), (67, .pointer (some ⟨g4, (0 : Int).toNat, none⟩)), (69, .pointer (some ⟨g4, (1 : Int).toNat, none⟩))] W110 := by
                        intro W110 hS hM hcq33 hcq35 hcq36
                        refine RunAny.all [1, 11, 13] (by kernel_rfl) (by simp) ?_
                        refine ⟨?_, ?_, ?_, trivial⟩
                        · refine Stepped.does 1 ((ld_y (d := some 58) (p := ⟨g4, (2 : Int).toNat, none⟩) (k2 := [.inRegion (opsOf (pl Go.Proofs.Try.f22 [1, 1, 1, 1, 0, 1, 0, 1, 0, 1, 0, 0, 1, 0, 0, 1])) []]) (.int .u32 (rd x8_1 2)) (by kernel_rfl)).does hcq33) hS ?_
                          exact RunAny.same [0, 3, 5, 7, 10, 12, 1, 6, 8] (by kernel_rfl) [0, 8, 10, 11, 12, 57, 58, 60, 62, 63, 64, 65, 67, 69] (by kernel_rfl) (J96 _ hS (hM.pick [0] rfl rfl) hcq35 hcq36)
                        · refine Stepped.does 11 ((ld_y (d := some 68) (p := ⟨g4, (0 : Int).toNat, none⟩) (k2 := [.inRegion (opsOf (pl Go.Proofs.Try.f22 [1, 1, 1, 1, 0, 1, 0, 1, 0, 1, 0, 0, 1, 0, 0, 1])) []]) (.int .u32 (rd x8_1 0)) (by kernel_rfl)).does hcq35) hS ?_
                          exact RunAny.same [0, 3, 5, 7, 10, 12, 11, 6, 8] (by kernel_rfl) [0, 8, 10, 11, 12, 57, 60, 62, 63, 64, 65, 67, 68, 69] (by kernel_rfl) (J94 _ hS (hM.pick [0] rfl rfl) hcq33 hcq36)
                        · refine Stepped.does 13 ((ld_y (d := some 70) (p := ⟨g4, (1 : Int).toNat, none⟩) (k2 := [.inRegion (opsOf (pl Go.Proofs.Try.f22 [1, 1, 1, 1, 0, 1, 0, 1, 0, 1, 0, 0, 1, 0, 0, 1])) []]) (.int .u32 (rd x8_1 1)) (by kernel_rfl)).does hcq36) hS ?_
                          exact RunAny.same [0, 3, 5, 7, 10, 12, 13, 6, 8] (by kernel_rfl) [0, 8, 10, 11, 12, 57, 60, 62, 63, 64, 65, 67, 69, 70] (by kernel_rfl) (J92 _ hS (hM.pick [0] rfl rfl) hcq33 hcq35)
                      have J111 : ∀ (W112 : World) (hS : Still W112 [.pointer (some ⟨g4, 0, none⟩)] W112) (hM : Mem w W112 [⟨.pointer (some ⟨g4, 0, none⟩), 44, 0, nums .u32 x8_1⟩]) (hcq33 : W112.cell? ⟨g4, (2 : Int).toNat, none⟩ = some (.int .u32 (rd x8_1 2))) (hcq34 : W112.cell? ⟨g4, (3 : Int).toNat, none⟩ = some (.int .u32 (rd x8_1 3))) (hcq35 : W112.cell? ⟨g4, (0 : Int).toNat, none⟩ = some (.int .u32 (rd x8_1 0))), RunAny Go.Proofs.Try.prog (Ret fun v w' => ∃ A0' n0' c0', v = .tuple #[.slice A0' n0' c0', .int .i64 r.2] ∧ Mem w w' [⟨.slice A0' n0' c0', 5, 1, nums .u8 r.1⟩]) 22 (rest1 (pl Go.Proofs.Try.f22 [1, 1, 1, 1, 0, 1, 0, 1, 0, 1, 0, 0, 1, 0, 0, 1])) 138 (opsOf (pl Go.Proofs.Try.f22 [1, 1, 1, 1, 0, 1, 0, 1, 0, 1, 0, 0, 1, 0, 0, 1])) (Still W112 [.pointer (some ⟨g4, 0, none⟩)]) 9 [0, 3, 5, 7, 10, 12, 13] [(0, .pointer (some ⟨gp0, 0, none⟩)), (8, .pointer (some ⟨g4, 0, none⟩)), (10, .int .i64 x10_1), (11, .int .u32 t30.1), (12, .int .u32 t30.2), (57, .pointer (some ⟨g4, (2 : Int).toNat, none⟩)), (60, .int .u32 t30.1), (62, .pointer (some ⟨g4, (3 : Int).toNat, none⟩)), (64, .int .u32 t30.2), (67, .pointer (some ⟨g4, (0 : Int).toNat, none⟩)), (69, .pointer (some ⟨g4, (1 : Int).toNat, none⟩)), (70, .int .u32 (rd x8_1 1))] W112 := by
                        intro W112 hS hM hcq33 hcq34 hcq35
                        refine RunAny.all [1, 6, 11] (by kernel_rfl) (by simp) ?_
                        refine ⟨?_, ?_, ?_, trivial⟩
                        · refine Stepped.does 1 ((ld_y (d := some 58) (p := ⟨g4, (2 : Int).toNat, none⟩) (k2 := [.inRegion (opsOf (pl Go.Proofs.Try.f22 [1, 1, 1, 1, 0, 1, 0, 1, 0, 1, 0, 0, 1, 0, 0, 1])) []]) (.int .u32 (rd x8_1 2)) (by kernel_rfl)).does hcq33) hS ?_
                          exact RunAny.same [0, 3, 5, 7, 10, 12, 1, 13] (by kernel_rfl) [0, 8, 10, 11, 12, 57, 58, 60, 62, 64, 67, 69, 70] (by kernel_rfl) (J103 _ hS (hM.pick [0] rfl rfl) hcq34 hcq35)
                        · refine Stepped.does 6 ((ld_y (d := some 63) (p := ⟨g4, (3 : Int).toNat, none⟩) (k2 := [.inRegion (opsOf (pl Go.Proofs.Try.f22 [1, 1, 1, 1, 0, 1, 0, 1, 0, 1, 0, 0, 1, 0, 0, 1])) []]) (.int .u32 (rd x8_1 3)) (by kernel_rfl)).does hcq34) hS ?_
                          refine RunAny.y 8 (by kernel_rfl) (yl_pure (d := some 65) (v := .int .u32 (bxor .u32 (rd x8_1 3) t30.2)) (k2 := [.inRegion (opsOf (pl Go.Proofs.Try.f22 [1, 1, 1, 1, 0, 1, 0, 1, 0, 1, 0, 0, 1, 0, 0, 1])) []]) fun w => by kernel_rfl) (fun _ _ => trivial) hS ?_
                          exact RunAny.same [0, 3, 5, 7, 10, 12, 13, 6, 8] (by kernel_rfl) [0, 8, 10, 11, 12, 57, 60, 62, 63, 64, 65, 67, 69, 70] (by kernel_rfl) (J92 _ hS (hM.pick [0] rfl rfl) hcq33 hcq35)
                        · refine Stepped.does 11 ((ld_y (d := some 68) (p := ⟨g4, (0 : Int).toNat, none⟩) (k2 := [.inRegion (opsOf (pl Go.Proofs.Try.f22 [1, 1, 1, 1, 0, 1, 0, 1, 0, 1, 0, 0, 1, 0, 0, 1])) []]) (.int .u32 (rd x8_1 0)) (by kernel_rfl)).does hcq35) hS ?_
                          exact RunAny.same [0, 3, 5, 7, 10, 12, 11, 13] (by kernel_rfl) [0, 8, 10, 11, 12, 57, 60, 62, 64, 67, 68, 69, 70] (by kernel_rfl) (J101 _ hS (hM.pick [0] rfl rfl) hcq33 hcq34)
                      have J113 : ∀ (W114 : World) (hS : Still W114 [.pointer (some ⟨g4, 0, none⟩)] W114) (hM : Mem w W114 [⟨.pointer (some ⟨g4, 0, none⟩), 44, 0, nums .u32 x8_1⟩]) (hcq33 : W114.cell? ⟨g4, (2 : Int).toNat, none⟩ = some (.int .u32 (rd x8_1 2))) (hcq34 : W114.cell? ⟨g4, (3 : Int).toNat, none⟩ = some (.int .u32 (rd x8_1 3))) (hcq36 : W114.cell? ⟨g4, (1 : Int).toNat, none⟩ = some (.int .u32 (rd x8_1 1))), RunAny Go.Proofs.Try.prog (Ret fun v w' => ∃ A0' n0' c0', v = .tuple #[.slice A0' n0' c0', .int .i64 r.2] ∧ Mem w w' [⟨.slice A0' n0' c0', 5, 1, nums .u8 r.1⟩]) 22 (rest1 (pl Go.Proofs.Try.f22 [1, 1, 1, 1, 0, 1, 0, 1, 0, 1, 0, 0, 1, 0, 0, 1])) 138 (opsOf (pl Go.Proofs.Try.f22 [1, 1, 1, 1, 0, 1, 0, 1, 0, 1, 0, 0, 1, 0, 0, 1])) (Still W114 [.pointer (some ⟨g4, 0, none⟩)]) 9 [0, 3, 5, 7, 10, 12, 11] [(0, .pointer (some ⟨gp0, 0, none⟩)), (8, .pointer (some ⟨g4, 0, none⟩)), (10, .int .i64 x10_1), (11, .int .u32 t30.1), (12, .int .u32 t30.2), (57, .pointer (some ⟨g4, (2 : Int).toNat, none⟩)), (60, .int .u32 t30.1), (62, .pointer (some ⟨g4, (3 : Int).toNat, none⟩)), (64, .int .u32 t30.2), (67, .pointer (some ⟨g4, (0 : Int).toNat, none⟩)), (68, .int .u32 (rd x8_1 0)), (69, .pointer (some ⟨g4, (1 : Int).toNat, none⟩))] W114 := by
                        intro W114 hS hM hcq33 hcq34 hcq36
                        refine RunAny.all [1, 6, 13] (by kernel_rfl) (by simp) ?_
                        refine ⟨?_, ?_, ?_, trivial⟩
                        · refine Stepped.does 1 ((ld_y (d := some 58) (p := ⟨g4, (2 : Int).toNat, none⟩) (k2 := [.inRegion (opsOf (pl Go.Proofs.Try.f22 [1, 1, 1, 1, 0, 1, 0, 1, 0, 1, 0, 0, 1, 0, 0, 1])) []]) (.int .u32 (rd x8_1 2)) (by kernel_rfl)).does hcq33) hS ?_
                          exact RunAny.same [0, 3, 5, 7, 10, 12, 1, 11] (by kernel_rfl) [0, 8, 10, 11, 12, 57, 58, 60, 62, 64, 67, 68, 69] (by kernel_rfl) (J106 _ hS (hM.pick [0] rfl rfl) hcq34 hcq36)
                        · refine Stepped.does 6 ((ld_y (d := some 63) (p := ⟨g4, (3 : Int).toNat, none⟩) (k2 := [.inRegion (opsOf (pl Go.Proofs.Try.f22 [1, 1, 1, 1, 0, 1, 0, 1, 0, 1, 0, 0, 1, 0, 0, 1])) []]) (.int .u32 (rd x8_1 3)) (by kernel_rfl)).does hcq34) hS ?_
                          refine RunAny.y 8 (by kernel_rfl) (yl_pure (d := some 65) (v := .int .u32 (bxor .u32 (rd x8_1 3) t30.2)) (k2 := [.inRegion (opsOf (pl Go.Proofs.Try.f22 [1, 1, 1, 1, 0, 1, 0, 1, 0, 1, 0, 0, 1, 0, 0, 1])) []]) fun w => by kernel_rfl) (fun _ _ => trivial) hS ?_
                          exact RunAny.same [0, 3, 5, 7, 10, 12, 11, 6, 8] (by kernel_rfl) [0, 8, 10, 11, 12, 57, 60, 62, 63, 64, 65, 67, 68, 69] (by kernel_rfl) (J94 _ hS (hM.pick [0] rfl rfl) hcq33 hcq36)
                        · refine Stepped.does 13 ((ld_y (d := some 70) (p := ⟨g4, (1 : Int).toNat, none⟩) (k2 := [.inRegion (opsOf (pl Go.Proofs.Try.f22 [1, 1, 1, 1, 0, 1, 0, 1, 0, 1, 0, 0, 1, 0, 0, 1])) []]) (.int .u32 (rd x8_1 1)) (by kernel_rfl)).does hcq36) hS ?_
                          exact RunAny.same [0, 3, 5, 7, 10, 12, 11, 13] (by kernel_rfl) [0, 8, 10, 11, 12, 57, 60, 62, 64, 67, 68, 69, 70] (by kernel_rfl) (J101 _ hS (hM.pick [0] rfl rfl) hcq33 hcq34)
                      have J115 : ∀ (W116 : World) (hS : Still W116 [.pointer (some ⟨g4, 0, none⟩)] W116) (hM : Mem w W116 [⟨.pointer (some ⟨g4, 0, none⟩), 44, 0, nums .u32 x8_1⟩]) (hcq34 : W116.cell? ⟨g4, (3 : Int).toNat, none⟩ = some (.int .u32 (rd x8_1 3))) (hcq35 : W116.cell? ⟨g4, (0 : Int).toNat, none⟩ = some (.int .u32 (rd x8_1 0))) (hcq36 : W116.cell? ⟨g4, (1 : Int).toNat, none⟩ = some (.int .u32 (rd x8_1 1))), RunAny Go.Proofs.Try.prog (Ret fun v w' => ∃ A0' n0' c0', v = .tuple #[.slice A0' n0' c0', .int .i64 r.2] ∧ Mem w w' [⟨.slice A0' n0' c0', 5, 1, nums .u8 r.1⟩]) 22 (rest1 (pl Go.Proofs.Try.f22 [1, 1, 1, 1, 0, 1, 0, 1, 0, 1, 0, 0, 1, 0, 0, 1])) 138 (opsOf (pl Go.Proofs.Try.f22 [1, 1, 1, 1, 0, 1, 0, 1, 0, 1, 0, 0, 1, 0, 0, 1])) (Still W116 [.pointer (some ⟨g4, 0, none⟩)]) 9 [0, 3, 5, 7, 10, 12, 1] [(0, .pointer (some ⟨gp0, 0, none⟩)), (8, .pointer (some ⟨g4, 0, none⟩)), (10, .int .i64 x10_1), (11, .int .u32 t30.1), (12, .int .u32 t30.2), (57, .pointer (some ⟨g4, (2 : Int).toNat, none⟩)), (58, .int .u32 (rd x8_1 2)), (60, .int .u32 t30.1), (62, .pointer (some ⟨g4, (3 : Int).toNat, none⟩)), (64, .int .u32 t30.2), (67, .pointer (some ⟨g4, (0 : Int).toNat, none⟩)), (69, .pointer (some ⟨g4, (1 : Int).toNat, none⟩))] W116 := by
                        intro W116 hS hM hcq34 hcq35 hcq36
                        refine RunAny.all [2, 6, 11, 13] (by kernel_rfl) (by simp) ?_
                        refine ⟨?_, ?_, ?_, ?_, trivial⟩
                        · refine Stepped.call 2 (d := some 59) (g := 27) (args := #[.int .u32 (rd x8_1 2), .int .i64 1]) (by kernel_rfl) (words_Rol32.calls k (rd x8_1 2) 1 t37 _ ht37) (by rintro _ _ ⟨rfl, hM_⟩; exact hS.below hM_.below) ?_
                          rintro _ W117 ⟨rfl, hM_⟩
                          replace hS := hS.below hM_.below
                          replace hM := hM.call hM_
                          clear hM_ ht37
                          replace hcq34 := (hM.arr_num 0 rfl (i := 3) (by omega) (N := 4) hlx8_1 (by decide)).1
                          replace hcq35 := (hM.arr_num 0 rfl (i := 0) (by omega) (N := 4) hlx8_1 (by decide)).1
                          replace hcq36 := (hM.arr_num 0 rfl (i := 1) (by omega) (N := 4) hlx8_1 (by decide)).1
                          refine RunAny.rebase hS ?_
                          replace hS := Still.refl W117 [.pointer (some ⟨g4, 0, none⟩)]
                          refine RunAny.y 4 (by kernel_rfl) (yl_pure (d := some 61) (v := .int .u32 (bxor .u32 t37 t30.1)) (k2 := [.inRegion (opsOf (pl Go.Proofs.Try.f22 [1, 1, 1, 1, 0, 1, 0, 1, 0, 1, 0, 0, 1, 0, 0, 1])) []]) fun w => by kernel_rfl) (fun _ _ => trivial) hS ?_
                          exact RunAny.same [0, 3, 5, 7, 10, 12, 1, 2, 4] (by kernel_rfl) [0, 8, 10, 11, 12, 57, 58, 59, 60, 61, 62, 64, 67, 69] (by kernel_rfl) (J99 _ hS (hM.pick [0] rfl rfl) hcq34 hcq35 hcq36)
                        · refine Stepped.does 6 ((ld_y (d := some 63) (p := ⟨g4, (3 : Int).toNat, none⟩) (k2 := [.inRegion (opsOf (pl Go.Proofs.Try.f22 [1, 1, 1, 1, 0, 1, 0, 1, 0, 1, 0, 0, 1, 0, 0, 1])) []]) (.int .u32 (rd x8_1 3)) (by kernel_rfl)).does hcq34) hS ?_
                          refine RunAny.y 8 (by kernel_rfl) (yl_pure (d := some 65) (v := .int .u32 (bxor .u32 (rd x8_1 3) t30.2)) (k2 := [.inRegion (opsOf (pl Go.Proofs.Try.f22 [1, 1, 1, 1, 0, 1, 0, 1, 0, 1, 0, 0, 1, 0, 0, 1])) []]) fun w => by kernel_rfl) (fun _ _ => trivial) hS ?_
                          exact RunAny.same [0, 3, 5, 7, 10, 12, 1, 6, 8] (by kernel_rfl) [0, 8, 10, 11, 12, 57, 58, 60, 62, 63, 64, 65, 67, 69] (by kernel_rfl) (J96 _ hS (hM.pick [0] rfl rfl) hcq35 hcq36)
                        · refine Stepped.does 11 ((ld_y (d := some 68) (p := ⟨g4, (0 : Int).toNat, none⟩) (k2 := [.inRegion (opsOf (pl Go.Proofs.Try.f22 [1, 1, 1, 1, 0, 1, 0, 1, 0, 1, 0, 0, 1, 0, 0, 1])) []]) (.int .u32 (rd x8_1 0)) (by kernel_rfl)).does hcq35) hS ?_
                          exact RunAny.same [0, 3, 5, 7, 10, 12, 1, 11] (by kernel_rfl) [0, 8, 10, 11, 12, 57, 58, 60, 62, 64, 67, 68, 69] (by kernel_rfl) (J106 _ hS (hM.pick [0] rfl rfl) hcq34 hcq36)
                        · refine Stepped.does 13 ((ld_y (d := some 70) (p := ⟨g4, (1 : Int).toNat, none⟩) (k2 := [.inRegion (opsOf (pl Go.Proofs.Try.f22 [1, 1, 1, 1, 0, 1, 0, 1, 0, 1, 0, 0, 1, 0, 0, 1])) []]) (.int .u32 (rd x8_1 1)) (by kernel_rfl)).does hcq36) hS ?_
                          exact RunAny.same [0, 3, 5, 7, 10, 12, 1, 13] (by kernel_rfl) [0, 8, 10, 11, 12, 57, 58, 60, 62, 64, 67, 69, 70] (by kernel_rfl) (J103 _ hS (hM.pick [0] rfl rfl) hcq34 hcq35)
                      refine RunAny.all [1, 6, 11, 13] (by kernel_rfl) (by simp) ?_
                      refine ⟨?_, ?_, ?_, ?_, trivial⟩
                      · refine Stepped.does 1 ((ld_y (d := some 58) (p := ⟨g4, (2 : Int).toNat, none⟩) (k2 := [.inRegion (opsOf (pl Go.Proofs.Try.f22 [1, 1, 1, 1, 0, 1, 0, 1, 0, 1, 0, 0, 1, 0, 0, 1])) []]) (.int .u32 (rd x8_1 2)) (by kernel_rfl)).does hcq33) hS ?_
                        exact RunAny.same [0, 3, 5, 7, 10, 12, 1] (by kernel_rfl) [0, 8, 10, 11, 12, 57, 58, 60, 62, 64, 67, 69] (by kernel_rfl) (J115 _ hS (hM.pick [0] rfl rfl) hcq34 hcq35 hcq36)
                      · refine Stepped.does 6 ((ld_y (d := some 63) (p := ⟨g4, (3 : Int).toNat, none⟩) (k2 := [.inRegion (opsOf (pl Go.Proofs.Try.f22 [1, 1, 1, 1, 0, 1, 0, 1, 0, 1, 0, 0, 1, 0, 0, 1])) []]) (.int .u32 (rd x8_1 3)) (by kernel_rfl)).does hcq34) hS ?_
                        refine RunAny.y 8 (by kernel_rfl) (yl_pure (d := some 65) (v := .int .u32 (bxor .u32 (rd x8_1 3) t30.2)) (k2 := [.inRegion (opsOf (pl Go.Proofs.Try.f22 [1, 1, 1, 1, 0, 1, 0, 1, 0, 1, 0, 0, 1, 0, 0, 1])) []]) fun w => by kernel_rfl) (fun _ _ => trivial) hS ?_
                        exact RunAny.same [0, 3, 5, 7, 10, 12, 6, 8] (by kernel_rfl) [0, 8, 10, 11, 12, 57, 60, 62, 63, 64, 65, 67, 69] (by kernel_rfl) (J109 _ hS (hM.pick [0] rfl rfl) hcq33 hcq35 hcq36)
                      · refine Stepped.does 11 ((ld_y (d := some 68) (p := ⟨g4, (0 : Int).toNat, none⟩) (k2 := [.inRegion (opsOf (pl Go.Proofs.Try.f22 [1, 1, 1, 1, 0, 1, 0, 1, 0, 1, 0, 0, 1, 0, 0, 1])) []]) (.int .u32 (rd x8_1 0)) (by kernel_rfl)).does hcq35) hS ?_
                        exact RunAny.same [0, 3, 5, 7, 10, 12, 11] (by kernel_rfl) [0, 8, 10, 11, 12, 57, 60, 62, 64, 67, 68, 69] (by kernel_rfl) (J113 _ hS (hM.pick [0] rfl rfl) hcq33 hcq34 hcq36)
                      · refine Stepped.does 13 ((ld_y (d := some 70) (p := ⟨g4, (1 : Int).toNat, none⟩) (k2 := [.inRegion (opsOf (pl Go.Proofs.Try.f22 [1, 1, 1, 1, 0, 1, 0, 1, 0, 1, 0, 0, 1, 0, 0, 1])) []]) (.int .u32 (rd x8_1 1)) (by kernel_rfl)).does hcq36) hS ?_
                        exact RunAny.same [0, 3, 5, 7, 10, 12, 13] (by kernel_rfl) [0, 8, 10, 11, 12, 57, 60, 62, 64, 67, 69, 70] (by kernel_rfl) (J111 _ hS (hM.pick [0] rfl rfl) hcq33 hcq34 hcq35)
                    · replace h := of_false h c26
                      refine RunF.know 44 (b := false) (by kernel_rfl) c26 ?_
                      refine RunF.go 4 [0, 8] (k' := (pin Go.Proofs.Try.f22 [1, 1, 1, 1, 0, 1, 0, 1, 1, 0] 0)) (L' := [(0, .pointer (some ⟨gp0, 0, none⟩)), (8, .pointer (some ⟨g4, 0, none⟩))]) (w' := W) (by kernel_rfl) ?_
                      obtain ⟨hcq118, hfq118, hlq118⟩ := hM.arr_num 0 rfl (i := 2) (by omega) (N := 4) hlx8_1 (by decide)
                      refine RunF.y (idxArr_own (d := some 72) (g := g4) (len := 4) (i := 2) (k2 := (pin Go.Proofs.Try.f22 [1, 1, 1, 1, 0, 1, 0, 1, 1, 0] 1)) (by kernel_rfl) (by omega) (by decide)) trivial ?_
                      refine RunF.y (ld_y (d := some 73) (p := ⟨g4, (2 : Int).toNat, none⟩) (k2 := (pin Go.Proofs.Try.f22 [1, 1, 1, 1, 0, 1, 0, 1, 1, 0] 2)) (.int .u32 (rd x8_1 2)) (by kernel_rfl)) hcq118 ?_
                      obtain ⟨hcq119, hfq119, hlq119⟩ := hM.arr_num 0 rfl (i := 3) (by omega) (N := 4) hlx8_1 (by decide)
                      refine RunF.y (idxArr_own (d := some 74) (g := g4) (len := 4) (i := 3) (k2 := (pin Go.Proofs.Try.f22 [1, 1, 1, 1, 0, 1, 0, 1, 1, 0] 3)) (by kernel_rfl) (by omega) (by decide)) trivial ?_
                      refine RunF.y (ld_y (d := some 75) (p := ⟨g4, (3 : Int).toNat, none⟩) (k2 := (pin Go.Proofs.Try.f22 [1, 1, 1, 1, 0, 1, 0, 1, 1, 0] 4)) (.int .u32 (rd x8_1 3)) (by kernel_rfl)) hcq119 ?_
                      obtain ⟨hcq120, hfq120, hlq120⟩ := hM.arr_num 0 rfl (i := 0) (by omega) (N := 4) hlx8_1 (by decide)
                      refine RunF.y (idxArr_own (d := some 76) (g := g4) (len := 4) (i := 0) (k2 := (pin Go.Proofs.Try.f22 [1, 1, 1, 1, 0, 1, 0, 1, 1, 0] 5)) (by kernel_rfl) (by omega) (by decide)) trivial ?_
                      refine RunF.y (ld_y (d := some 77) (p := ⟨g4, (0 : Int).toNat, none⟩) (k2 := (pin Go.Proofs.Try.f22 [1, 1, 1, 1, 0, 1, 0, 1, 1, 0] 6)) (.int .u32 (rd x8_1 0)) (by kernel_rfl)) hcq120 ?_
                      obtain ⟨hcq121, hfq121, hlq121⟩ := hM.arr_num 0 rfl (i := 1) (by omega) (N := 4) hlx8_1 (by decide)
                      refine RunF.y (idxArr_own (d := some 78) (g := g4) (len := 4) (i := 1) (k2 := (pin Go.Proofs.Try.f22 [1, 1, 1, 1, 0, 1, 0, 1, 1, 0] 7)) (by kernel_rfl) (by omega) (by decide)) trivial ?_
                      refine RunF.y (ld_y (d := some 79) (p := ⟨g4, (1 : Int).toNat, none⟩) (k2 := (pin Go.Proofs.Try.f22 [1, 1, 1, 1, 0, 1, 0, 1, 1, 0] 8)) (.int .u32 (rd x8_1 1)) (by kernel_rfl)) hcq121 ?_
                      refine RunF.go 1 [0, 8, 80] (k' := (pin Go.Proofs.Try.f22 [1, 1, 1, 1, 0, 1, 0, 1, 1, 0] 9)) (L' := [(0, .pointer (some ⟨gp0, 0, none⟩)), (8, .pointer (some ⟨g4, 0, none⟩)), (80, .agg (nums .u32 ([rd x8_1 2, rd x8_1 3, rd x8_1 0, rd x8_1 1] : List Int)).toArray)]) (w' := W) (by kernel_rfl) ?_
                      refine RunF.doesU (stv_u (N := 4) (cells := (nums .u32 ([rd x8_1 2, rd x8_1 3, rd x8_1 0, rd x8_1 1] : List Int)).toArray) (old := (nums .u32 x8_1).toArray) (ty := 44) (k2 := (pin Go.Proofs.Try.f22 [1, 1, 1, 1, 0, 1, 0, 1, 1, 0] 10)) (by kernel_rfl) (by rw [List.size_toArray]; simp only [nums_length, bools_length, strs_length]; exact rfl) (hM.block 0 rfl) (by rw [List.size_toArray]; simp only [nums_length, bools_length, strs_length]; exact hlx8_1) (all_nums _ _)) ?_
                      replace hM : Mem w (W.setRow g4 (nums .u32 ([rd x8_1 2, rd x8_1 3, rd x8_1 0, rd x8_1 1] : List Int)).toArray) [⟨.pointer (some ⟨g4, 0, none⟩), 44, 0, nums .u32 ([rd x8_1 2, rd x8_1 3, rd x8_1 0, rd x8_1 1] : List Int)⟩] := Mem.setAll [] [] (hM.pick [0] rfl rfl)
                      generalize W.setRow g4 (nums .u32 ([rd x8_1 2, rd x8_1 3, rd x8_1 0, rd x8_1 1] : List Int)).toArray = W122 at hM ⊢
                      refine RunF.go 3 [8, 81] (k' := (pin Go.Proofs.Try.f22 [1, 1, 1, 1, 0, 1, 0, 1, 1, 1] 1)) (L' := [(8, .pointer (some ⟨g4, 0, none⟩)), (81, .pointer (some ⟨gp0, 0, none⟩))]) (w' := W122) (by kernel_rfl) ?_
                      refine RunF.y (ldv_y (d := some 82) (g := g4) (N := 4) (ty := 44) (k2 := (pin Go.Proofs.Try.f22 [1, 1, 1, 1, 0, 1, 0, 1, 1, 1] 2)) (nums .u32 ([rd x8_1 2, rd x8_1 3, rd x8_1 0, rd x8_1 1] : List Int)) (by kernel_rfl) (by simp only [nums_length, bools_length, strs_length]; exact rfl)) (hM.block 0 rfl) ?_
                      obtain ⟨t124, ht124, h⟩ := Option.bind_eq_some_iff.mp h
                      refine RunF.call (d := some 83) (g := 43) (args := #[.pointer (some ⟨gp0, 0, none⟩), .agg (nums .u32 ([rd x8_1 2, rd x8_1 3, rd x8_1 0, rd x8_1 1] : List Int)).toArray, .int .i64 0]) (k2 := (pin Go.Proofs.Try.f22 [1, 1, 1, 1, 0, 1, 0, 1, 1, 1] 3)) (by kernel_rfl) (twofish_Twofish_white.calls k (.pointer (some ⟨gp0, 0, none⟩)) Zp0 a0 ([rd x8_1 2, rd x8_1 3, rd x8_1 0, rd x8_1 1] : List Int) 0 t124 _ rfl hp0 (fun _ hb_ => (hZp0 _ (hM.kept.trans hb_))) ht124) ?_
                      rintro _ W123 ⟨rfl, hNt124_0, hM_⟩
                      replace hM := hM.call hM_
                      clear hM_ ht124
                      refine RunF.doesU (stv_u (N := 4) (cells := (nums .u32 t124).toArray) (old := (nums .u32 ([rd x8_1 2, rd x8_1 3, rd x8_1 0, rd x8_1 1] : List Int)).toArray) (ty := 44) (k2 := (pin Go.Proofs.Try.f22 [1, 1, 1, 1, 0, 1, 0, 1, 1, 1] 4)) (by kernel_rfl) (by rw [List.size_toArray]; simp only [nums_length, bools_length, strs_length]; exact hNt124_0) (hM.block 0 rfl) (by rw [List.size_toArray]; simp only [nums_length, bools_length, strs_length]; exact rfl) (all_nums _ _)) ?_
                      replace hM : Mem w (W123.setRow g4 (nums .u32 t124).toArray) [⟨.pointer (some ⟨g4, 0, none⟩), 44, 0, nums .u32 t124⟩] := Mem.setAll [] [] (hM.pick [0] rfl rfl)
                      generalize W123.setRow g4 (nums .u32 t124).toArray = W125 at hM ⊢
                      refine RunF.go 3 [8] (k' := (pin Go.Proofs.Try.f22 [1, 1, 1, 1, 1, 0] 0)) (L' := [(8, .pointer (some ⟨g4, 0, none⟩))]) (w' := W125) (by kernel_rfl) ?_
                      rcases two (decide (0 ≤ 16)) with c128 | c128
                      · replace h := of_true h c128
                        have := of_decide_eq_true c128
                        obtain ⟨W126, hD, hM', hB_⟩ := mk_does (P := Go.Proofs.Try.prog) (n := 138) (k := (pin Go.Proofs.Try.f22 [1, 1, 1, 1, 1, 0] 0)) (L := [(8, .pointer (some ⟨g4, 0, none⟩))]) (d := some 127) (e := 5) (z := .int .u8 0) (l := 0) (c := 16) (k2 := (pin Go.Proofs.Try.f22 [1, 1, 1, 1, 1, 0] 1)) (by kernel_rfl) (by omega) (by omega) (by omega) hM
                        rw [rep_nums] at hM'
                        refine RunF.does hD ?_
                        replace hM := hM'; clear hD hM'
                        generalize W125.heap.size = g127 at hM ⊢
                        refine RunF.go 5 [8, 16] (k' := (pin Go.Proofs.Try.f22 [1, 1, 1, 1, 1, 1, 0, 0] 0)) (L' := [(8, .pointer (some ⟨g4, 0, none⟩)), (16, .slice (some ⟨g127, 0, none⟩) 0 16)]) (w' := W126) (by kernel_rfl) ?_
                        refine RunF.y (ldv_y (d := some 128) (g := g4) (N := 4) (ty := 44) (k2 := (pin Go.Proofs.Try.f22 [1, 1, 1, 1, 1, 1, 0, 0] 1)) (nums .u32 t124) (by kernel_rfl) (by simp only [nums_length, bools_length, strs_length]; exact hNt124_0)) (hM.block 1 rfl) ?_
                        refine RunF.go 4 [16, 128, 129] (k' := (pl Go.Proofs.Try.f22 [1, 1, 1, 1, 1, 1, 0, 1, 0, 0])) (L' := [(16, .slice (some ⟨g127, 0, none⟩) 0 16), (128, .agg (nums .u32 t124).toArray), (129, .int .i64 0)]) (w' := W126) (by kernel_rfl) ?_
                        have l2 : ∀ (k_ : Nat), k_ ≤ k → ∀ (A16_2 : Option Addr) (c16_2 : Nat) (x16_2 : List Int) (x129_2 : Int) (W : World) (hM : Mem w W [⟨.slice A16_2 x16_2.length c16_2, 5, 1, nums .u8 x16_2⟩]) (h : twofish_Twofish_Block.l2 k_ t124 x16_2 x129_2 = some r), RunF Go.Proofs.Try.prog (Ret fun v w' => ∃ A0' n0' c0', v = .tuple #[.slice A0' n0' c0', .int .i64 r.2] ∧ Mem w w' [⟨.slice A0' n0' c0', 5, 1, nums .u8 r.1⟩]) 22 (pl Go.Proofs.Try.f22 [1, 1, 1, 1, 1, 1, 0, 1, 0, 0]) 138 [(16, .slice A16_2 x16_2.length c16_2), (128, .agg (nums .u32 t124).toArray), (129, .int .i64 x129_2)] W := by
                          intro k_
                          induction k_ using Nat.strongRecOn with
                          | _ k_ ih2 =>
                            intro hk A16_2 c16_2 x16_2 x129_2 W hM h
                            cases k_ with
                            | zero => exact absurd h (by simp [twofish_Twofish_Block.l2])
                            | succ k =>
                              simp only [twofish_Twofish_Block.l2] at h
                              replace ih2 : ∀ m, m ≤ k → _ := fun m hm => ih2 m (by omega) (by omega)
                              replace ih0 : ∀ m, m ≤ k → _ := fun m hm => ih0 m (by omega)
                              replace ih1 : ∀ m, m ≤ k → _ := fun m hm => ih1 m (by omega)
                              refine RunF.go 5 [16, 128, 129, 130] (k' := (pl Go.Proofs.Try.f22 [1, 1, 1, 1, 1, 1, 0, 1, 0, 0, 1, 0])) (L' := [(16, .slice A16_2 x16_2.length c16_2), (128, .agg (nums .u32 t124).toArray), (129, .int .i64 x129_2), (130, .bool (decide (x129_2 < 4)))]) (w' := W) (by kernel_rfl) ?_
                              rcases two (decide (x129_2 < 4)) with c131 | c131
                              · replace h := of_true h c131
                                refine RunF.know 130 (b := true) (by kernel_rfl) c131 ?_
                                refine RunF.go 6 [16, 128, 129] (k' := (pin Go.Proofs.Try.f22 [1, 1, 1, 1, 1, 1, 0, 1, 0, 0, 1, 1, 0, 0, 0] 0)) (L' := [(16, .slice A16_2 x16_2.length c16_2), (128, .agg (nums .u32 t124).toArray), (129, .int .i64 x129_2)]) (w' := W) (by kernel_rfl) ?_
                                rcases two (decide (0 ≤ x129_2)) with c132 | c132
                                · replace h := of_true h c132
                                  rcases two (decide (x129_2 < (4 : Int))) with c133 | c133
                                  · replace h := of_true h c133
                                    refine RunF.y (idxVal_y (d := some 131) (cs := (nums .u32 t124).toArray) (len := 4) (i := x129_2) (u := .int .u32 (rd t124 x129_2)) (k2 := (pin Go.Proofs.Try.f22 [1, 1, 1, 1, 1, 1, 0, 1, 0, 0, 1, 1, 0, 0, 0] 1)) (by kernel_rfl) (of_decide_eq_true c132) (of_decide_eq_true c133) (by rw [List.getElem?_toArray]; exact nums_at (of_decide_eq_true c132) (by rw [show t124.length = 4 from hNt124_0]; exact (of_decide_eq_true c133)))) trivial ?_
                                    refine RunF.go 5 [128, 129, 132, 133] (k' := (pin Go.Proofs.Try.f22 [1, 1, 1, 1, 1, 1, 0, 1, 0, 0, 1, 1, 0, 0, 1] 2)) (L' := [(128, .agg (nums .u32 t124).toArray), (129, .int .i64 x129_2), (132, .slice A16_2 x16_2.length c16_2), (133, .int .u32 (rd t124 x129_2))]) (w' := W) (by kernel_rfl) ?_
                                    obtain ⟨t135, ht135, h⟩ := Option.bind_eq_some_iff.mp h
                                    refine RunF.call (d := some 134) (g := 34) (args := #[.int .u32 (rd t124 x129_2)]) (k2 := (pin Go.Proofs.Try.f22 [1, 1, 1, 1, 1, 1, 0, 1, 0, 0, 1, 1, 0, 0, 1] 3)) (by kernel_rfl) (words_PutLe32.calls k (rd t124 x129_2) t135 _ ht135) ?_
                                    rintro _ W134 ⟨A136, n137, c138, rfl, hM_⟩
                                    obtain rfl : t135.length = n137 := by have h_ := (hM_.rd 0 rfl).1; simpa [nums_length, bools_length, strs_length] using h_
                                    replace hM := hM.call hM_
                                    clear hM_ ht135
                                    rcases two (decide (x16_2.length + t135.length ≤ 1000000000)) with c144 | c144
                                    · replace h := of_true h c144
                                      have h_ := of_decide_eq_true c144
                                      obtain ⟨A140, n141, c142, W143, hD, hM', hS_⟩ := app_does (P := Go.Proofs.Try.prog) (n := 138) (k := (pin Go.Proofs.Try.f22 [1, 1, 1, 1, 1, 1, 0, 1, 0, 0, 1, 1, 0, 0, 1] 3)) (L := (upd [(128, .agg (nums .u32 t124).toArray), (129, .int .i64 x129_2), (132, .slice A16_2 x16_2.length c16_2), (133, .int .u32 (rd t124 x129_2))] (some 134) (.slice A136 t135.length c138))) (d := some 135) (e := 5) (A := A16_2) (m := x16_2.length) (c := c16_2) (A2 := A136) (m2 := t135.length) (c2 := c138) (cs := nums .u8 x16_2) (ys := nums .u8 t135) (k2 := (pin Go.Proofs.Try.f22 [1, 1, 1, 1, 1, 1, 0, 1, 0, 0, 1, 1, 0, 0, 1] 4)) [⟨.slice A136 t135.length c138, 5, 1, nums .u8 t135⟩] [] (by kernel_rfl) (hM.pick [0, 1] rfl rfl) (hM.rd 0 rfl) (one_nums _ _) (by omega)
                                      rw [nums_append] at hM'
                                      replace hM := hM'; clear h_ hM'
                                      obtain rfl : (x16_2 ++ t135).length = n141 := by have h_ := (hM.rd 1 rfl).1; simpa only [nums_length, bools_length, strs_length] using h_
                                      refine RunF.does hD ?_
                                      clear hD hS_
                                      refine RunF.go 8 [16, 128, 129] (k' := (pl Go.Proofs.Try.f22 [1, 1, 1, 1, 1, 1, 0, 1, 0, 0])) (L' := [(16, .slice A140 ((x16_2 ++ t135).length) c142), (128, .agg (nums .u32 t124).toArray), (129, .int .i64 (I64 (x129_2 + 1)))]) (w' := W143) (by kernel_rfl) ?_
                                      exact ih2 k (by omega) A140 c142 (x16_2 ++ t135) (I64 (x129_2 + 1)) _ (hM.pick [1] rfl rfl) h
                                    · replace h := of_false h c144
                                      cases h
                                  · replace h := of_false h c133
                                    cases h
                                · replace h := of_false h c132
                                  cases h
                              · replace h := of_false h c131
                                refine RunF.know 130 (b := false) (by kernel_rfl) c131 ?_
                                refine RunF.go 8 [6, 7] (k' := (pl Go.Proofs.Try.f22 [1, 1, 1, 1, 1, 1, 1, 1])) (L' := [(6, .slice A16_2 x16_2.length c16_2), (7, .int .i64 0)]) (w' := W) (by kernel_rfl) ?_
                                obtain rfl := Option.some.inj h
                                exact RunF.ret2 6 7 (.slice A16_2 x16_2.length c16_2) (.int .i64 0) (fn := Go.Proofs.Try.f22) Go.Proofs.Try.func22 (by kernel_rfl) (by kernel_rfl) (by kernel_rfl) (by kernel_rfl) ⟨_, rfl, A16_2, x16_2.length, c16_2, rfl, (hM.pick [0] rfl rfl)⟩
                        exact l2 k (Nat.le_refl _) (some ⟨g127, 0, none⟩) 16 (List.replicate 0 (0 : Int)) 0 _ (hM.pick [0] rfl rfl) h
                      · replace h := of_false h c128
                        cases h
              exact l1 k (Nat.le_refl _) t24 15 _ (hM.pick [0] rfl rfl) hNt24_0 h
            · replace h := of_false h c22
              refine RunF.know 39 (b := false) (by kernel_rfl) c22 ?_
              refine RunF.go 4 [0, 8, 84] (k' := (pin Go.Proofs.Try.f22 [1, 1, 1, 1, 0, 1, 1, 0] 1)) (L' := [(0, .pointer (some ⟨gp0, 0, none⟩)), (8, .pointer (some ⟨g4, 0, none⟩)), (84, .pointer (some ⟨gp0, 0, none⟩))]) (w' := W) (by kernel_rfl) ?_
              refine RunF.y (ldv_y (d := some 85) (g := g4) (N := 4) (ty := 44) (k2 := (pin Go.Proofs.Try.f22 [1, 1, 1, 1, 0, 1, 1, 0] 2)) (nums .u32 x8_0) (by kernel_rfl) (by simp only [nums_length, bools_length, strs_length]; exact hlx8_0)) (hM.block 0 rfl) ?_
              obtain ⟨t147, ht147, h⟩ := Option.bind_eq_some_iff.mp h
              refine RunF.call (d := some 86) (g := 43) (args := #[.pointer (some ⟨gp0, 0, none⟩), .agg (nums .u32 x8_0).toArray, .int .i64 0]) (k2 := (pin Go.Proofs.Try.f22 [1, 1, 1, 1, 0, 1, 1, 0] 3)) (by kernel_rfl) (twofish_Twofish_white.calls k (.pointer (some ⟨gp0, 0, none⟩)) Zp0 a0 x8_0 0 t147 _ hlx8_0 hp0 (fun _ hb_ => (hZp0 _ (hM.kept.trans hb_))) ht147) ?_
              rintro _ W146 ⟨rfl, hNt147_0, hM_⟩
              replace hM := hM.call hM_
              clear hM_ ht147
              refine RunF.doesU (stv_u (N := 4) (cells := (nums .u32 t147).toArray) (old := (nums .u32 x8_0).toArray) (ty := 44) (k2 := (pin Go.Proofs.Try.f22 [1, 1, 1, 1, 0, 1, 1, 0] 4)) (by kernel_rfl) (by rw [List.size_toArray]; simp only [nums_length, bools_length, strs_length]; exact hNt147_0) (hM.block 0 rfl) (by rw [List.size_toArray]; simp only [nums_length, bools_length, strs_length]; exact hlx8_0) (all_nums _ _)) ?_
              replace hM : Mem w (W146.setRow g4 (nums .u32 t147).toArray) [⟨.pointer (some ⟨g4, 0, none⟩), 44, 0, nums .u32 t147⟩] := Mem.setAll [] [] (hM.pick [0] rfl rfl)
              generalize W146.setRow g4 (nums .u32 t147).toArray = W148 at hM ⊢
              refine RunF.go 8 [0, 8, 87] (k' := (pl Go.Proofs.Try.f22 [1, 1, 1, 1, 0, 1, 1, 1, 0, 1, 0, 0])) (L' := [(0, .pointer (some ⟨gp0, 0, none⟩)), (8, .pointer (some ⟨g4, 0, none⟩)), (87, .int .i64 0)]) (w' := W148) (by kernel_rfl) ?_
              have l3 : ∀ (k_ : Nat), k_ ≤ k → ∀ (x8_3 : List Int) (x87_3 : Int) (W : World) (hM : Mem w W [⟨.pointer (some ⟨g4, 0, none⟩), 44, 0, nums .u32 x8_3⟩]) (hlx8_3 : x8_3.length = 4) (h : twofish_Twofish_Block.l3 k_ a0 x8_3 x87_3 = some r), RunF Go.Proofs.Try.prog (Ret fun v w' => ∃ A0' n0' c0', v = .tuple #[.slice A0' n0' c0', .int .i64 r.2] ∧ Mem w w' [⟨.slice A0' n0' c0', 5, 1, nums .u8 r.1⟩]) 22 (pl Go.Proofs.Try.f22 [1, 1, 1, 1, 0, 1, 1, 1, 0, 1, 0, 0]) 138 [(0, .pointer (some ⟨gp0, 0, none⟩)), (8, .pointer (some ⟨g4, 0, none⟩)), (87, .int .i64 x87_3)] W := by
                intro k_
                induction k_ using Nat.strongRecOn with
                | _ k_ ih3 =>
                  intro hk x8_3 x87_3 W hM hlx8_3 h
                  cases k_ with
                  | zero => exact absurd h (by simp [twofish_Twofish_Block.l3])
                  | succ k =>
                    simp only [twofish_Twofish_Block.l3] at h
                    replace ih3 : ∀ m, m ≤ k → _ := fun m hm => ih3 m (by omega) (by omega)
                    replace ih0 : ∀ m, m ≤ k → _ := fun m hm => ih0 m (by omega)
                    refine RunF.go 5 [0, 8, 87, 88] (k' := (pl Go.Proofs.Try.f22 [1, 1, 1, 1, 0, 1, 1, 1, 0, 1, 0, 0, 1, 0])) (L' := [(0, .pointer (some ⟨gp0, 0, none⟩)), (8, .pointer (some ⟨g4, 0, none⟩)), (87, .int .i64 x87_3), (88, .bool (decide (x87_3 < 16)))]) (w' := W) (by kernel_rfl) ?_
                    rcases two (decide (x87_3 < 16)) with c149 | c149
                    · replace h := of_true h c149
                      refine RunF.know 88 (b := true) (by kernel_rfl) c149 ?_
                      refine RunF.go 12 [0, 8, 13, 87, 91] (k' := (pin Go.Proofs.Try.f22 [1, 1, 1, 1, 0, 1, 1, 1, 0, 1, 0, 0, 1, 1, 0, 0, 1, 0] 1)) (L' := [(0, .pointer (some ⟨gp0, 0, none⟩)), (8, .pointer (some ⟨g4, 0, none⟩)), (13, .int .i64 x87_3), (87, .int .i64 x87_3), (91, .pointer (some ⟨gp0, 0, none⟩))]) (w' := W) (by kernel_rfl) ?_
                      obtain ⟨hcq150, hfq150, hlq150⟩ := hM.arr_num 0 rfl (i := 0) (by omega) (N := 4) hlx8_3 (by decide)
                      refine RunF.y (idxArr_own (d := some 92) (g := g4) (len := 4) (i := 0) (k2 := (pin Go.Proofs.Try.f22 [1, 1, 1, 1, 0, 1, 1, 1, 0, 1, 0, 0, 1, 1, 0, 0, 1, 0] 2)) (by kernel_rfl) (by omega) (by decide)) trivial ?_
                      refine RunF.y (ld_y (d := some 93) (p := ⟨g4, (0 : Int).toNat, none⟩) (k2 := (pin Go.Proofs.Try.f22 [1, 1, 1, 1, 0, 1, 1, 1, 0, 1, 0, 0, 1, 1, 0, 0, 1, 0] 3)) (.int .u32 (rd x8_3 0)) (by kernel_rfl)) hcq150 ?_
                      obtain ⟨hcq151, hfq151, hlq151⟩ := hM.arr_num 0 rfl (i := 1) (by omega) (N := 4) hlx8_3 (by decide)
                      refine RunF.y (idxArr_own (d := some 94) (g := g4) (len := 4) (i := 1) (k2 := (pin Go.Proofs.Try.f22 [1, 1, 1, 1, 0, 1, 1, 1, 0, 1, 0, 0, 1, 1, 0, 0, 1, 0] 4)) (by kernel_rfl) (by omega) (by decide)) trivial ?_
                      refine RunF.y (ld_y (d := some 95) (p := ⟨g4, (1 : Int).toNat, none⟩) (k2 := (pin Go.Proofs.Try.f22 [1, 1, 1, 1, 0, 1, 1, 1, 0, 1, 0, 0, 1, 1, 0, 0, 1, 0] 5)) (.int .u32 (rd x8_3 1)) (by kernel_rfl)) hcq151 ?_
                      refine RunF.go 1 [0, 8, 87, 91, 93, 95, 96] (k' := (pin Go.Proofs.Try.f22 [1, 1, 1, 1, 0, 1, 1, 1, 0, 1, 0, 0, 1, 1, 0, 0, 1, 0] 6)) (L' := [(0, .pointer (some ⟨gp0, 0, none⟩)), (8, .pointer (some ⟨g4, 0, none⟩)), (87, .int .i64 x87_3), (91, .pointer (some ⟨gp0, 0, none⟩)), (93, .int .u32 (rd x8_3 0)), (95, .int .u32 (rd x8_3 1)), (96, .int .i64 x87_3)]) (w' := W) (by kernel_rfl) ?_
                      obtain ⟨t153, ht153, h⟩ := Option.bind_eq_some_iff.mp h
                      refine RunF.call (d := some 97) (g := 44) (args := #[.pointer (some ⟨gp0, 0, none⟩), .int .u32 (rd x8_3 0), .int .u32 (rd x8_3 1), .int .i64 x87_3]) (k2 := (pin Go.Proofs.Try.f22 [1, 1, 1, 1, 0, 1, 1, 1, 0, 1, 0, 0, 1, 1, 0, 0, 1, 0] 7)) (by kernel_rfl) (twofish_Twofish_sums.calls k (.pointer (some ⟨gp0, 0, none⟩)) Zp0 a0 (rd x8_3 0) (rd x8_3 1) x87_3 t153 _ hp0 (fun _ hb_ => (hZp0 _ (hM.kept.trans hb_))) ht153) ?_
                      rintro _ W152 ⟨rfl, hM_⟩
                      replace hM := hM.call hM_
                      clear hM_ ht153
                      refine RunF.go 6 [0, 8, 14, 15, 87] (k' := (pl Go.Proofs.Try.f22 [1, 1, 1, 1, 0, 1, 1, 1, 0, 1, 0, 0, 1, 1, 0, 0, 1, 1])) (L' := [(0, .pointer (some ⟨gp0, 0, none⟩)), (8, .pointer (some ⟨g4, 0, none⟩)), (14, .int .u32 t153.1), (15, .int .u32 t153.2), (87, .int .i64 x87_3)]) (w' := W152) (by kernel_rfl) ?_
                      refine RunF.draw (Still ({ W152 with drawn := W152.drawn + 1 } : World) [.pointer (some ⟨g4, 0, none⟩)]) (by kernel_rfl) (by kernel_rfl) ?_
                      have hMd155 := hM.drew
                      have hS := Still.refl ({ W152 with drawn := W152.drawn + 1 } : World) [.pointer (some ⟨g4, 0, none⟩)]
                      generalize ({ W152 with drawn := W152.drawn + 1 } : World) = W154 at hMd155 hS ⊢
                      replace hM := hMd155
                      obtain ⟨hcq156, hfq156, hlq156⟩ := hM.arr_num 0 rfl (i := 2) (by omega) (N := 4) hlx8_3 (by decide)
                      refine RunAny.y 0 (by kernel_rfl) (idxArr_own (d := some 100) (g := g4) (len := 4) (i := 2) (k2 := [.inRegion (opsOf (pl Go.Proofs.Try.f22 [1, 1, 1, 1, 0, 1, 1, 1, 0, 1, 0, 0, 1, 1, 0, 0, 1, 1])) []]) (by kernel_rfl) (by omega) (by decide)) (fun _ _ => trivial) hS ?_
                      refine RunAny.y 2 (by kernel_rfl) (yl_pure (d := some 102) (v := .int .u32 t153.1) (k2 := [.inRegion (opsOf (pl Go.Proofs.Try.f22 [1, 1, 1, 1, 0, 1, 1, 1, 0, 1, 0, 0, 1, 1, 0, 0, 1, 1])) []]) fun w => by kernel_rfl) (fun _ _ => trivial) hS ?_
                      obtain ⟨hcq157, hfq157, hlq157⟩ := hM.arr_num 0 rfl (i := 3) (by omega) (N := 4) hlx8_3 (by decide)
                      refine RunAny.y 5 (by kernel_rfl) (idxArr_own (d := some 105) (g := g4) (len := 4) (i := 3) (k2 := [.inRegion (opsOf (pl Go.Proofs.Try.f22 [1, 1, 1, 1, 0, 1, 1, 1, 0, 1, 0, 0, 1, 1, 0, 0, 1, 1])) []]) (by kernel_rfl) (by omega) (by decide)) (fun _ _ => trivial) hS ?_
                      refine RunAny.y 8 (by kernel_rfl) (yl_pure (d := some 108) (v := .int .u32 t153.2) (k2 := [.inRegion (opsOf (pl Go.Proofs.Try.f22 [1, 1, 1, 1, 0, 1, 1, 1, 0, 1, 0, 0, 1, 1, 0, 0, 1, 1])) []]) fun w => by kernel_rfl) (fun _ _ => trivial) hS ?_
                      obtain ⟨hcq158, hfq158, hlq158⟩ := hM.arr_num 0 rfl (i := 0) (by omega) (N := 4) hlx8_3 (by decide)
                      refine RunAny.y 10 (by kernel_rfl) (idxArr_own (d := some 110) (g := g4) (len := 4) (i := 0) (k2 := [.inRegion (opsOf (pl Go.Proofs.Try.f22 [1, 1, 1, 1, 0, 1, 1, 1, 0, 1, 0, 0, 1, 1, 0, 0, 1, 1])) []]) (by kernel_rfl) (by omega) (by decide)) (fun _ _ => trivial) hS ?_
                      obtain ⟨hcq159, hfq159, hlq159⟩ := hM.arr_num 0 rfl (i := 1) (by omega) (N := 4) hlx8_3 (by decide)
                      refine RunAny.y 12 (by kernel_rfl) (idxArr_own (d := some 112) (g := g4) (len := 4) (i := 1) (k2 := [.inRegion (opsOf (pl Go.Proofs.Try.f22 [1, 1, 1, 1, 0, 1, 1, 1, 0, 1, 0, 0, 1, 1, 0, 0, 1, 1])) []]) (by kernel_rfl) (by omega) (by decide)) (fun _ _ => trivial) hS ?_
                      obtain ⟨t160, ht160, h⟩ := Option.bind_eq_some_iff.mp h
                      obtain ⟨t168, ht168, h⟩ := Option.bind_eq_some_iff.mp h
                      have J174 : ∀ (W175 : World) (hS : Still W175 [.pointer (some ⟨g4, 0, none⟩)] W175) (hM : Mem w W175 [⟨.pointer (some ⟨g4, 0, none⟩), 44, 0, nums .u32 x8_3⟩]) , RunAny Go.Proofs.Try.prog (Ret fun v w' => ∃ A0' n0' c0', v = .tuple #[.slice A0' n0' c0', .int .i64 r.2] ∧ Mem w w' [⟨.slice A0' n0' c0', 5, 1, nums .u8 r.1⟩]) 22 (rest1 (pl Go.Proofs.Try.f22 [1, 1, 1, 1, 0, 1, 1, 1, 0, 1, 0, 0, 1, 1, 0, 0, 1, 1])) 138 (opsOf (pl Go.Proofs.Try.f22 [1, 1, 1, 1, 0, 1, 1, 1, 0, 1, 0, 0, 1, 1, 0, 0, 1, 1])) (Still W175 [.pointer (some ⟨g4, 0, none⟩)]) 1 [0, 2, 5, 8, 10, 12, 6, 11, 13, 1, 3, 4, 7, 9, 14] [(0, .pointer (some ⟨gp0, 0, none⟩)), (8, .pointer (some ⟨g4, 0, none⟩)), (14, .int .u32 t153.1), (15, .int .u32 t153.2), (87, .int .i64 x87_3), (100, .pointer (some ⟨g4, (2 : Int).toNat, none⟩)), (101, .int .u32 (rd x8_3 2)), (102, .int .u32 t153.1), (103, .int .u32 (bxor .u32 (rd x8_3 2) t153.1)), (104, .int .u32 t160), (105, .pointer (some ⟨g4, (3 : Int).toNat, none⟩)), (106, .int .u32 (rd x8_3 3)), (107, .int .u32 t168), (108, .int .u32 t153.2), (109, .int .u32 (bxor .u32 t168 t153.2)), (110, .pointer (some ⟨g4, (0 : Int).toNat, none⟩)), (111, .int .u32 (rd x8_3 0)), (112, .pointer (some ⟨g4, (1 : Int).toNat, none⟩)), (113, .int .u32 (rd x8_3 1)), (114, .agg (nums .u32 ([t160, bxor .u32 t168 t153.2, rd x8_3 0, rd x8_3 1] : List Int)).toArray)] W175 := by
                        intro W175 hS hM 
                        have hS' := hS.setRow (v := .pointer (some ⟨g4, 0, none⟩)) (g := g4) (by simp) rfl (nums .u32 ([t160, bxor .u32 t168 t153.2, rd x8_3 0, rd x8_3 1] : List Int)).toArray
                        refine RunAny.doesU 15 (by kernel_rfl) (stv_u (N := 4) (cells := (nums .u32 ([t160, bxor .u32 t168 t153.2, rd x8_3 0, rd x8_3 1] : List Int)).toArray) (old := (nums .u32 x8_3).toArray) (ty := 44) (k2 := [.inRegion (opsOf (pl Go.Proofs.Try.f22 [1, 1, 1, 1, 0, 1, 1, 1, 0, 1, 0, 0, 1, 1, 0, 0, 1, 1])) []]) (by kernel_rfl) (by rw [List.size_toArray]; simp only [nums_length, bools_length, strs_length]; exact rfl) (hM.block 0 rfl) (by rw [List.size_toArray]; simp only [nums_length, bools_length, strs_length]; exact hlx8_3) (all_nums _ _)) hS' ?_
                        replace hM : Mem w (W175.setRow g4 (nums .u32 ([t160, bxor .u32 t168 t153.2, rd x8_3 0, rd x8_3 1] : List Int)).toArray) [⟨.pointer (some ⟨g4, 0, none⟩), 44, 0, nums .u32 ([t160, bxor .u32 t168 t153.2, rd x8_3 0, rd x8_3 1] : List Int)⟩] := Mem.setAll [] [] (hM.pick [0] rfl rfl)
                        generalize W175.setRow g4 (nums .u32 ([t160, bxor .u32 t168 t153.2, rd x8_3 0, rd x8_3 1] : List Int)).toArray = W176 at hM hS' ⊢
                        replace hS := hS'
                        refine RunAny.rebase hS ?_
                        replace hS := Still.refl W176 [.pointer (some ⟨g4, 0, none⟩)]
                        refine RunAny.done (by kernel_rfl) ?_
                        clear hS
                        refine RunF.go 6 [0, 8, 87] (k' := (pl Go.Proofs.Try.f22 [1, 1, 1, 1, 0, 1, 1, 1, 0, 1, 0, 0])) (L' := [(0, .pointer (some ⟨gp0, 0, none⟩)), (8, .pointer (some ⟨g4, 0, none⟩)), (87, .int .i64 (I64 (x87_3 + 1)))]) (w' := W176) (by kernel_rfl) ?_
                        exact ih3 k (by omega) ([t160, bxor .u32 t168 t153.2, rd x8_3 0, rd x8_3 1] : List Int) (I64 (x87_3 + 1)) _ (hM.pick [0] rfl rfl) rfl h
                      have J177 : ∀ (W178 : World) (hS : Still W178 [.pointer (some ⟨g4, 0, none⟩)] W178) (hM : Mem w W178 [⟨.pointer (some ⟨g4, 0, none⟩), 44, 0, nums .u32 x8_3⟩]) (hcq158 : W178.cell? ⟨g4, (0 : Int).toNat, none⟩ = some (.int .u32 (rd x8_3 0))), RunAny Go.Proofs.Try.prog (Ret fun v w' => ∃ A0' n0' c0', v = .tuple #[.slice A0' n0' c0', .int .i64 r.2] ∧ Mem w w' [⟨.slice A0' n0' c0', 5, 1, nums .u8 r.1⟩]) 22 (rest1 (pl Go.Proofs.Try.f22 [1, 1, 1, 1, 0, 1, 1, 1, 0, 1, 0, 0, 1, 1, 0, 0, 1, 1])) 138 (opsOf (pl Go.Proofs.Try.f22 [1, 1, 1, 1, 0, 1, 1, 1, 0, 1, 0, 0, 1, 1, 0, 0, 1, 1])) (Still W178 [.pointer (some ⟨g4, 0, none⟩)]) 3 [0, 2, 5, 8, 10, 12, 6, 13, 1, 3, 4, 7, 9] [(0, .pointer (some ⟨gp0, 0, none⟩)), (8, .pointer (some ⟨g4, 0, none⟩)), (14, .int .u32 t153.1), (15, .int .u32 t153.2), (87, .int .i64 x87_3), (100, .pointer (some ⟨g4, (2 : Int).toNat, none⟩)), (101, .int .u32 (rd x8_3 2)), (102, .int .u32 t153.1), (103, .int .u32 (bxor .u32 (rd x8_3 2) t153.1)), (104, .int .u32 t160), (105, .pointer (some ⟨g4, (3 : Int).toNat, none⟩)), (106, .int .u32 (rd x8_3 3)), (107, .int .u32 t168), (108, .int .u32 t153.2), (109, .int .u32 (bxor .u32 t168 t153.2)), (110, .pointer (some ⟨g4, (0 : Int).toNat, none⟩)), (112, .pointer (some ⟨g4, (1 : Int).toNat, none⟩)), (113, .int .u32 (rd x8_3 1))] W178 := by
                        intro W178 hS hM hcq158
                        refine RunAny.does 11 (by kernel_rfl) ((ld_y (d := some 111) (p := ⟨g4, (0 : Int).toNat, none⟩) (k2 := [.inRegion (opsOf (pl Go.Proofs.Try.f22 [1, 1, 1, 1, 0, 1, 1, 1, 0, 1, 0, 0, 1, 1, 0, 0, 1, 1])) []]) (.int .u32 (rd x8_3 0)) (by kernel_rfl)).does hcq158) hS ?_
                        refine RunAny.y 14 (by kernel_rfl) (yl_pure (d := some 114) (v := .agg (nums .u32 ([t160, bxor .u32 t168 t153.2, rd x8_3 0, rd x8_3 1] : List Int)).toArray) (k2 := [.inRegion (opsOf (pl Go.Proofs.Try.f22 [1, 1, 1, 1, 0, 1, 1, 1, 0, 1, 0, 0, 1, 1, 0, 0, 1, 1])) []]) fun w => by kernel_rfl) (fun _ _ => trivial) hS ?_
                        exact RunAny.same [0, 2, 5, 8, 10, 12, 6, 11, 13, 1, 3, 4, 7, 9, 14] (by kernel_rfl) [0, 8, 14, 15, 87, 100, 101, 102, 103, 104, 105, 106, 107, 108, 109, 110, 111, 112, 113, 114] (by kernel_rfl) (J174 _ hS (hM.pick [0] rfl rfl))
                      have J179 : ∀ (W180 : World) (hS : Still W180 [.pointer (some ⟨g4, 0, none⟩)] W180) (hM : Mem w W180 [⟨.pointer (some ⟨g4, 0, none⟩), 44, 0, nums .u32 x8_3⟩]) (hcq159 : W180.cell? ⟨g4, (1 : Int).toNat, none⟩ = some (.int .u32 (rd x8_3 1))), RunAny Go.Proofs.Try.prog (Ret fun v w' => ∃ A0' n0' c0', v = .tuple #[.slice A0' n0' c0', .int .i64 r.2] ∧ Mem w w' [⟨.slice A0' n0' c0', 5, 1, nums .u8 r.1⟩]) 22 (rest1 (pl Go.Proofs.Try.f22 [1, 1, 1, 1, 0, 1, 1, 1, 0, 1, 0, 0, 1, 1, 0, 0, 1, 1])) 138 (opsOf (pl Go.Proofs.Try.f22 [1, 1, 1, 1, 0, 1, 1, 1, 0, 1, 0, 0, 1, 1, 0, 0, 1, 1])) (Still W180 [.pointer (some ⟨g4, 0, none⟩)]) 3 [0, 2, 5, 8, 10, 12, 6, 11, 1, 3, 4, 7, 9] [(0, .pointer (some ⟨gp0, 0, none⟩)), (8, .pointer (some ⟨g4, 0, none⟩)), (14, .int .u32 t153.1), (15, .int .u32 t153.2), (87, .int .i64 x87_3), (100, .pointer (some ⟨g4, (2 : Int).toNat, none⟩)), (101, .int .u32 (rd x8_3 2)), (102, .int .u32 t153.1), (103, .int .u32 (bxor .u32 (rd x8_3 2) t153.1)), (104, .int .u32 t160), (105, .pointer (some ⟨g4, (3 : Int).toNat, none⟩)), (106, .int .u32 (rd x8_3 3)), (107, .int .u32 t168), (108, .int .u32 t153.2), (109, .int .u32 (bxor .u32 t168 t153.2)), (110, .pointer (some ⟨g4, (0 : Int).toNat, none⟩)), (111, .int .u32 (rd x8_3 0)), (112, .pointer (some ⟨g4, (1 : Int).toNat, none⟩))] W180 := by
                        intro W180 hS hM hcq159
                        refine RunAny.does 13 (by kernel_rfl) ((ld_y (d := some 113) (p := ⟨g4, (1 : Int).toNat, none⟩) (k2 := [.inRegion (opsOf (pl Go.Proofs.Try.f22 [1, 1, 1, 1, 0, 1, 1, 1, 0, 1, 0, 0, 1, 1, 0, 0, 1, 1])) []]) (.int .u32 (rd x8_3 1)) (by kernel_rfl)).does hcq159) hS ?_
                        refine RunAny.y 14 (by kernel_rfl) (yl_pure (d := some 114) (v := .agg (nums .u32 ([t160, bxor .u32 t168 t153.2, rd x8_3 0, rd x8_3 1] : List Int)).toArray) (k2 := [.inRegion (opsOf (pl Go.Proofs.Try.f22 [1, 1, 1, 1, 0, 1, 1, 1, 0, 1, 0, 0, 1, 1, 0, 0, 1, 1])) []]) fun w => by kernel_rfl) (fun _ _ => trivial) hS ?_
                        exact RunAny.same [0, 2, 5, 8, 10, 12, 6, 11, 13, 1, 3, 4, 7, 9, 14] (by kernel_rfl) [0, 8, 14, 15, 87, 100, 101, 102, 103, 104, 105, 106, 107, 108, 109, 110, 111, 112, 113, 114] (by kernel_rfl) (J174 _ hS (hM.pick [0] rfl rfl))
                      have J181 : ∀ (W182 : World) (hS : Still W182 [.pointer (some ⟨g4, 0, none⟩)] W182) (hM : Mem w W182 [⟨.pointer (some ⟨g4, 0, none⟩), 44, 0, nums .u32 x8_3⟩]) , RunAny Go.Proofs.Try.prog (Ret fun v w' => ∃ A0' n0' c0', v = .tuple #[.slice A0' n0' c0', .int .i64 r.2] ∧ Mem w w' [⟨.slice A0' n0' c0', 5, 1, nums .u8 r.1⟩]) 22 (rest1 (pl Go.Proofs.Try.f22 [1, 1, 1, 1, 0, 1, 1, 1, 0, 1, 0, 0, 1, 1, 0, 0, 1, 1])) 138 (opsOf (pl Go.Proofs.Try.f22 [1, 1, 1, 1, 0, 1, 1, 1, 0, 1, 0, 0, 1, 1, 0, 0, 1, 1])) (Still W182 [.pointer (some ⟨g4, 0, none⟩)]) 4 [0, 2, 5, 8, 10, 12, 6, 11, 13, 1, 3, 4] [(0, .pointer (some ⟨gp0, 0, none⟩)), (8, .pointer (some ⟨g4, 0, none⟩)), (14, .int .u32 t153.1), (15, .int .u32 t153.2), (87, .int .i64 x87_3), (100, .pointer (some ⟨g4, (2 : Int).toNat, none⟩)), (101, .int .u32 (rd x8_3 2)), (102, .int .u32 t153.1), (103, .int .u32 (bxor .u32 (rd x8_3 2) t153.1)), (104, .int .u32 t160), (105, .pointer (some ⟨g4, (3 : Int).toNat, none⟩)), (106, .int .u32 (rd x8_3 3)), (108, .int .u32 t153.2), (110, .pointer (some ⟨g4, (0 : Int).toNat, none⟩)), (111, .int .u32 (rd x8_3 0)), (112, .pointer (some ⟨g4, (1 : Int).toNat, none⟩)), (113, .int .u32 (rd x8_3 1))] W182 := by
                        intro W182 hS hM 
                        refine RunAny.call 7 (d := some 107) (g := 27) (args := #[.int .u32 (rd x8_3 3), .int .i64 1]) (by kernel_rfl) (by kernel_rfl) (words_Rol32.calls k (rd x8_3 3) 1 t168 _ ht168) (by rintro _ _ ⟨rfl, hM_⟩; exact hS.below hM_.below) ?_
                        rintro _ W183 ⟨rfl, hM_⟩
                        replace hS := hS.below hM_.below
                        replace hM := hM.call hM_
                        clear hM_ ht168
                        refine RunAny.rebase hS ?_
                        replace hS := Still.refl W183 [.pointer (some ⟨g4, 0, none⟩)]
                        refine RunAny.y 9 (by kernel_rfl) (yl_pure (d := some 109) (v := .int .u32 (bxor .u32 t168 t153.2)) (k2 := [.inRegion (opsOf (pl Go.Proofs.Try.f22 [1, 1, 1, 1, 0, 1, 1, 1, 0, 1, 0, 0, 1, 1, 0, 0, 1, 1])) []]) fun w => by kernel_rfl) (fun _ _ => trivial) hS ?_
                        refine RunAny.y 14 (by kernel_rfl) (yl_pure (d := some 114) (v := .agg (nums .u32 ([t160, bxor .u32 t168 t153.2, rd x8_3 0, rd x8_3 1] : List Int)).toArray) (k2 := [.inRegion (opsOf (pl Go.Proofs.Try.f22 [1, 1, 1, 1, 0, 1, 1, 1, 0, 1, 0, 0, 1, 1, 0, 0, 1, 1])) []]) fun w => by kernel_rfl) (fun _ _ => trivial) hS ?_
                        exact RunAny.same [0, 2, 5, 8, 10, 12, 6, 11, 13, 1, 3, 4, 7, 9, 14] (by kernel_rfl) [0, 8, 14, 15, 87, 100, 101, 102, 103, 104, 105, 106, 107, 108, 109, 110, 111, 112, 113, 114] (by kernel_rfl) (J174 _ hS (hM.pick [0] rfl rfl))
                      have J184 : ∀ (W185 : World) (hS : Still W185 [.pointer (some ⟨g4, 0, none⟩)] W185) (hM : Mem w W185 [⟨.pointer (some ⟨g4, 0, none⟩), 44, 0, nums .u32 x8_3⟩]) (hcq158 : W185.cell? ⟨g4, (0 : Int).toNat, none⟩ = some (.int .u32 (rd x8_3 0))) (hcq159 : W185.cell? ⟨g4, (1 : Int).toNat, none⟩ = some (.int .u32 (rd x8_3 1))), RunAny Go.Proofs.Try.prog (Ret fun v w' => ∃ A0' n0' c0', v = .tuple #[.slice A0' n0' c0', .int .i64 r.2] ∧ Mem w w' [⟨.slice A0' n0' c0', 5, 1, nums .u8 r.1⟩]) 22 (rest1 (pl Go.Proofs.Try.f22 [1, 1, 1, 1, 0, 1, 1, 1, 0, 1, 0, 0, 1, 1, 0, 0, 1, 1])) 138 (opsOf (pl Go.Proofs.Try.f22 [1, 1, 1, 1, 0, 1, 1, 1, 0, 1, 0, 0, 1, 1, 0, 0, 1, 1])) (Still W185 [.pointer (some ⟨g4, 0, none⟩)]) 4 [0, 2, 5, 8, 10, 12, 6, 1, 3, 4, 7, 9] [(0, .pointer (some ⟨gp0, 0, none⟩)), (8, .pointer (some ⟨g4, 0, none⟩)), (14, .int .u32 t153.1), (15, .int .u32 t153.2), (87, .int .i64 x87_3), (100, .pointer (some ⟨g4, (2 : Int).toNat, none⟩)), (101, .int .u32 (rd x8_3 2)), (102, .int .u32 t153.1), (103, .int .u32 (bxor .u32 (rd x8_3 2) t153.1)), (104, .int .u32 t160), (105, .pointer (some ⟨g4, (3 : Int).toNat, none⟩)), (106, .int .u32 (rd x8_3 3)), (107, .int .u32 t168), (108, .int .u32 t153.2), (109, .int .u32 (bxor .u32 t168 t153.2)), (110, .pointer (some ⟨g4, (0 : Int).toNat, none⟩)), (112, .pointer (some ⟨g4, (1 : Int).toNat, none⟩))] W185 := by
                        intro W185 hS hM hcq158 hcq159
                        refine RunAny.all [11, 13] (by kernel_rfl) (by simp) ?_
                        refine ⟨?_, ?_, trivial⟩
                        · refine Stepped.does 11 ((ld_y (d := some 111) (p := ⟨g4, (0 : Int).toNat, none⟩) (k2 := [.inRegion (opsOf (pl Go.Proofs.Try.f22 [1, 1, 1, 1, 0, 1, 1, 1, 0, 1, 0, 0, 1, 1, 0, 0, 1, 1])) []]) (.int .u32 (rd x8_3 0)) (by kernel_rfl)).does hcq158) hS ?_
                          exact RunAny.same [0, 2, 5, 8, 10, 12, 6, 11, 1, 3, 4, 7, 9] (by kernel_rfl) [0, 8, 14, 15, 87, 100, 101, 102, 103, 104, 105, 106, 107, 108, 109, 110, 111, 112] (by kernel_rfl) (J179 _ hS (hM.pick [0] rfl rfl) hcq159)
                        · refine Stepped.does 13 ((ld_y (d := some 113) (p := ⟨g4, (1 : Int).toNat, none⟩) (k2 := [.inRegion (opsOf (pl Go.Proofs.Try.f22 [1, 1, 1, 1, 0, 1, 1, 1, 0, 1, 0, 0, 1, 1, 0, 0, 1, 1])) []]) (.int .u32 (rd x8_3 1)) (by kernel_rfl)).does hcq159) hS ?_
                          exact RunAny.same [0, 2, 5, 8, 10, 12, 6, 13, 1, 3, 4, 7, 9] (by kernel_rfl) [0, 8, 14, 15, 87, 100, 101, 102, 103, 104, 105, 106, 107, 108, 109, 110, 112, 113] (by kernel_rfl) (J177 _ hS (hM.pick [0] rfl rfl) hcq158)
                      have J186 : ∀ (W187 : World) (hS : Still W187 [.pointer (some ⟨g4, 0, none⟩)] W187) (hM : Mem w W187 [⟨.pointer (some ⟨g4, 0, none⟩), 44, 0, nums .u32 x8_3⟩]) (hcq157 : W187.cell? ⟨g4, (3 : Int).toNat, none⟩ = some (.int .u32 (rd x8_3 3))), RunAny Go.Proofs.Try.prog (Ret fun v w' => ∃ A0' n0' c0', v = .tuple #[.slice A0' n0' c0', .int .i64 r.2] ∧ Mem w w' [⟨.slice A0' n0' c0', 5, 1, nums .u8 r.1⟩]) 22 (rest1 (pl Go.Proofs.Try.f22 [1, 1, 1, 1, 0, 1, 1, 1, 0, 1, 0, 0, 1, 1, 0, 0, 1, 1])) 138 (opsOf (pl Go.Proofs.Try.f22 [1, 1, 1, 1, 0, 1, 1, 1, 0, 1, 0, 0, 1, 1, 0, 0, 1, 1])) (Still W187 [.pointer (some ⟨g4, 0, none⟩)]) 5 [0, 2, 5, 8, 10, 12, 11, 13, 1, 3, 4] [(0, .pointer (some ⟨gp0, 0, none⟩)), (8, .pointer (some ⟨g4, 0, none⟩)), (14, .int .u32 t153.1), (15, .int .u32 t153.2), (87, .int .i64 x87_3), (100, .pointer (some ⟨g4, (2 : Int).toNat, none⟩)), (101, .int .u32 (rd x8_3 2)), (102, .int .u32 t153.1), (103, .int .u32 (bxor .u32 (rd x8_3 2) t153.1)), (104, .int .u32 t160), (105, .pointer (some ⟨g4, (3 : Int).toNat, none⟩)), (108, .int .u32 t153.2), (110, .pointer (some ⟨g4, (0 : Int).toNat, none⟩)), (111, .int .u32 (rd x8_3 0)), (112, .pointer (some ⟨g4, (1 : Int).toNat, none⟩)), (113, .int .u32 (rd x8_3 1))] W187 := by
                        intro W187 hS hM hcq157
                        refine RunAny.does 6 (by kernel_rfl) ((ld_y (d := some 106) (p := ⟨g4, (3 : Int).toNat, none⟩) (k2 := [.inRegion (opsOf (pl Go.Proofs.Try.f22 [1, 1, 1, 1, 0, 1, 1, 1, 0, 1, 0, 0, 1, 1, 0, 0, 1, 1])) []]) (.int .u32 (rd x8_3 3)) (by kernel_rfl)).does hcq157) hS ?_
                        exact RunAny.same [0, 2, 5, 8, 10, 12, 6, 11, 13, 1, 3, 4] (by kernel_rfl) [0, 8, 14, 15, 87, 100, 101, 102, 103, 104, 105, 106, 108, 110, 111, 112, 113] (by kernel_rfl) (J181 _ hS (hM.pick [0] rfl rfl))
                      have J188 : ∀ (W189 : World) (hS : Still W189 [.pointer (some ⟨g4, 0, none⟩)] W189) (hM : Mem w W189 [⟨.pointer (some ⟨g4, 0, none⟩), 44, 0, nums .u32 x8_3⟩]) (hcq158 : W189.cell? ⟨g4, (0 : Int).toNat, none⟩ = some (.int .u32 (rd x8_3 0))), RunAny Go.Proofs.Try.prog (Ret fun v w' => ∃ A0' n0' c0', v = .tuple #[.slice A0' n0' c0', .int .i64 r.2] ∧ Mem w w' [⟨.slice A0' n0' c0', 5, 1, nums .u8 r.1⟩]) 22 (rest1 (pl Go.Proofs.Try.f22 [1, 1, 1, 1, 0, 1, 1, 1, 0, 1, 0, 0, 1, 1, 0, 0, 1, 1])) 138 (opsOf (pl Go.Proofs.Try.f22 [1, 1, 1, 1, 0, 1, 1, 1, 0, 1, 0, 0, 1, 1, 0, 0, 1, 1])) (Still W189 [.pointer (some ⟨g4, 0, none⟩)]) 5 [0, 2, 5, 8, 10, 12, 6, 13, 1, 3, 4] [(0, .pointer (some ⟨gp0, 0, none⟩)), (8, .pointer (some ⟨g4, 0, none⟩)), (14, .int .u32 t153.1), (15, .int .u32 t153.2), (87, .int .i64 x87_3), (100, .pointer (some ⟨g4, (2 : Int).toNat, none⟩)), (101, .int .u32 (rd x8_3 2)), (102, .int .u32 t153.1), (103, .int .u32 (bxor .u32 (rd x8_3 2) t153.1)), (104, .int .u32 t160), (105, .pointer (some ⟨g4, (3 : Int).toNat, none⟩)), (106, .int .u32 (rd x8_3 3)), (108, .int .u32 t153.2), (110, .pointer (some ⟨g4, (0 : Int).toNat, none⟩)), (112, .pointer (some ⟨g4, (1 : Int).toNat, none⟩)), (113, .int .u32 (rd x8_3 1))] W189 := by
                        intro W189 hS hM hcq158
                        refine RunAny.all [7, 11] (by kernel_rfl) (by simp) ?_
                        refine ⟨?_, ?_, trivial⟩
                        · refine Stepped.call 7 (d := some 107) (g := 27) (args := #[.int .u32 (rd x8_3 3), .int .i64 1]) (by kernel_rfl) (words_Rol32.calls k (rd x8_3 3) 1 t168 _ ht168) (by rintro _ _ ⟨rfl, hM_⟩; exact hS.below hM_.below) ?_
                          rintro _ W190 ⟨rfl, hM_⟩
                          replace hS := hS.below hM_.below
                          replace hM := hM.call hM_
                          clear hM_ ht168
                          replace hcq158 := (hM.arr_num 0 rfl (i := 0) (by omega) (N := 4) hlx8_3 (by decide)).1
                          refine RunAny.rebase hS ?_
                          replace hS := Still.refl W190 [.pointer (some ⟨g4, 0, none⟩)]
                          refine RunAny.y 9 (by kernel_rfl) (yl_pure (d := some 109) (v := .int .u32 (bxor .u32 t168 t153.2)) (k2 := [.inRegion (opsOf (pl Go.Proofs.Try.f22 [1, 1, 1, 1, 0, 1, 1, 1, 0, 1, 0, 0, 1, 1, 0, 0, 1, 1])) []]) fun w => by kernel_rfl) (fun _ _ => trivial) hS ?_
                          exact RunAny.same [0, 2, 5, 8, 10, 12, 6, 13, 1, 3, 4, 7, 9] (by kernel_rfl) [0, 8, 14, 15, 87, 100, 101, 102, 103, 104, 105, 106, 107, 108, 109, 110, 112, 113] (by kernel_rfl) (J177 _ hS (hM.pick [0] rfl rfl) hcq158)
                        · refine Stepped.does 11 ((ld_y (d := some 111) (p := ⟨g4, (0 : Int).toNat, none⟩) (k2 := [.inRegion (opsOf (pl Go.Proofs.Try.f22 [1, 1, 1, 1, 0, 1, 1, 1, 0, 1, 0, 0, 1, 1, 0, 0, 1, 1])) []]) (.int .u32 (rd x8_3 0)) (by kernel_rfl)).does hcq158) hS ?_
                          exact RunAny.same [0, 2, 5, 8, 10, 12, 6, 11, 13, 1, 3, 4] (by kernel_rfl) [0, 8, 14, 15, 87, 100, 101, 102, 103, 104, 105, 106, 108, 110, 111, 112, 113] (by kernel_rfl) (J181 _ hS (hM.pick [0] rfl rfl))
                      have J191 : ∀ (W192 : World) (hS : Still W192 [.pointer (some ⟨g4, 0, none⟩)] W192) (hM : Mem w W192 [⟨.pointer (some ⟨g4, 0, none⟩), 44, 0, nums .u32 x8_3⟩]) (hcq159 : W192.cell? ⟨g4, (1 : Int).toNat, none⟩ = some (.int .u32 (rd x8_3 1))), RunAny Go.Proofs.Try.prog (Ret fun v w' => ∃ A0' n0' c0', v = .tuple #[.slice A0' n0' c0', .int .i64 r.2] ∧ Mem w w' [⟨.slice A0' n0' c0', 5, 1, nums .u8 r.1⟩]) 22 (rest1 (pl Go.Proofs.Try.f22 [1, 1, 1, 1, 0, 1, 1, 1, 0, 1, 0, 0, 1, 1, 0, 0, 1, 1])) 138 (opsOf (pl Go.Proofs.Try.f22 [1, 1, 1, 1, 0, 1, 1, 1, 0, 1, 0, 0, 1, 1, 0, 0, 1, 1])) (Still W192 [.pointer (some ⟨g4, 0, none⟩)]) 5 [0, 2, 5, 8, 10, 12, 6, 11, 1, 3, 4] [(0, .pointer (some ⟨gp0, 0, none⟩)), (8, .pointer (some ⟨g4, 0, none⟩)), (14, .int .u32 t153.1), (15, .int .u32 t153.2), (87, .int .i64 x87_3), (100, .pointer (some ⟨g4, (2 : Int).toNat, none⟩)), (101, .int .u32 (rd x8_3 2)), (102, .int .u32 t153.1), (103, .int .u32 (bxor .u32 (rd x8_3 2) t153.1)), (104, .int .u32 t160), (105, .pointer (some ⟨g4, (3 : Int).toNat, none⟩)), (106, .int .u32 (rd x8_3 3)), (108, .int .u32 t153.2), (110, .pointer (some ⟨g4, (0 : Int).toNat, none⟩)), (111, .int .u32 (rd x8_3 0)), (112, .pointer (some ⟨g4, (1 : Int).toNat, none⟩))] W192 := by
                        intro W192 hS hM hcq159
                        refine RunAny.all [7, 13] (by kernel_rfl) (by simp) ?_
                        refine ⟨?_, ?_, trivial⟩
                        · refine Stepped.call 7 (d := some 107) (g := 27) (args := #[.int .u32 (rd x8_3 3), .int .i64 1]) (by kernel_rfl) (words_Rol32.calls k (rd x8_3 3) 1 t168 _ ht168) (by rintro _ _ ⟨rfl, hM_⟩; exact hS.below hM_.below) ?_
                          rintro _ W193 ⟨rfl, hM_⟩
                          replace hS := hS.below hM_.below
                          replace hM := hM.call hM_
                          clear hM_ ht168
                          replace hcq159 := (hM.arr_num 0 rfl (i := 1) (by omega) (N := 4) hlx8_3 (by decide)).1
                          refine RunAny.rebase hS ?_
                          replace hS := Still.refl W193 [.pointer (some ⟨g4, 0, none⟩)]
                          refine RunAny.y 9 (by kernel_rfl) (yl_pure (d := some 109) (v := .int .u32 (bxor .u32 t168 t153.2)) (k2 := [.inRegion (opsOf (pl Go.Proofs.Try.f22 [1, 1, 1, 1, 0, 1, 1, 1, 0, 1, 0, 0, 1, 1, 0, 0, 1, 1])) []]) fun w => by kernel_rfl) (fun _ _ => trivial) hS ?_
                          exact RunAny.same [0, 2, 5, 8, 10, 12, 6, 11, 1, 3, 4, 7, 9] (by kernel_rfl) [0, 8, 14, 15, 87, 100, 101, 102, 103, 104, 105, 106, 107, 108, 109, 110, 111, 112] (by kernel_rfl) (J179 _ hS (hM.pick [0] rfl rfl) hcq159)
                        · refine Stepped.does 13 ((ld_y (d := some 113) (p := ⟨g4, (1 : Int).toNat, none⟩) (k2 := [.inRegion (opsOf (pl Go.Proofs.Try.f22 [1, 1, 1, 1, 0, 1, 1, 1, 0, 1, 0, 0, 1, 1, 0, 0, 1, 1])) []]) (.int .u32 (rd x8_3 1)) (by kernel_rfl)).does hcq159) hS ?_
                          exact RunAny.same [0, 2, 5, 8, 10, 12, 6, 11, 13, 1, 3, 4] (by kernel_rfl) [0, 8, 14, 15, 87, 100, 101, 102, 103, 104, 105, 106, 108, 110, 111, 112, 113] (by kernel_rfl) (J181 _ hS (hM.pick [0] rfl rfl))
                      have J194 : ∀ (W195 : World) (hS : Still W195 [.pointer (some ⟨g4, 0, none⟩)] W195) (hM : Mem w W195 [⟨.pointer (some ⟨g4, 0, none⟩), 44, 0, nums .u32 x8_3⟩]) , RunAny Go.Proofs.Try.prog (Ret fun v w' => ∃ A0' n0' c0', v = .tuple #[.slice A0' n0' c0', .int .i64 r.2] ∧ Mem w w' [⟨.slice A0' n0' c0', 5, 1, nums .u8 r.1⟩]) 22 (rest1 (pl Go.Proofs.Try.f22 [1, 1, 1, 1, 0, 1, 1, 1, 0, 1, 0, 0, 1, 1, 0, 0, 1, 1])) 138 (opsOf (pl Go.Proofs.Try.f22 [1, 1, 1, 1, 0, 1, 1, 1, 0, 1, 0, 0, 1, 1, 0, 0, 1, 1])) (Still W195 [.pointer (some ⟨g4, 0, none⟩)]) 5 [0, 2, 5, 8, 10, 12, 6, 11, 13, 1, 3] [(0, .pointer (some ⟨gp0, 0, none⟩)), (8, .pointer (some ⟨g4, 0, none⟩)), (14, .int .u32 t153.1), (15, .int .u32 t153.2), (87, .int .i64 x87_3), (100, .pointer (some ⟨g4, (2 : Int).toNat, none⟩)), (101, .int .u32 (rd x8_3 2)), (102, .int .u32 t153.1), (103, .int .u32 (bxor .u32 (rd x8_3 2) t153.1)), (105, .pointer (some ⟨g4, (3 : Int).toNat, none⟩)), (106, .int .u32 (rd x8_3 3)), (108, .int .u32 t153.2), (110, .pointer (some ⟨g4, (0 : Int).toNat, none⟩)), (111, .int .u32 (rd x8_3 0)), (112, .pointer (some ⟨g4, (1 : Int).toNat, none⟩)), (113, .int .u32 (rd x8_3 1))] W195 := by
                        intro W195 hS hM 
                        refine RunAny.call 4 (d := some 104) (g := 27) (args := #[.int .u32 (bxor .u32 (rd x8_3 2) t153.1), .int .i64 (-1)]) (by kernel_rfl) (by kernel_rfl) (words_Rol32.calls k (bxor .u32 (rd x8_3 2) t153.1) (-1) t160 _ ht160) (by rintro _ _ ⟨rfl, hM_⟩; exact hS.below hM_.below) ?_
                        rintro _ W196 ⟨rfl, hM_⟩
                        replace hS := hS.below hM_.below
                        replace hM := hM.call hM_
                        clear hM_ ht160
                        refine RunAny.rebase hS ?_
                        replace hS := Still.refl W196 [.pointer (some ⟨g4, 0, none⟩)]
                        exact RunAny.same [0, 2, 5, 8, 10, 12, 6, 11, 13, 1, 3, 4] (by kernel_rfl) [0, 8, 14, 15, 87, 100, 101, 102, 103, 104, 105, 106, 108, 110, 111, 112, 113] (by kernel_rfl) (J181 _ hS (hM.pick [0] rfl rfl))
                      have J197 : ∀ (W198 : World) (hS : Still W198 [.pointer (some ⟨g4, 0, none⟩)] W198) (hM : Mem w W198 [⟨.pointer (some ⟨g4, 0, none⟩), 44, 0, nums .u32 x8_3⟩]) (hcq157 : W198.cell? ⟨g4, (3 : Int).toNat, none⟩ = some (.int .u32 (rd x8_3 3))) (hcq158 : W198.cell? ⟨g4, (0 : Int).toNat, none⟩ = some (.int .u32 (rd x8_3 0))), RunAny Go.Proofs.Try.prog (Ret fun v w' => ∃ A0' n0' c0', v = .tuple #[.slice A0' n0' c0', .int .i64 r.2] ∧ Mem w w' [⟨.slice A0' n0' c0', 5, 1, nums .u8 r.1⟩]) 22 (rest1 (pl Go.Proofs.Try.f22 [1, 1, 1, 1, 0, 1, 1, 1, 0, 1, 0, 0, 1, 1, 0, 0, 1, 1])) 138 (opsOf (pl Go.Proofs.Try.f22 [1, 1, 1, 1, 0, 1, 1, 1, 0, 1, 0, 0, 1, 1, 0, 0, 1, 1])) (Still W198 [.pointer (some ⟨g4, 0, none⟩)]) 6 [0, 2, 5, 8, 10, 12, 13, 1, 3, 4] [(0, .pointer (some ⟨gp0, 0, none⟩)), (8, .pointer (some ⟨g4, 0, none⟩)), (14, .int .u32 t153.1), (15, .int .u32 t153.2), (87, .int .i64 x87_3), (100, .pointer (some ⟨g4, (2 : Int).toNat, none⟩)), (101, .int .u32 (rd x8_3 2)), (102, .int .u32 t153.1), (103, .int .u32 (bxor .u32 (rd x8_3 2) t153.1)), (104, .int .u32 t160), (105, .pointer (some ⟨g4, (3 : Int).toNat, none⟩)), (108, .int .u32 t153.2), (110, .pointer (some ⟨g4, (0 : Int).toNat, none⟩)), (112, .pointer (some ⟨g4, (1 : Int).toNat, none⟩)), (113, .int .u32 (rd x8_3 1))] W198 := by
                        intro W198 hS hM hcq157 hcq158
                        refine RunAny.all [6, 11] (by kernel_rfl) (by simp) ?_
                        refine ⟨?_, ?_, trivial⟩
                        · refine Stepped.does 6 ((ld_y (d := some 106) (p := ⟨g4, (3 : Int).toNat, none⟩) (k2 := [.inRegion (opsOf (pl Go.Proofs.Try.f22 [1, 1, 1, 1, 0, 1, 1, 1, 0, 1, 0, 0, 1, 1, 0, 0, 1, 1])) []]) (.int .u32 (rd x8_3 3)) (by kernel_rfl)).does hcq157) hS ?_
                          exact RunAny.same [0, 2, 5, 8, 10, 12, 6, 13, 1, 3, 4] (by kernel_rfl) [0, 8, 14, 15, 87, 100, 101, 102, 103, 104, 105, 106, 108, 110, 112, 113] (by kernel_rfl) (J188 _ hS (hM.pick [0] rfl rfl) hcq158)
                        · refine Stepped.does 11 ((ld_y (d := some 111) (p := ⟨g4, (0 : Int).toNat, none⟩) (k2 := [.inRegion (opsOf (pl Go.Proofs.Try.f22 [1, 1, 1, 1, 0, 1, 1, 1, 0, 1, 0, 0, 1, 1, 0, 0, 1, 1])) []]) (.int .u32 (rd x8_3 0)) (by kernel_rfl)).does hcq158) hS ?_
                          exact RunAny.same [0, 2, 5, 8, 10, 12, 11, 13, 1, 3, 4] (by kernel_rfl) [0, 8, 14, 15, 87, 100, 101, 102, 103, 104, 105, 108, 110, 111, 112, 113] (by kernel_rfl) (J186 _ hS (hM.pick [0] rfl rfl) hcq157)
                      have J199 : ∀ (W200 : World) (hS : Still W200 [.pointer (some ⟨g4, 0, none⟩)] W200) (hM : Mem w W200 [⟨.pointer (some ⟨g4, 0, none⟩), 44, 0, nums .u32 x8_3⟩]) (hcq157 : W200.cell? ⟨g4, (3 : Int).toNat, none⟩ = some (.int .u32 (rd x8_3 3))) (hcq159 : W200.cell? ⟨g4, (1 : Int).toNat, none⟩ = some (.int .u32 (rd x8_3 1))), RunAny Go.Proofs.Try.prog (Ret fun v w' => ∃ A0' n0' c0', v = .tuple #[.slice A0' n0' c0', .int .i64 r.2] ∧ Mem w w' [⟨.slice A0' n0' c0', 5, 1, nums .u8 r.1⟩]) 22 (rest1 (pl Go.Proofs.Try.f22 [1, 1, 1, 1, 0, 1, 1, 1, 0, 1, 0, 0, 1, 1, 0, 0, 1, 1])) 138 (opsOf (pl Go.Proofs.Try.f22 [1, 1, 1, 1, 0, 1, 1, 1, 0, 1, 0, 0, 1, 1, 0, 0, 1, 1])) (Still W200 [.pointer (some ⟨g4, 0, none⟩)]) 6 [0, 2, 5, 8, 10, 12, 11, 1, 3, 4] [(0, .pointer (some ⟨gp0, 0, none⟩)), (8, .pointer (some ⟨g4, 0, none⟩)), (14, .int .u32 t153.1), (15, .int .u32 t153.2), (87, .int .i64 x87_3), (100, .pointer (some ⟨g4, (2 : Int).toNat, none⟩)), (101, .int .u32 (rd x8_3 2)), (102, .int .u32 t153.1), (103, .int .u32 (bxor .u32 (rd x8_3 2) t153.1)), (104, .int .u32 t160), (105, .pointer (some ⟨g4, (3 : Int).toNat, none⟩)), (108, .int .u32 t153.2), (110, .pointer (some ⟨g4, (0 : Int).toNat, none⟩)), (111, .int .u32 (rd x8_3 0)), (112, .pointer (some ⟨g4, (1 : Int).toNat, none⟩))] W200 := by
                        intro W200 hS hM hcq157 hcq159
                        refine RunAny.all [6, 13] (by kernel_rfl) (by simp) ?_
                        refine ⟨?_, ?_, trivial⟩
                        · refine Stepped.does 6 ((ld_y (d := some 106) (p := ⟨g4, (3 : Int).toNat, none⟩) (k2 := [.inRegion (opsOf (pl Go.Proofs.Try.f22 [1, 1, 1, 1, 0, 1, 1, 1, 0, 1, 0, 0, 1, 1, 0, 0, 1, 1])) []]) (.int .u32 (rd x8_3 3)) (by kernel_rfl)).does hcq157) hS ?_
                          exact RunAny.same [0, 2, 5, 8, 10, 12, 6, 11, 1, 3, 4] (by kernel_rfl) [0, 8, 14, 15, 87, 100, 101, 102, 103, 104, 105, 106, 108, 110, 111, 112] (by kernel_rfl) (J191 _ hS (hM.pick [0] rfl rfl) hcq159)
                        · refine Stepped.does 13 ((ld_y (d := some 113) (p := ⟨g4, (1 : Int).toNat, none⟩) (k2 := [.inRegion (opsOf (pl Go.Proofs.Try.f22 [1, 1, 1, 1, 0, 1, 1, 1, 0, 1, 0, 0, 1, 1, 0, 0, 1, 1])) []]) (.int .u32 (rd x8_3 1)) (by kernel_rfl)).does hcq159) hS ?_
                          exact RunAny.same [0, 2, 5, 8, 10, 12, 11, 13, 1, 3, 4] (by kernel_rfl) [0, 8, 14, 15, 87, 100, 101, 102, 103, 104, 105, 108, 110, 111, 112, 113] (by kernel_rfl) (J186 _ hS (hM.pick [0] rfl rfl) hcq157)
                      have J201 : ∀ (W202 : World) (hS : Still W202 [.pointer (some ⟨g4, 0, none⟩)] W202) (hM : Mem w W202 [⟨.pointer (some ⟨g4, 0, none⟩), 44, 0, nums .u32 x8_3⟩]) (hcq158 : W202.cell? ⟨g4, (0 : Int).toNat, none⟩ = some (.int .u32 (rd x8_3 0))) (hcq159 : W202.cell? ⟨g4, (1 : Int).toNat, none⟩ = some (.int .u32 (rd x8_3 1))), RunAny Go.Proofs.Try.prog (Ret fun v w' => ∃ A0' n0' c0', v = .tuple #[.slice A0' n0' c0', .int .i64 r.2] ∧ Mem w w' [⟨.slice A0' n0' c0', 5, 1, nums .u8 r.1⟩]) 22 (rest1 (pl Go.Proofs.Try.f22 [1, 1, 1, 1, 0, 1, 1, 1, 0, 1, 0, 0, 1, 1, 0, 0, 1, 1])) 138 (opsOf (pl Go.Proofs.Try.f22 [1, 1, 1, 1, 0, 1, 1, 1, 0, 1, 0, 0, 1, 1, 0, 0, 1, 1])) (Still W202 [.pointer (some ⟨g4, 0, none⟩)]) 6 [0, 2, 5, 8, 10, 12, 6, 1, 3, 4] [(0, .pointer (some ⟨gp0, 0, none⟩)), (8, .pointer (some ⟨g4, 0, none⟩)), (14, .int .u32 t153.1), (15, .int .u32 t153.2), (87, .int .i64 x87_3), (100, .pointer (some ⟨g4, (2 : Int).toNat, none⟩)), (101, .int .u32 (rd x8_3 2)), (102, .int .u32 t153.1), (103, .int .u32 (bxor .u32 (rd x8_3 2) t153.1)), (104, .int .u32 t160), (105, .pointer (some ⟨g4, (3 : Int).toNat, none⟩)), (106, .int .u32 (rd x8_3 3)), (108, .int .u32 t153.2), (110, .pointer (some ⟨g4, (0 : Int).toNat, none⟩)), (112, .pointer (some ⟨g4, (1 : Int).toNat, none⟩))] W202 := by
                        intro W202 hS hM hcq158 hcq159
                        refine RunAny.all [7, 11, 13] (by kernel_rfl) (by simp) ?_
                        refine ⟨?_, ?_, ?_, trivial⟩
                        · refine Stepped.call 7 (d := some 107) (g := 27) (args := #[.int .u32 (rd x8_3 3), .int .i64 1]) (by kernel_rfl) (words_Rol32.calls k (rd x8_3 3) 1 t168 _ ht168) (by rintro _ _ ⟨rfl, hM_⟩; exact hS.below hM_.below) ?_
                          rintro _ W203 ⟨rfl, hM_⟩
                          replace hS := hS.below hM_.below
                          replace hM := hM.call hM_
                          clear hM_ ht168
                          replace hcq158 := (hM.arr_num 0 rfl (i := 0) (by omega) (N := 4) hlx8_3 (by decide)).1
                          replace hcq159 := (hM.arr_num 0 rfl (i := 1) (by omega) (N := 4) hlx8_3 (by decide)).1
                          refine RunAny.rebase hS ?_
                          replace hS := Still.refl W203 [.pointer (some ⟨g4, 0, none⟩)]
                          refine RunAny.y 9 (by kernel_rfl) (yl_pure (d := some 109) (v := .int .u32 (bxor .u32 t168 t153.2)) (k2 := [.inRegion (opsOf (pl Go.Proofs.Try.f22 [1, 1, 1, 1, 0, 1, 1, 1, 0, 1, 0, 0, 1, 1, 0, 0, 1, 1])) []]) fun w => by kernel_rfl) (fun _ _ => trivial) hS ?_
                          exact RunAny.same [0, 2, 5, 8, 10, 12, 6, 1, 3, 4, 7, 9] (by kernel_rfl) [0, 8, 14, 15, 87, 100, 101, 102, 103, 104, 105, 106, 107, 108, 109, 110, 112] (by kernel_rfl) (J184 _ hS (hM.pick [0] rfl rfl) hcq158 hcq159)
                        · refine Stepped.does 11 ((ld_y (d := some 111) (p := ⟨g4, (0 : Int).toNat, none⟩) (k2 := [.inRegion (opsOf (pl Go.Proofs.Try.f22 [1, 1, 1, 1, 0, 1, 1, 1, 0, 1, 0, 0, 1, 1, 0, 0, 1, 1])) []]) (.int .u32 (rd x8_3 0)) (by kernel_rfl)).does hcq158) hS ?_
                          exact RunAny.same [0, 2, 5, 8, 10, 12, 6, 11, 1, 3, 4] (by kernel_rfl) [0, 8, 14, 15, 87, 100, 101, 102, 103, 104, 105, 106, 108, 110, 111, 112] (by kernel_rfl) (J191 _ hS (hM.pick [0] rfl rfl) hcq159)
                        · refine Stepped.does 13 ((ld_y (d := some 113) (p := ⟨g4, (1 : Int).toNat, none⟩) (k2 := [.inRegion (opsOf (pl Go.Proofs.Try.f22 [1, 1, 1, 1, 0, 1, 1, 1, 0, 1, 0, 0, 1, 1, 0, 0, 1, 1])) []]) (.int .u32 (rd x8_3 1)) (by kernel_rfl)).does hcq159) hS ?_
                          exact RunAny.same [0, 2, 5, 8, 10, 12, 6, 13, 1, 3, 4] (by kernel_rfl) [0, 8, 14, 15, 87, 100, 101, 102, 103, 104, 105, 106, 108, 110, 112, 113] (by kernel_rfl) (J188 _ hS (hM.pick [0] rfl rfl) hcq158)
                      have J204 : ∀ (W205 : World) (hS : Still W205 [.pointer (some ⟨g4, 0, none⟩)] W205) (hM : Mem w W205 [⟨.pointer (some ⟨g4, 0, none⟩), 44, 0, nums .u32 x8_3⟩]) (hcq157 : W205.cell? ⟨g4, (3 : Int).toNat, none⟩ = some (.int .u32 (rd x8_3 3))), RunAny Go.Proofs.Try.prog (Ret fun v w' => ∃ A0' n0' c0', v = .tuple #[.slice A0' n0' c0', .int .i64 r.2] ∧ Mem w w' [⟨.slice A0' n0' c0', 5, 1, nums .u8 r.1⟩]) 22 (rest1 (pl Go.Proofs.Try.f22 [1, 1, 1, 1, 0, 1, 1, 1, 0, 1, 0, 0, 1, 1, 0, 0, 1, 1])) 138 (opsOf (pl Go.Proofs.Try.f22 [1, 1, 1, 1, 0, 1, 1, 1, 0, 1, 0, 0, 1, 1, 0, 0, 1, 1])) (Still W205 [.pointer (some ⟨g4, 0, none⟩)]) 6 [0, 2, 5, 8, 10, 12, 11, 13, 1, 3] [(0, .pointer (some ⟨gp0, 0, none⟩)), (8, .pointer (some ⟨g4, 0, none⟩)), (14, .int .u32 t153.1), (15, .int .u32 t153.2), (87, .int .i64 x87_3), (100, .pointer (some ⟨g4, (2 : Int).toNat, none⟩)), (101, .int .u32 (rd x8_3 2)), (102, .int .u32 t153.1), (103, .int .u32 (bxor .u32 (rd x8_3 2) t153.1)), (105, .pointer (some ⟨g4, (3 : Int).toNat, none⟩)), (108, .int .u32 t153.2), (110, .pointer (some ⟨g4, (0 : Int).toNat, none⟩)), (111, .int .u32 (rd x8_3 0)), (112, .pointer (some ⟨g4, (1 : Int).toNat, none⟩)), (113, .int .u32 (rd x8_3 1))] W205 := by
                        intro W205 hS hM hcq157
                        refine RunAny.all [4, 6] (by kernel_rfl) (by simp) ?_
                        refine ⟨?_, ?_, trivial⟩
                        · refine Stepped.call 4 (d := some 104) (g := 27) (args := #[.int .u32 (bxor .u32 (rd x8_3 2) t153.1), .int .i64 (-1)]) (by kernel_rfl) (words_Rol32.calls k (bxor .u32 (rd x8_3 2) t153.1) (-1) t160 _ ht160) (by rintro _ _ ⟨rfl, hM_⟩; exact hS.below hM_.below) ?_
                          rintro _ W206 ⟨rfl, hM_⟩
                          replace hS := hS.below hM_.below
                          replace hM := hM.call hM_
                          clear hM_ ht160
                          replace hcq157 := (hM.arr_num 0 rfl (i := 3) (by omega) (N := 4) hlx8_3 (by decide)).1
                          refine RunAny.rebase hS ?_
                          replace hS := Still.refl W206 [.pointer (some ⟨g4, 0, none⟩)]
                          exact RunAny.same [0, 2, 5, 8, 10, 12, 11, 13, 1, 3, 4] (by kernel_rfl) [0, 8, 14, 15, 87, 100, 101, 102, 103, 104, 105, 108, 110, 111, 112, 113] (by kernel_rfl) (J186 _ hS (hM.pick [0] rfl rfl) hcq157)
                        · refine Stepped.does 6 ((ld_y (d := some 106) (p := ⟨g4, (3 : Int).toNat, none⟩) (k2 := [.inRegion (opsOf (pl Go.Proofs.Try.f22 [1, 1, 1, 1, 0, 1, 1, 1, 0, 1, 0, 0, 1, 1, 0, 0, 1, 1])) []]) (.int .u32 (rd x8_3 3)) (by kernel_rfl)).does hcq157) hS ?_
                          exact RunAny.same [0, 2, 5, 8, 10, 12, 6, 11, 13, 1, 3] (by kernel_rfl) [0, 8, 14, 15, 87, 100, 101, 102, 103, 105, 106, 108, 110, 111, 112, 113] (by kernel_rfl) (J194 _ hS (hM.pick [0] rfl rfl))
                      have J207 : ∀ (W208 : World) (hS : Still W208 [.pointer (some ⟨g4, 0, none⟩)] W208) (hM : Mem w W208 [⟨.pointer (some ⟨g4, 0, none⟩), 44, 0, nums .u32 x8_3⟩]) (hcq158 : W208.cell? ⟨g4, (0 : Int).toNat, none⟩ = some (.int .u32 (rd x8_3 0))), RunAny Go.Proofs.Try.prog (Ret fun v w' => ∃ A0' n0' c0', v = .tuple #[.slice A0' n0' c0', .int .i64 r.2] ∧ Mem w w' [⟨.slice A0' n0' c0', 5, 1, nums .u8 r.1⟩]) 22 (rest1 (pl Go.Proofs.Try.f22 [1, 1, 1, 1, 0, 1, 1, 1, 0, 1, 0, 0, 1, 1, 0, 0, 1, 1])) 138 (opsOf (pl Go.Proofs.Try.f22 [1, 1, 1, 1, 0, 1, 1, 1, 0, 1, 0, 0, 1, 1, 0, 0, 1, 1])) (Still W208 [.pointer (some ⟨g4, 0, none⟩)]) 6 [0, 2, 5, 8, 10, 12, 6, 13, 1, 3] [(0, .pointer (some ⟨gp0, 0, none⟩)), (8, .pointer (some ⟨g4, 0, none⟩)), (14, .int .u32 t153.1), (15, .int .u32 t153.2), (87, .int .i64 x87_3), (100, .pointer (some ⟨g4, (2 : Int).toNat, none⟩)), (101, .int .u32 (rd x8_3 2)), (102, .int .u32 t153.1), (103, .int .u32 (bxor .u32 (rd x8_3 2) t153.1)), (105, .pointer (some ⟨g4, (3 : Int).toNat, none⟩)), (106, .int .u32 (rd x8_3 3)), (108, .int .u32 t153.2), (110, .pointer (some ⟨g4, (0 : Int).toNat, none⟩)), (112, .pointer (some ⟨g4, (1 : Int).toNat, none⟩)), (113, .int .u32 (rd x8_3 1))] W208 := by
                        intro W208 hS hM hcq158
                        refine RunAny.all [4, 11] (by kernel_rfl) (by simp) ?_
                        refine ⟨?_, ?_, trivial⟩
                        · refine Stepped.call 4 (d := some 104) (g := 27) (args := #[.int .u32 (bxor .u32 (rd x8_3 2) t153.1), .int .i64 (-1)]) (by kernel_rfl) (words_Rol32.calls k (bxor .u32 (rd x8_3 2) t153.1) (-1) t160 _ ht160) (by rintro _ _ ⟨rfl, hM_⟩; exact hS.below hM_.below) ?_
                          rintro _ W209 ⟨rfl, hM_⟩
                          replace hS := hS.below hM_.below
                          replace hM := hM.call hM_
                          clear hM_ ht160
                          replace hcq158 := (hM.arr_num 0 rfl (i := 0) (by omega) (N := 4) hlx8_3 (by decide)).1
                          refine RunAny.rebase hS ?_
                          replace hS := Still.refl W209 [.pointer (some ⟨g4, 0, none⟩)]
                          exact RunAny.same [0, 2, 5, 8, 10, 12, 6, 13, 1, 3, 4] (by kernel_rfl) [0, 8, 14, 15, 87, 100, 101, 102, 103, 104, 105, 106, 108, 110, 112, 113] (by kernel_rfl) (J188 _ hS (hM.pick [0] rfl rfl) hcq158)
                        · refine Stepped.does 11 ((ld_y (d := some 111) (p := ⟨g4, (0 : Int).toNat, none⟩) (k2 := [.inRegion (opsOf (pl Go.Proofs.Try.f22 [1, 1, 1, 1, 0, 1, 1, 1, 0, 1, 0, 0, 1, 1, 0, 0, 1, 1])) []]) (.int .u32 (rd x8_3 0)) (by kernel_rfl)).does hcq158) hS ?_
                          exact RunAny.same [0, 2, 5, 8, 10, 12, 6, 11, 13, 1, 3] (by kernel_rfl) [0, 8, 14, 15, 87, 100, 101, 102, 103, 105, 106, 108, 110, 111, 112, 113] (by kernel_rfl) (J194 _ hS (hM.pick [0] rfl rfl))
                      have J210 : ∀ (W211 : World) (hS : Still W211 [.pointer (some ⟨g4, 0, none⟩)] W211) (hM : Mem w W211 [⟨.pointer (some ⟨g4, 0, none⟩), 44, 0, nums .u32 x8_3⟩]) (hcq159 : W211.cell? ⟨g4, (1 : Int).toNat, none⟩ = some (.int .u32 (rd x8_3 1))), RunAny Go.Proofs.Try.prog (Ret fun v w' => ∃ A0' n0' c0', v = .tuple #[.slice A0' n0' c0', .int .i64 r.2] ∧ Mem w w' [⟨.slice A0' n0' c0', 5, 1, nums .u8 r.1⟩]) 22 (rest1 (pl Go.Proofs.Try.f22 [1, 1, 1, 1, 0, 1, 1, 1, 0, 1, 0, 0, 1, 1, 0, 0, 1, 1])) 138 (opsOf (pl Go.Proofs.Try.f22 [1, 1, 1, 1, 0, 1, 1, 1, 0, 1, 0, 0, 1, 1, 0, 0, 1, 1])) (Still W211 [.pointer (some ⟨g4, 0, none⟩)]) 6 [0, 2, 5, 8, 10, 12, 6, 11, 1, 3] [(0, .pointer (some ⟨gp0, 0, none⟩)), (8, .pointer (some ⟨g4, 0, none⟩)), (14, .int .u32 t153.1), (15, .int .u32 t153.2), (87, .int .i64 x87_3), (100, .pointer (some ⟨g4, (2 : Int).toNat, none⟩)), (101, .int .u32 (rd x8_3 2)), (102, .int .u32 t153.1), (103, .int .u32 (bxor .u32 (rd x8_3 2) t153.1)), (105, .pointer (some ⟨g4, (3 : Int).toNat, none⟩)), (106, .int .u32 (rd x8_3 3)), (108, .int .u32 t153.2), (110, .pointer (some ⟨g4, (0 : Int).toNat, none⟩)), (111, .int .u32 (rd x8_3 0)), (112, .pointer (some ⟨g4, (1 : Int).toNat, none⟩))] W211 := by
                        intro W211 hS hM hcq159
                        refine RunAny.all [4, 13] (by kernel_rfl) (by simp) ?_
                        refine ⟨?_, ?_, trivial⟩
                        · refine Stepped.call 4 (d := some 104) (g := 27) (args := #[.int .u32 (bxor .u32 (rd x8_3 2) t153.1), .int .i64 (-1)]) (by kernel_rfl) (words_Rol32.calls k (bxor .u32 (rd x8_3 2) t153.1) (-1) t160 _ ht160) (by rintro _ _ ⟨rfl, hM_⟩; exact hS.below hM_.below) ?_
                          rintro _ W212 ⟨rfl, hM_⟩
                          replace hS := hS.below hM_.below
                          replace hM := hM.call hM_
                          clear hM_ ht160
                          replace hcq159 := (hM.arr_num 0 rfl (i := 1) (by omega) (N := 4) hlx8_3 (by decide)).1
                          refine RunAny.rebase hS ?_
                          replace hS := Still.refl W212 [.pointer (some ⟨g4, 0, none⟩)]
                          exact RunAny.same [0, 2, 5, 8, 10, 12, 6, 11, 1, 3, 4] (by kernel_rfl) [0, 8, 14, 15, 87, 100, 101, 102, 103, 104, 105, 106, 108, 110, 111, 112] (by kernel_rfl) (J191 _ hS (hM.pick [0] rfl rfl) hcq159)
                        · refine Stepped.does 13 ((ld_y (d := some 113) (p := ⟨g4, (1 : Int).toNat, none⟩) (k2 := [.inRegion (opsOf (pl Go.Proofs.Try.f22 [1, 1, 1, 1, 0, 1, 1, 1, 0, 1, 0, 0, 1, 1, 0, 0, 1, 1])) []]) (.int .u32 (rd x8_3 1)) (by kernel_rfl)).does hcq159) hS ?_
                          exact RunAny.same [0, 2, 5, 8, 10, 12, 6, 11, 13, 1, 3] (by kernel_rfl) [0, 8, 14, 15, 87, 100, 101, 102, 103, 105, 106, 108, 110, 111, 112, 113] (by kernel_rfl) (J194 _ hS (hM.pick [0] rfl rfl))
                      have J213 : ∀ (W214 : World) (hS : Still W214 [.pointer (some ⟨g4, 0, none⟩)] W214) (hM : Mem w W214 [⟨.pointer (some ⟨g4, 0, none⟩), 44, 0, nums .u32 x8_3⟩]) (hcq156 : W214.cell? ⟨g4, (2 : Int).toNat, none⟩ = some (.int .u32 (rd x8_3 2))), RunAny Go.Proofs.Try.prog (Ret fun v w' => ∃ A0' n0' c0', v = .tuple #[.slice A0' n0' c0', .int .i64 r.2] ∧ Mem w w' [⟨.slice A0' n0' c0', 5, 1, nums .u8 r.1⟩]) 22 (rest1 (pl Go.Proofs.Try.f22 [1, 1, 1, 1, 0, 1, 1, 1, 0, 1, 0, 0, 1, 1, 0, 0, 1, 1])) 138 (opsOf (pl Go.Proofs.Try.f22 [1, 1, 1, 1, 0, 1, 1, 1, 0, 1, 0, 0, 1, 1, 0, 0, 1, 1])) (Still W214 [.pointer (some ⟨g4, 0, none⟩)]) 7 [0, 2, 5, 8, 10, 12, 6, 11, 13] [(0, .pointer (some ⟨gp0, 0, none⟩)), (8, .pointer (some ⟨g4, 0, none⟩)), (14, .int .u32 t153.1), (15, .int .u32 t153.2), (87, .int .i64 x87_3), (100, .pointer (some ⟨g4, (2 : Int).toNat, none⟩)), (102, .int .u32 t153.1), (105, .pointer (some ⟨g4, (3 : Int).toNat, none⟩)), (106, .int .u32 (rd x8_3 3)), (108, .int .u32 t153.2), (110, .pointer (some ⟨g4, (0 : Int).toNat, none⟩)), (111, .int .u32 (rd x8_3 0)), (112, .pointer (some ⟨g4, (1 : Int).toNat, none⟩)), (113, .int .u32 (rd x8_3 1))] W214 := by
                        intro W214 hS hM hcq156
                        refine RunAny.does 1 (by kernel_rfl) ((ld_y (d := some 101) (p := ⟨g4, (2 : Int).toNat, none⟩) (k2 := [.inRegion (opsOf (pl Go.Proofs.Try.f22 [1, 1, 1, 1, 0, 1, 1, 1, 0, 1, 0, 0, 1, 1, 0, 0, 1, 1])) []]) (.int .u32 (rd x8_3 2)) (by kernel_rfl)).does hcq156) hS ?_
                        refine RunAny.y 3 (by kernel_rfl) (yl_pure (d := some 103) (v := .int .u32 (bxor .u32 (rd x8_3 2) t153.1)) (k2 := [.inRegion (opsOf (pl Go.Proofs.Try.f22 [1, 1, 1, 1, 0, 1, 1, 1, 0, 1, 0, 0, 1, 1, 0, 0, 1, 1])) []]) fun w => by kernel_rfl) (fun _ _ => trivial) hS ?_
                        exact RunAny.same [0, 2, 5, 8, 10, 12, 6, 11, 13, 1, 3] (by kernel_rfl) [0, 8, 14, 15, 87, 100, 101, 102, 103, 105, 106, 108, 110, 111, 112, 113] (by kernel_rfl) (J194 _ hS (hM.pick [0] rfl rfl))
                      have J215 : ∀ (W216 : World) (hS : Still W216 [.pointer (some ⟨g4, 0, none⟩)] W216) (hM : Mem w W216 [⟨.pointer (some ⟨g4, 0, none⟩), 44, 0, nums .u32 x8_3⟩]) (hcq157 : W216.cell? ⟨g4, (3 : Int).toNat, none⟩ = some (.int .u32 (rd x8_3 3))) (hcq158 : W216.cell? ⟨g4, (0 : Int).toNat, none⟩ = some (.int .u32 (rd x8_3 0))) (hcq159 : W216.cell? ⟨g4, (1 : Int).toNat, none⟩ = some (.int .u32 (rd x8_3 1))), RunAny Go.Proofs.Try.prog (Ret fun v w' => ∃ A0' n0' c0', v = .tuple #[.slice A0' n0' c0', .int .i64 r.2] ∧ Mem w w' [⟨.slice A0' n0' c0', 5, 1, nums .u8 r.1⟩]) 22 (rest1 (pl Go.Proofs.Try.f22 [1, 1, 1, 1, 0, 1, 1, 1, 0, 1, 0, 0, 1, 1, 0, 0, 1, 1])) 138 (opsOf (pl Go.Proofs.Try.f22 [1, 1, 1, 1, 0, 1, 1, 1, 0, 1, 0, 0, 1, 1, 0, 0, 1, 1])) (Still W216 [.pointer (some ⟨g4, 0, none⟩)]) 7 [0, 2, 5, 8, 10, 12, 1, 3, 4] [(0, .pointer (some ⟨gp0, 0, none⟩)), (8, .pointer (some ⟨g4, 0, none⟩)), (14, .int .u32 t153.1), (15, .int .u32 t153.2), (87, .int .i64 x87_3), (100, .pointer (some ⟨g4, (2 : Int).toNat, none⟩)), (101, .int .u32 (rd x8_3 2)), (102, .int .u32 t153.1), (103, .int .u32 (bxor .u32 (rd x8_3 2) t153.1)), (104, .int .u32 t160), (105, .pointer (some ⟨g4, (3 : Int).toNat, none⟩)), (108, .int .u32 t153.2), (110, .pointer (some ⟨g4, (0 : Int).toNat, none⟩)), (112, .pointer (some ⟨g4, (1 : Int).toNat, none⟩))] W216 := by
                        intro W216 hS hM hcq157 hcq158 hcq159
                        refine RunAny.all [6, 11, 13] (by kernel_rfl) (by simp) ?_
                        refine ⟨?_, ?_, ?_, trivial⟩
                        · refine Stepped.does 6 ((ld_y (d := some 106) (p := ⟨g4, (3 : Int).toNat, none⟩) (k2 := [.inRegion (opsOf (pl Go.Proofs.Try.f22 [1, 1, 1, 1, 0, 1, 1, 1, 0, 1, 0, 0, 1, 1, 0, 0, 1, 1])) []]) (.int .u32 (rd x8_3 3)) (by kernel_rfl)).does hcq157) hS ?_
                          exact RunAny.same [0, 2, 5, 8, 10, 12, 6, 1, 3, 4] (by kernel_rfl) [0, 8, 14, 15, 87, 100, 101, 102, 103, 104, 105, 106, 108, 110, 112] (by kernel_rfl) (J201 _ hS (hM.pick [0] rfl rfl) hcq158 hcq159)
                        · refine Stepped.does 11 ((ld_y (d := some 111) (p := ⟨g4, (0 : Int).toNat, none⟩) (k2 := [.inRegion (opsOf (pl Go.Proofs.Try.f22 [1, 1, 1, 1, 0, 1, 1, 1, 0, 1, 0, 0, 1, 1, 0, 0, 1, 1])) []]) (.int .u32 (rd x8_3 0)) (by kernel_rfl)).does hcq158) hS ?_
                          exact RunAny.same [0, 2, 5, 8, 10, 12, 11, 1, 3, 4] (by kernel_rfl) [0, 8, 14, 15, 87, 100, 101, 102, 103, 104, 105, 108, 110, 111, 112] (by kernel_rfl) (J199 _ hS (hM.pick [0] rfl rfl) hcq157 hcq159)
                        · refine Stepped.does 13 ((ld_y (d := some 113) (p := ⟨g4, (1 : Int).toNat, none⟩) (k2 := [.inRegion (opsOf (pl Go.Proofs.Try.f22 [1, 1, 1, 1, 0, 1, 1, 1, 0, 1, 0, 0, 1, 1, 0, 0, 1, 1])) []]) (.int .u32 (rd x8_3 1)) (by kernel_rfl)).does hcq159) hS ?_
                          exact RunAny.same [0, 2, 5, 8, 10, 12, 13, 1, 3, 4] (by kernel_rfl) [0, 8, 14, 15, 87, 100, 101, 102, 103, 104, 105, 108, 110, 112, 113] (by kernel_rfl) (J197 _ hS (hM.pick [0] rfl rfl) hcq157 hcq158)
                      have J217 : ∀ (W218 : World) (hS : Still W218 [.pointer (some ⟨g4, 0, none⟩)] W218) (hM : Mem w W218 [⟨.pointer (some ⟨g4, 0, none⟩), 44, 0, nums .u32 x8_3⟩]) (hcq157 : W218.cell? ⟨g4, (3 : Int).toNat, none⟩ = some (.int .u32 (rd x8_3 3))) (hcq158 : W218.cell? ⟨g4, (0 : Int).toNat, none⟩ = some (.int .u32 (rd x8_3 0))), RunAny Go.Proofs.Try.prog (Ret fun v w' => ∃ A0' n0' c0', v = .tuple #[.slice A0' n0' c0', .int .i64 r.2] ∧ Mem w w' [⟨.slice A0' n0' c0', 5, 1, nums .u8 r.1⟩]) 22 (rest1 (pl Go.Proofs.Try.f22 [1, 1, 1, 1, 0, 1, 1, 1, 0, 1, 0, 0, 1, 1, 0, 0, 1, 1])) 138 (opsOf (pl Go.Proofs.Try.f22 [1, 1, 1, 1, 0, 1, 1, 1, 0, 1, 0, 0, 1, 1, 0, 0, 1, 1])) (Still W218 [.pointer (some ⟨g4, 0, none⟩)]) 7 [0, 2, 5, 8, 10, 12, 13, 1, 3] [(0, .pointer (some ⟨gp0, 0, none⟩)), (8, .pointer (some ⟨g4, 0, none⟩)), (14, .int .u32 t153.1), (15, .int .u32 t153.2), (87, .int .i64 x87_3), (100, .pointer (some ⟨g4, (2 : Int).toNat, none⟩)), (101, .int .u32 (rd x8_3 2)), (102, .int .u32 t153.1), (103, .int .u32 (bxor .u32 (rd x8_3 2) t153.1)), (105, .pointer (some ⟨g4, (3 : Int).toNat, none⟩)), (108, .int .u32 t153.2), (110, .pointer (some ⟨g4, (0 : Int).toNat, none⟩)), (112, .pointer (some ⟨g4, (1 : Int).toNat, none⟩)), (113, .int .u32 (rd x8_3 1))] W218 := by
                        intro W218 hS hM hcq157 hcq158
                        refine RunAny.all [4, 6, 11] (by kernel_rfl) (by simp) ?_
                        refine ⟨?_, ?_, ?_, trivial⟩
                        · refine Stepped.call 4 (d := some 104) (g := 27) (args := #[.int .u32 (bxor .u32 (rd x8_3 2) t153.1), .int .i64 (-1)]) (by kernel_rfl) (words_Rol32.calls k (bxor .u32 (rd x8_3 2) t153.1) (-1) t160 _ ht160) (by rintro _ _ ⟨rfl, hM_⟩; exact hS.below hM_.below) ?_
                          rintro _ W219 ⟨rfl, hM_⟩
                          replace hS := hS.below hM_.below
                          replace hM := hM.call hM_
                          clear hM_ ht160
                          replace hcq157 := (hM.arr_num 0 rfl (i := 3) (by omega) (N := 4) hlx8_3 (by decide)).1
                          replace hcq158 := (hM.arr_num 0 rfl (i := 0) (by omega) (N := 4) hlx8_3 (by decide)).1
                          refine RunAny.rebase hS ?_
                          replace hS := Still.refl W219 [.pointer (some ⟨g4, 0, none⟩)]
                          exact RunAny.same [0, 2, 5, 8, 10, 12, 13, 1, 3, 4] (by kernel_rfl) [0, 8, 14, 15, 87, 100, 101, 102, 103, 104, 105, 108, 110, 112, 113] (by kernel_rfl) (J197 _ hS (hM.pick [0] rfl rfl) hcq157 hcq158)
                        · refine Stepped.does 6 ((ld_y (d := some 106) (p := ⟨g4, (3 : Int).toNat, none⟩) (k2 := [.inRegion (opsOf (pl Go.Proofs.Try.f22 [1, 1, 1, 1, 0, 1, 1, 1, 0, 1, 0, 0, 1, 1, 0, 0, 1, 1])) []]) (.int .u32 (rd x8_3 3)) (by kernel_rfl)).does hcq157) hS ?_
                          exact RunAny.same [0, 2, 5, 8, 10, 12, 6, 13, 1, 3] (by kernel_rfl) [0, 8, 14, 15, 87, 100, 101, 102, 103, 105, 106, 108, 110, 112, 113] (by kernel_rfl) (J207 _ hS (hM.pick [0] rfl rfl) hcq158)
                        · refine Stepped.does 11 ((ld_y (d := some 111) (p := ⟨g4, (0 : Int).toNat, none⟩) (k2 := [.inRegion (opsOf (pl Go.Proofs.Try.f22 [1, 1, 1, 1, 0, 1, 1, 1, 0, 1, 0, 0, 1, 1, 0, 0, 1, 1])) []]) (.int .u32 (rd x8_3 0)) (by kernel_rfl)).does hcq158) hS ?_
                          exact RunAny.same [0, 2, 5, 8, 10, 12, 11, 13, 1, 3] (by kernel_rfl) [0, 8, 14, 15, 87, 100, 101, 102, 103, 105, 108, 110, 111, 112, 113] (by kernel_rfl) (J204 _ hS (hM.pick [0] rfl rfl) hcq157)
                      have J220 : ∀ (W221 : World) (hS : Still W221 [.pointer (some ⟨g4, 0, none⟩)] W221) (hM : Mem w W221 [⟨.pointer (some ⟨g4, 0, none⟩), 44, 0, nums .u32 x8_3⟩]) (hcq157 : W221.cell? ⟨g4, (3 : Int).toNat, none⟩ = some (.int .u32 (rd x8_3 3))) (hcq159 : W221.cell? ⟨g4, (1 : Int).toNat, none⟩ = some (.int .u32 (rd x8_3 1))), RunAny Go.Proofs.Try.prog (Ret fun v w' => ∃ A0' n0' c0', v = .tuple #[.slice A0' n0' c0', .int .i64 r.2] ∧ Mem w w' [⟨.slice A0' n0' c0', 5, 1, nums .u8 r.1⟩]) 22 (rest1 (pl Go.Proofs.Try.f22 [1, 1, 1, 1, 0, 1, 1, 1, 0, 1, 0, 0, 1, 1, 0, 0, 1, 1])) 138 (opsOf (pl Go.Proofs.Try.f22 [1, 1, 1, 1, 0, 1, 1, 1, 0, 1, 0, 0, 1, 1, 0, 0, 1, 1])) (Still W221 [.pointer (some ⟨g4, 0, none⟩)]) 7 [0, 2, 5, 8, 10, 12, 11, 1, 3] [(0, .pointer (some ⟨gp0, 0, none⟩)), (8, .pointer (some ⟨g4, 0, none⟩)), (14, .int .u32 t153.1), (15, .int .u32 t153.2), (87, .int .i64 x87_3), (100, .pointer (some ⟨g4, (2 : Int).toNat, none⟩)), (101, .int .u32 (rd x8_3 2)), (102, .int .u32 t153.1), (103, .int .u32 (bxor .u32 (rd x8_3 2) t153.1)), (105, .pointer (some ⟨g4, (3 : Int).toNat, none⟩)), (108, .int .u32 t153.2), (110, .pointer (some ⟨g4, (0 : Int).toNat, none⟩)), (111, .int .u32 (rd x8_3 0)), (112, .pointer (some ⟨g4, (1 : Int).toNat, none⟩))] W221 := by
                        intro W221 hS hM hcq157 hcq159
                        refine RunAny.all [4, 6, 13] (by kernel_rfl) (by simp) ?_
                        refine ⟨?_, ?_, ?_, trivial⟩
                        · refine Stepped.call 4 (d := some 104) (g := 27) (args := #[.int .u32 (bxor .u32 (rd x8_3 2) t153.1), .int .i64 (-1)]) (by kernel_rfl) (words_Rol32.calls k (bxor .u32 (rd x8_3 2) t153.1) (-1) t160 _ ht160) (by rintro _ _ ⟨rfl, hM_⟩; exact hS.below hM_.below) ?_
                          rintro _ W222 ⟨rfl, hM_⟩
                          replace hS := hS.below hM_.below
                          replace hM := hM.call hM_
                          clear hM_ ht160
                          replace hcq157 := (hM.arr_num 0 rfl (i := 3) (by omega) (N := 4) hlx8_3 (by decide)).1
                          replace hcq159 := (hM.arr_num 0 rfl (i := 1) (by omega) (N := 4) hlx8_3 (by decide)).1
                          refine RunAny.rebase hS ?_
                          replace hS := Still.refl W222 [.pointer (some ⟨g4, 0, none⟩)]
                          exact RunAny.same [0, 2, 5, 8, 10, 12, 11, 1, 3, 4] (by kernel_rfl) [0, 8, 14, 15, 87, 100, 101, 102, 103, 104, 105, 108, 110, 111, 112] (by kernel_rfl) (J199 _ hS (hM.pick [0] rfl rfl) hcq157 hcq159)
                        · refine Stepped.does 6 ((ld_y (d := some 106) (p := ⟨g4, (3 : Int).toNat, none⟩) (k2 := [.inRegion (opsOf (pl Go.Proofs.Try.f22 [1, 1, 1, 1, 0, 1, 1, 1, 0, 1, 0, 0, 1, 1, 0, 0, 1, 1])) []]) (.int .u32 (rd x8_3 3)) (by kernel_rfl)).does hcq157) hS ?_
                          exact RunAny.same [0, 2, 5, 8, 10, 12, 6, 11, 1, 3] (by kernel_rfl) [0, 8, 14, 15, 87, 100, 101, 102, 103, 105, 106, 108, 110, 111, 112] (by kernel_rfl) (J210 _ hS (hM.pick [0] rfl rfl) hcq159)
                        · refine Stepped.does 13 ((ld_y (d := some 113) (p := ⟨g4, (1 : Int).toNat, none⟩) (k2 := [.inRegion (opsOf (pl Go.Proofs.Try.f22 [1, 1, 1, 1, 0, 1, 1, 1, 0, 1, 0, 0, 1, 1, 0, 0, 1, 1])) []]) (.int .u32 (rd x8_3 1)) (by kernel_rfl)).does hcq159) hS ?_
                          exact RunAny.same [0, 2, 5, 8, 10, 12, 11, 13, 1, 3] (by kernel_rfl) [0, 8, 14, 15, 87, 100, 101, 102, 103, 105, 108, 110, 111, 112, 113] (by kernel_rfl) (J204 _ hS (hM.pick [0] rfl rfl) hcq157)
                      have J223 : ∀ (W224 : World) (hS : Still W224 [.pointer (some ⟨g4, 0, none⟩)] W224) (hM : Mem w W224 [⟨.pointer (some ⟨g4, 0, none⟩), 44, 0, nums .u32 x8_3⟩]) (hcq158 : W224.cell? ⟨g4, (0 : Int).toNat, none⟩ = some (.int .u32 (rd x8_3 0))) (hcq159 : W224.cell? ⟨g4, (1 : Int).toNat, none⟩ = some (.int .u32 (rd x8_3 1))), RunAny Go.Proofs.Try.prog (Ret fun v w' => ∃ A0' n0' c0', v = .tuple #[.slice A0' n0' c0', .int .i64 r.2] ∧ Mem w w' [⟨.slice A0' n0' c0', 5, 1, nums .u8 r.1⟩]) 22 (rest1 (pl Go.Proofs.Try.f22 [1, 1, 1, 1, 0, 1, 1, 1, 0, 1, 0, 0, 1, 1, 0, 0, 1, 1])) 138 (opsOf (pl Go.Proofs.Try.f22 [1, 1, 1, 1, 0, 1, 1, 1, 0, 1, 0, 0, 1, 1, 0, 0, 1, 1])) (Still W224 [.pointer (some ⟨g4, 0, none⟩)]) 7 [0, 2, 5, 8, 10, 12, 6, 1, 3] [(0, .pointer (some ⟨gp0, 0, none⟩)), (8, .pointer (some ⟨g4, 0, none⟩)), (14, .int .u32 t153.1), (15, .int .u32 t153.2), (87, .int .i64 x87_3), (100, .pointer (some ⟨g4, (2 : Int).toNat, none⟩)), (101, .int .u32 (rd x8_3 2)), (102, .int .u32 t153.1), (103, .int .u32 (bxor .u32 (rd x8_3 2) t153.1)), (105, .pointer (some ⟨g4, (3 : Int).toNat, none⟩)), (106, .int .u32 (rd x8_3 3)), (108, .int .u32 t153.2), (110, .pointer (some ⟨g4, (0 : Int).toNat, none⟩)), (112, .pointer (some ⟨g4, (1 : Int).toNat, none⟩))] W224 := by
                        intro W224 hS hM hcq158 hcq159
                        refine RunAny.all [4, 11, 13] (by kernel_rfl) (by simp) ?_
                        refine ⟨?_, ?_, ?_, trivial⟩
                        · refine Stepped.call 4 (d := some 104) (g := 27) (args := #[.int .u32 (bxor .u32 (rd x8_3 2) t153.1), .int .i64 (-1)]) (by kernel_rfl) (words_Rol32.calls k (bxor .u32 (rd x8_3 2) t153.1) (-1) t160 _ ht160) (by rintro _ _ ⟨rfl, hM_⟩; exact hS.below hM_.below) ?_
                          rintro _ W225 ⟨rfl, hM_⟩
                          replace hS := hS.below hM_.below
                          replace hM := hM.call hM_
                          clear hM_ ht160
                          replace hcq158 := (hM.arr_num 0 rfl (i := 0) (by omega) (N := 4) hlx8_3 (by decide)).1
                          replace hcq159 := (hM.arr_num 0 rfl (i := 1) (by omega) (N := 4) hlx8_3 (by decide)).1
                          refine RunAny.rebase hS ?_
                          replace hS := Still.refl W225 [.pointer (some ⟨g4, 0, none⟩)]
                          exact RunAny.same [0, 2, 5, 8, 10, 12, 6, 1, 3, 4] (by kernel_rfl) [0, 8, 14, 15, 87, 100, 101, 102, 103, 104, 105, 106, 108, 110, 112] (by kernel_rfl) (J201 _ hS (hM.pick [0] rfl rfl) hcq158 hcq159)
                        · refine Stepped.does 11 ((ld_y (d := some 111) (p := ⟨g4, (0 : Int).toNat, none⟩) (k2 := [.inRegion (opsOf (pl Go.Proofs.Try.f22 [1, 1, 1, 1, 0, 1, 1, 1, 0, 1, 0, 0, 1, 1, 0, 0, 1, 1])) []]) (.int .u32 (rd x8_3 0)) (by kernel_rfl)).does hcq158) hS ?_
                          exact RunAny.same [0, 2, 5, 8, 10, 12, 6, 11, 1, 3] (by kernel_rfl) [0, 8, 14, 15, 87, 100, 101, 102, 103, 105, 106, 108, 110, 111, 112] (by kernel_rfl) (J210 _ hS (hM.pick [0] rfl rfl) hcq159)
                        · refine Stepped.does 13 ((ld_y (d := some 113) (p := ⟨g4, (1 : Int).toNat, none⟩) (k2 := [.inRegion (opsOf (pl Go.Proofs.Try.f22 [1, 1, 1, 1, 0, 1, 1, 1, 0, 1, 0, 0, 1, 1, 0, 0, 1, 1])) []]) (.int .u32 (rd x8_3 1)) (by kernel_rfl)).does hcq159) hS ?_
                          exact RunAny.same [0, 2, 5, 8, 10, 12, 6, 13, 1, 3] (by kernel_rfl) [0, 8, 14, 15, 87, 100, 101, 102, 103, 105, 106, 108, 110, 112, 113] (by kernel_rfl) (J207 _ hS (hM.pick [0] rfl rfl) hcq158)
                      have J226 : ∀ (W227 : World) (hS : Still W227 [.pointer (some ⟨g4, 0, none⟩)] W227) (hM : Mem w W227 [⟨.pointer (some ⟨g4, 0, none⟩), 44, 0, nums .u32 x8_3⟩]) (hcq156 : W227.cell? ⟨g4, (2 : Int).toNat, none⟩ = some (.int .u32 (rd x8_3 2))) (hcq157 : W227.cell? ⟨g4, (3 : Int).toNat, none⟩ = some (.int .u32 (rd x8_3 3))), RunAny Go.Proofs.Try.prog (Ret fun v w' => ∃ A0' n0' c0', v = .tuple #[.slice A0' n0' c0', .int .i64 r.2] ∧ Mem w w' [⟨.slice A0' n0' c0', 5, 1, nums .u8 r.1⟩]) 22 (rest1 (pl Go.Proofs.Try.f22 [1, 1, 1, 1, 0, 1, 1, 1, 0, 1, 0, 0, 1, 1, 0, 0, 1, 1])) 138 (opsOf (pl Go.Proofs.Try.f22 [1, 1, 1, 1, 0, 1, 1, 1, 0, 1, 0, 0, 1, 1, 0, 0, 1, 1])) (Still W227 [.pointer (some ⟨g4, 0, none⟩)]) 8 [0, 2, 5, 8, 10, 12, 11, 13] [(0, .pointer (some ⟨gp0, 0, none⟩)), (8, .pointer (some ⟨g4, 0, none⟩)), (14, .int .u32 t153.1), (15, .int .u32 t153.2), (87, .int .i64 x87_3), (100, .pointer (some ⟨g4, (2 : Int).toNat, none⟩)), (102, .int .u32 t153.1), (105, .pointer (some ⟨g4, (3 : Int).toNat, none⟩)), (108, .int .u32 t153.2), (110, .pointer (some ⟨g4, (0 : Int).toNat, none⟩)), (111, .int .u32 (rd x8_3 0)), (112, .pointer (some ⟨g4, (1 : Int).toNat, none⟩)), (113, .int .u32 (rd x8_3 1))] W227 := by
                        intro W227 hS hM hcq156 hcq157
                        refine RunAny.all [1, 6] (by kernel_rfl) (by simp) ?_
                        refine ⟨?_, ?_, trivial⟩
                        · refine Stepped.does 1 ((ld_y (d := some 101) (p := ⟨g4, (2 : Int).toNat, none⟩) (k2 := [.inRegion (opsOf (pl Go.Proofs.Try.f22 [1, 1, 1, 1, 0, 1, 1, 1, 0, 1, 0, 0, 1, 1, 0, 0, 1, 1])) []]) (.int .u32 (rd x8_3 2)) (by kernel_rfl)).does hcq156) hS ?_
                          refine RunAny.y 3 (by kernel_rfl) (yl_pure (d := some 103) (v := .int .u32 (bxor .u32 (rd x8_3 2) t153.1)) (k2 := [.inRegion (opsOf (pl Go.Proofs.Try.f22 [1, 1, 1, 1, 0, 1, 1, 1, 0, 1, 0, 0, 1, 1, 0, 0, 1, 1])) []]) fun w => by kernel_rfl) (fun _ _ => trivial) hS ?_
                          exact RunAny.same [0, 2, 5, 8, 10, 12, 11, 13, 1, 3] (by kernel_rfl) [0, 8, 14, 15, 87, 100, 101, 102, 103, 105, 108, 110, 111, 112, 113] (by kernel_rfl) (J204 _ hS (hM.pick [0] rfl rfl) hcq157)
                        · refine Stepped.does 6 ((ld_y (d := some 106) (p := ⟨g4, (3 : Int).toNat, none⟩) (k2 := [.inRegion (opsOf (pl Go.Proofs.Try.f22 [1, 1, 1, 1, 0, 1, 1, 1, 0, 1, 0, 0, 1, 1, 0, 0, 1, 1])) []]) (.int .u32 (rd x8_3 3)) (by kernel_rfl)).does hcq157) hS ?_
                          exact RunAny.same [0, 2, 5, 8, 10, 12, 6, 11, 13] (by kernel_rfl) [0, 8, 14, 15, 87, 100, 102, 105, 106, 108, 110, 111, 112, 113] (by kernel_rfl) (J213 _ hS (hM.pick [0] rfl rfl) hcq156)
                      have J228 : ∀ (W229 : World) (hS : Still W229 [.pointer (some ⟨g4, 0, none⟩)] W229) (hM : Mem w W229 [⟨.pointer (some ⟨g4, 0, none⟩), 44, 0, nums .u32 x8_3⟩]) (hcq156 : W229.cell? ⟨g4, (2 : Int).toNat, none⟩ = some (.int .u32 (rd x8_3 2))) (hcq158 : W229.cell? ⟨g4, (0 : Int).toNat, none⟩ = some (.int .u32 (rd x8_3 0))), RunAny Go.Proofs.Try.prog (Ret fun v w' => ∃ A0' n0' c0', v = .tuple #[.slice A0' n0' c0', .int .i64 r.2] ∧ Mem w w' [⟨.slice A0' n0' c0', 5, 1, nums .u8 r.1⟩]) 22 (rest1 (pl Go.Proofs.Try.f22 [1, 1, 1, 1, 0, 1, 1, 1, 0, 1, 0, 0, 1, 1, 0, 0, 1, 1])) 138 (opsOf (pl Go.Proofs.Try.f22 [1, 1, 1, 1, 0, 1, 1, 1, 0, 1, 0, 0, 1, 1, 0, 0, 1, 1])) (Still W229 [.pointer (some ⟨g4, 0, none⟩)]) 8 [0, 2, 5, 8, 10, 12, 6, 13] [(0, .pointer (some ⟨gp0, 0, none⟩)), (8, .pointer (some ⟨g4, 0, none⟩)), (14, .int .u32 t153.1), (15, .int .u32 t153.2), (87, .int .i64 x87_3), (100, .pointer (some ⟨g4, (2 : Int).toNat, none⟩)), (102, .int .u32 t153.1), (105, .pointer (some ⟨g4, (3 : Int).toNat, none⟩)), (106, .int .u32 (rd x8_3 3)), (108, .int .u32 t153.2), (110, .pointer (some ⟨g4, (0 : Int).toNat, none⟩)), (112, .pointer (some ⟨g4, (1 : Int).toNat, none⟩)), (113, .int .u32 (rd x8_3 1))] W229 := by
                        intro W229 hS hM hcq156 hcq158
                        refine RunAny.all [1, 11] (by kernel_rfl) (by simp) ?_
                        refine ⟨?_, ?_, trivial⟩
                        · refine Stepped.does 1 ((ld_y (d := some 101) (p := ⟨g4, (2 : Int).toNat, none⟩) (k2 := [.inRegion (opsOf (pl Go.Proofs.Try.f22 [1, 1, 1, 1, 0, 1, 1, 1, 0, 1, 0, 0, 1, 1, 0, 0, 1, 1])) []]) (.int .u32 (rd x8_3 2)) (by kernel_rfl)).does hcq156) hS ?_
                          refine RunAny.y 3 (by kernel_rfl) (yl_pure (d := some 103) (v := .int .u32 (bxor .u32 (rd x8_3 2) t153.1)) (k2 := [.inRegion (opsOf (pl Go.Proofs.Try.f22 [1, 1, 1, 1, 0, 1, 1, 1, 0, 1, 0, 0, 1, 1, 0, 0, 1, 1])) []]) fun w => by kernel_rfl) (fun _ _ => trivial) hS ?_
                          exact RunAny.same [0, 2, 5, 8, 10, 12, 6, 13, 1, 3] (by kernel_rfl) [0, 8, 14, 15, 87, 100, 101, 102, 103, 105, 106, 108, 110, 112, 113] (by kernel_rfl) (J207 _ hS (hM.pick [0] rfl rfl) hcq158)
                        · refine Stepped.does 11 ((ld_y (d := some 111) (p := ⟨g4, (0 : Int).toNat, none⟩) (k2 := [.inRegion (opsOf (pl Go.Proofs.Try.f22 [1, 1, 1, 1, 0, 1, 1, 1, 0, 1, 0, 0, 1, 1, 0, 0, 1, 1])) []]) (.int .u32 (rd x8_3 0)) (by kernel_rfl)).does hcq158) hS ?_
                          exact RunAny.same [0, 2, 5, 8, 10, 12, 6, 11, 13] (by kernel_rfl) [0, 8, 14, 15, 87, 100, 102, 105, 106, 108, 110, 111, 112, 113] (by kernel_rfl) (J213 _ hS (hM.pick [0] rfl rfl) hcq156)
                      have J230 : ∀ (W231 : World) (hS : Still W231 [.pointer (some ⟨g4, 0, none⟩)] W231) (hM : Mem w W231 [⟨.pointer (some ⟨g4, 0, none⟩), 44, 0, nums .u32 x8_3⟩]) (hcq156 : W231.cell? ⟨g4, (2 : Int).toNat, none⟩ = some (.int .u32 (rd x8_3 2))) (hcq159 : W231.cell? ⟨g4, (1 : Int).toNat, none⟩ = some (.int .u32 (rd x8_3 1))), RunAny Go.Proofs.Try.prog (Ret fun v w' => ∃ A0' n0' c0', v = .tuple #[.slice A0' n0' c0', .int .i64 r.2] ∧ Mem w w' [⟨.slice A0' n0' c0', 5, 1, nums .u8 r.1⟩]) 22 (rest1 (pl Go.Proofs.Try.f22 [1, 1, 1, 1, 0, 1, 1, 1, 0, 1, 0, 0, 1, 1, 0, 0, 1, 1])) 138 (opsOf (pl Go.Proofs.Try.f22 [1, 1, 1, 1, 0, 1, 1, 1, 0, 1, 0, 0, 1, 1, 0, 0, 1, 1])) (Still W231 [.pointer (some ⟨g4, 0, none⟩)]) 8 [0, 2, 5, 8, 10, 12, 6, 11] [(0, .pointer (some ⟨gp0, 0, none⟩)), (8, .pointer (some ⟨g4, 0, none⟩)), (14, .int .u32 t153.1), (15, .int .u32 t153.2), (87, .int .i64 x87_3), (100, .pointer (some ⟨g4, (2 : Int).toNat, none⟩)), (102, .int .u32 t153.1), (105, .pointer (some ⟨g4, (3 : Int).toNat, none⟩)), (106, .int .u32 (rd x8_3 3)), (108, .int .u32 t153.2), (110, .pointer (some ⟨g4, (0 : Int).toNat, none⟩)), (111, .int .u32 (rd x8_3 0)), (112, .pointer (some ⟨g4, (1 : Int).toNat, none⟩))] W231 := by
                        intro W231 hS hM hcq156 hcq159
                        refine RunAny.all [1, 13] (by kernel_rfl) (by simp) ?_
                        refine ⟨?_, ?_, trivial⟩
                        · refine Stepped.does 1 ((ld_y (d := some 101) (p := ⟨g4, (2 : Int).toNat, none⟩) (k2 := [.inRegion (opsOf (pl Go.Proofs.Try.f22 [1, 1, 1, 1, 0, 1, 1, 1, 0, 1, 0, 0, 1, 1, 0, 0, 1, 1])) []]) (.int .u32 (rd x8_3 2)) (by kernel_rfl)).does hcq156) hS ?_
                          refine RunAny.y 3 (by kernel_rfl) (yl_pure (d := some 103) (v := .int .u32 (bxor .u32 (rd x8_3 2) t153.1)) (k2 := [.inRegion (opsOf (pl Go.Proofs.Try.f22 [1, 1, 1, 1, 0, 1, 1, 1, 0, 1, 0, 0, 1, 1, 0, 0, 1, 1])) []]) fun w => by kernel_rfl) (fun _ _ => trivial) hS ?_
                          exact RunAny.same [0, 2, 5, 8, 10, 12, 6, 11, 1, 3] (by kernel_rfl) [0, 8, 14, 15, 87, 100, 101, 102, 103, 105, 106, 108, 110, 111, 112] (by kernel_rfl) (J210 _ hS (hM.pick [0] rfl rfl) hcq159)
                        · refine Stepped.does 13 ((ld_y (d := some 113) (p := ⟨g4, (1 : Int).toNat, none⟩) (k2 := [.inRegion (opsOf (pl Go.Proofs.Try.f22 [1, 1, 1, 1, 0, 1, 1, 1, 0, 1, 0, 0, 1, 1, 0, 0, 1, 1])) []]) (.int .u32 (rd x8_3 1)) (by kernel_rfl)).does hcq159) hS ?_
                          exact RunAny.same [0, 2, 5, 8, 10, 12, 6, 11, 13] (by kernel_rfl) [0, 8, 14, 15, 87, 100, 102, 105, 106, 108, 110, 111, 112, 113] (by kernel_rfl) (J213 _ hS (hM.pick [0] rfl rfl) hcq156)
                      have J232 : ∀ (W233 : World) (hS : Still W233 [.pointer (some ⟨g4, 0, none⟩)] W233) (hM : Mem w W233 [⟨.pointer (some ⟨g4, 0, none⟩), 44, 0, nums .u32 x8_3⟩]) (hcq157 : W233.cell? ⟨g4, (3 : Int).toNat, none⟩ = some (.int .u32 (rd x8_3 3))) (hcq158 : W233.cell? ⟨g4, (0 : Int).toNat, none⟩ = some (.int .u32 (rd x8_3 0))) (hcq159 : W233.cell? ⟨g4, (1 : Int).toNat, none⟩ = some (.int .u32 (rd x8_3 1))), RunAny Go.Proofs.Try.prog (Ret fun v w' => ∃ A0' n0' c0', v = .tuple #[.slice A0' n0' c0', .int .i64 r.2] ∧ Mem w w' [⟨.slice A0' n0' c0', 5, 1, nums .u8 r.1⟩]) 22 (rest1 (pl Go.Proofs.Try.f22 [1, 1, 1, 1, 0, 1, 1, 1, 0, 1, 0, 0, 1, 1, 0, 0, 1, 1])) 138 (opsOf (pl Go.Proofs.Try.f22 [1, 1, 1, 1, 0, 1, 1, 1, 0, 1, 0, 0, 1, 1, 0, 0, 1, 1])) (Still W233 [.pointer (some ⟨g4, 0, none⟩)]) 8 [0, 2, 5, 8, 10, 12, 1, 3] [(0, .pointer (some ⟨gp0, 0, none⟩)), (8, .pointer (some ⟨g4, 0, none⟩)), (14, .int .u32 t153.1), (15, .int .u32 t153.2), (87, .int .i64 x87_3), (100, .pointer (some ⟨g4, (2 : Int).toNat, none⟩)), (101, .int .u32 (rd x8_3 2)), (102, .int .u32 t153.1), (103, .int .u32 (bxor .u32 (rd x8_3 2) t153.1)), (105, .pointer (some ⟨g4, (3 : Int).toNat, none⟩)), (108, .int .u32 t153.2), (110, .pointer (some ⟨g4, (0 : Int).toNat, none⟩)), (112, .pointer (some ⟨g4, (1 : Int).toNat, none⟩))] W233 := by
                        intro W233 hS hM hcq157 hcq158 hcq159
                        refine RunAny.all [4, 6, 11, 13] (by kernel_rfl) (by simp) ?_
                        refine ⟨?_, ?_, ?_, ?_, trivial⟩
                        · refine Stepped.call 4 (d := some 104) (g := 27) (args := #[.int .u32 (bxor .u32 (rd x8_3 2) t153.1), .int .i64 (-1)]) (by kernel_rfl) (words_Rol32.calls k (bxor .u32 (rd x8_3 2) t153.1) (-1) t160 _ ht160) (by rintro _ _ ⟨rfl, hM_⟩; exact hS.below hM_.below) ?_
                          rintro _ W234 ⟨rfl, hM_⟩
                          replace hS := hS.below hM_.below
                          replace hM := hM.call hM_
                          clear hM_ ht160
                          replace hcq157 := (hM.arr_num 0 rfl (i := 3) (by omega) (N := 4) hlx8_3 (by decide)).1
                          replace hcq158 := (hM.arr_num 0 rfl (i := 0) (by omega) (N := 4) hlx8_3 (by decide)).1
                          replace hcq159 := (hM.arr_num 0 rfl (i := 1) (by omega) (N := 4) hlx8_3 (by decide)).1
                          refine RunAny.rebase hS ?_
                          replace hS := Still.refl W234 [.pointer (some ⟨g4, 0, none⟩)]
                          exact RunAny.same [0, 2, 5, 8, 10, 12, 1, 3, 4] (by kernel_rfl) [0, 8, 14, 15, 87, 100, 101, 102, 103, 104, 105, 108, 110, 112] (by kernel_rfl) (J215 _ hS (hM.pick [0] rfl rfl) hcq157 hcq158 hcq159)
                        · refine Stepped.does 6 ((ld_y (d := some 106) (p := ⟨g4, (3 : Int).toNat, none⟩) (k2 := [.inRegion (opsOf (pl Go.Proofs.Try.f22 [1, 1, 1, 1, 0, 1, 1, 1, 0, 1, 0, 0, 1, 1, 0, 0, 1, 1])) []]) (.int .u32 (rd x8_3 3)) (by kernel_rfl)).does hcq157) hS ?_
                          exact RunAny.same [0, 2, 5, 8, 10, 12, 6, 1, 3] (by kernel_rfl) [0, 8, 14, 15, 87, 100, 101, 102, 103, 105, 106, 108, 110, 112] (by kernel_rfl) (J223 _ hS (hM.pick [0] rfl rfl) hcq158 hcq159)
                        · refine Stepped.does 11 ((ld_y (d := some 111) (p := ⟨g4, (0 : Int).toNat, none⟩) (k2 := [.inRegion (opsOf (pl Go.Proofs.Try.f22 [1, 1, 1, 1, 0, 1, 1, 1, 0, 1, 0, 0, 1, 1, 0, 0, 1, 1])) []]) (.int .u32 (rd x8_3 0)) (by kernel_rfl)).does hcq158) hS ?_
                          exact RunAny.same [0, 2, 5, 8, 10, 12, 11, 1, 3] (by kernel_rfl) [0, 8, 14, 15, 87, 100, 101, 102, 103, 105, 108, 110, 111, 112] (by kernel_rfl) (J220 _ hS (hM.pick [0] rfl rfl) hcq157 hcq159)
                        · refine Stepped.does 13 ((ld_y (d := some 113) (p := ⟨g4, (1 : Int).toNat, none⟩) (k2 := [.inRegion (opsOf (pl Go.Proofs.Try.f22 [1, 1, 1, 1, 0, 1, 1, 1, 0, 1, 0, 0, 1, 1, 0, 0, 1, 1])) []]) (.int .u32 (rd x8_3 1)) (by kernel_rfl)).does hcq159) hS ?_
                          exact RunAny.same [0, 2, 5, 8, 10, 12, 13, 1, 3] (by kernel_rfl) [0, 8, 14, 15, 87, 100, 101, 102, 103, 105, 108, 110, 112, 113] (by kernel_rfl) (J217 _ hS (hM.pick [0] rfl rfl) hcq157 hcq158)
                      have J235 : ∀ (W236 : World) (hS : Still W236 [.pointer (some ⟨g4, 0, none⟩)] W236) (hM : Mem w W236 [⟨.pointer (some ⟨g4, 0, none⟩), 44, 0, nums .u32 x8_3⟩]) (hcq156 : W236.cell? ⟨g4, (2 : Int).toNat, none⟩ = some (.int .u32 (rd x8_3 2))) (hcq157 : W236.cell? ⟨g4, (3 : Int).toNat, none⟩ = some (.int .u32 (rd x8_3 3))) (hcq158 : W236.cell? ⟨g4, (0 : Int).toNat, none⟩ = some (.int .u32 (rd x8_3 0))), RunAny Go.Proofs.Try.prog (Ret fun v w' => ∃ A0' n0' c0', v = .tuple #[.slice A0' n0' c0', .int .i64 r.2] ∧ Mem w w' [⟨.slice A0' n0' c0', 5, 1, nums .u8 r.1⟩]) 22 (rest1 (pl Go.Proofs.Try.f22 [1, 1, 1, 1, 0, 1, 1, 1, 0, 1, 0, 0, 1, 1, 0, 0, 1, 1])) 138 (opsOf (pl Go.Proofs.Try.f22 [1, 1, 1, 1, 0, 1, 1, 1, 0, 1, 0, 0, 1, 1, 0, 0, 1, 1])) (Still W236 [.pointer (some ⟨g4, 0, none⟩)]) 9 [0, 2, 5, 8, 10, 12, 13] [(0, .pointer (some ⟨gp0, 0, none⟩)), (8, .pointer (some ⟨g4, 0, none⟩)), (14, .int .u32 t153.1), (15, .int .u32 t153.2), (87, .int .i64 x87_3), (100, .pointer (some ⟨g4, (2 : Int).toNat, none⟩)), (102, .int .u32 t153.1), (105, .pointer (some ⟨g4, (3 : Int).toNat, none⟩)), (108, .int .u32 t153.2), (110, .pointer (some ⟨g4, (0 : Int).toNat, none⟩)), (112, .pointer (some ⟨g4, (1 : Int).toNat, none⟩)), (113, .int .u32 (rd x8_3 1))] W236 := by
                        intro W236 hS hM hcq156 hcq157 hcq158
                        refine RunAny.all [1, 6, 11] (by kernel_rfl) (by simp) ?_
                        refine ⟨?_, ?_, ?_, trivial⟩
                        · refine Stepped.does 1 ((ld_y (d := some 101) (p := ⟨g4, (2 : Int).toNat, none⟩) (k2 := [.inRegion (opsOf (pl Go.Proofs.Try.f22 [1, 1, 1, 1, 0, 1, 1, 1, 0, 1, 0, 0, 1, 1, 0, 0, 1, 1])) []]) (.int .u32 (rd x8_3 2)) (by kernel_rfl)).does hcq156) hS ?_
                          refine RunAny.y 3 (by kernel_rfl) (yl_pure (d := some 103) (v := .int .u32 (bxor .u32 (rd x8_3 2) t153.1)) (k2 := [.inRegion (opsOf (pl Go.Proofs.Try.f22 [1, 1, 1, 1, 0, 1, 1, 1, 0, 1, 0, 0, 1, 1, 0, 0, 1, 1])) []]) fun w => by kernel_rfl) (fun _ _ => trivial) hS ?_
                          exact RunAny.same [0, 2, 5, 8, 10, 12, 13, 1, 3] (by kernel_rfl) [0, 8, 14, 15, 87, 100, 101, 102, 103, 105, 108, 110, 112, 113] (by kernel_rfl) (J217 _ hS (hM.pick [0] rfl rfl) hcq157 hcq158)
                        · refine Stepped.does 6 ((ld_y (d := some 106) (p := ⟨g4, (3 : Int).toNat, none⟩) (k2 := [.inRegion (opsOf (pl Go.Proofs.Try.f22 [1, 1, 1, 1, 0, 1, 1, 1, 0, 1, 0, 0, 1, 1, 0, 0, 1, 1])) []]) (.int .u32 (rd x8_3 3)) (by kernel_rfl)).does hcq157) hS ?_
                          exact RunAny.same [0, 2, 5, 8, 10, 12, 6, 13] (by kernel_rfl) [0, 8, 14, 15, 87, 100, 102, 105, 106, 108, 110, 112, 113] (by kernel_rfl) (J228 _ hS (hM.pick [0] rfl rfl) hcq156 hcq158)
                        · refine Stepped.does 11 ((ld_y (d := some 111) (p := ⟨g4, (0 : Int).toNat, none⟩) (k2 := [.inRegion (opsOf (pl Go.Proofs.Try.f22 [1, 1, 1, 1, 0, 1, 1, 1, 0, 1, 0, 0, 1, 1, 0, 0, 1, 1])) []]) (.int .u32 (rd x8_3 0)) (by kernel_rfl)).does hcq158) hS ?_
                          exact RunAny.same [0, 2, 5, 8, 10, 12, 11, 13] (by kernel_rfl) [0, 8, 14, 15, 87, 100, 102, 105, 108, 110, 111, 112, 113] (by kernel_rfl) (J226 _ hS (hM.pick [0] rfl rfl) hcq156 hcq157)
                      have J237 : ∀ (W238 : World) (hS : Still W238 [.pointer (some ⟨g4, 0, none⟩)] W238) (hM : Mem w W238 [⟨.pointer (some ⟨g4, 0, none⟩), 44, 0, nums .u32 x8_3⟩]) (hcq156 : W238.cell? ⟨g4, (2 : Int).toNat, none⟩ = some (.int .u32 (rd x8_3 2))) (hcq157 : W238.cell? ⟨g4, (3 : Int).toNat, none⟩ = some (.int .u32 (rd x8_3 3))) (hcq159 : W238.cell? ⟨g4, (1 : Int).toNat, none⟩ = some (.int .u32 (rd x8_3 1))), RunAny Go.Proofs.Try.prog (Ret fun v w' => ∃ A0' n0' c0', v = .tuple #[.slice A0' n0' c0', .int .i64 r.2] ∧ Mem w w' [⟨.slice A0' n0' c0', 5, 1, nums .u8 r.1⟩]) 22 (rest1 (pl Go.Proofs.Try.f22 [1, 1, 1, 1, 0, 1, 1, 1, 0, 1, 0, 0, 1, 1, 0, 0, 1, 1])) 138 (opsOf (pl Go.Proofs.Try.f22 [1, 1, 1, 1, 0, 1, 1, 1, 0, 1, 0, 0, 1, 1, 0, 0, 1, 1])) (Still W238 [.pointer (some ⟨g4, 0, none⟩)]) 9 [0, 2, 5, 8, 10, 12, 11] [(0, .pointer (some ⟨gp0, 0, none⟩)), (8, .pointer (some ⟨g4, 0, none⟩)), (14, .int .u32 t153.1), (15, .int .u32 t153.2), (87, .int .i64 x87_3), (100, .pointer (some ⟨g4, (2 : Int).toNat, none⟩)), (102, .int .u32 t153.1), (105, .pointer (some ⟨g4, (3 : Int).toNat, none⟩)), (108, .int .u32 t153.2), (110, .pointer (some ⟨g4, (0 : Int).toNat, none⟩)), (111, .int .u32 (rd x8_3 0)), (112, .pointer (some ⟨g4, (1 : Int).toNat, none⟩))] W238 := by
                        intro W238 hS hM hcq156 hcq157 hcq159
                        refine RunAny.all [1, 6, 13] (by kernel_rfl) (by simp) ?_
                        refine ⟨?_, ?_, ?_, trivial⟩
                        · refine Stepped.does 1 ((ld_y (d := some 101) (p := ⟨g4, (2 : Int).toNat, none⟩) (k2 := [.inRegion (opsOf (pl Go.Proofs.Try.f22 [1, 1, 1, 1, 0, 1, 1, 1, 0, 1, 0, 0, 1, 1, 0, 0, 1, 1])) []]) (.int .u32 (rd x8_3 2)) (by kernel_rfl)).does hcq156) hS ?_
                          refine RunAny.y 3 (by kernel_rfl) (yl_pure (d := some 103) (v := .int .u32 (bxor .u32 (rd x8_3 2) t153.1)) (k2 := [.inRegion (opsOf (pl Go.Proofs.Try.f22 [1, 1, 1, 1, 0, 1, 1, 1, 0, 1, 0, 0, 1, 1, 0, 0, 1, 1])) []]) fun w => by kernel_rfl) (fun _ _ => trivial) hS ?_
                          exact RunAny.same [0, 2, 5, 8, 10, 12, 11, 1, 3] (by kernel_rfl) [0, 8, 14, 15, 87, 100, 101, 102, 103, 105, 108, 110, 111, 112] (by kernel_rfl) (J220 _ hS (hM.pick [0] rfl rfl) hcq157 hcq159)
                        · refine Stepped.does 6 ((ld_y (d := some 106) (p := ⟨g4, (3 : Int).toNat, none⟩) (k2 := [.inRegion (opsOf (pl Go.Proofs.Try.f22 [1, 1, 1, 1, 0, 1, 1, 1, 0, 1, 0, 0, 1, 1, 0, 0, 1, 1])) []]) (.int .u32 (rd x8_3 3)) (by kernel_rfl)).does hcq157) hS ?_
                          exact RunAny.same [0, 2, 5, 8, 10, 12, 6, 11] (by kernel_rfl) [0, 8, 14, 15, 87, 100, 102, 105, 106, 108, 110, 111, 112] (by kernel_rfl) (J230 _ hS (hM.pick [0] rfl rfl) hcq156 hcq159)
                        · refine Stepped.does 13 ((ld_y (d := some 113) (p := ⟨g4, (1 : Int).toNat, none⟩) (k2 := [.inRegion (opsOf (pl Go.Proofs.Try.f22 [1, 1, 1, 1, 0, 1, 1, 1, 0, 1, 0, 0, 1, 1, 0, 0, 1, 1])) []]) (.int .u32 (rd x8_3 1)) (by kernel_rfl)).does hcq159) hS ?_
                          exact RunAny.same [0, 2, 5, 8, 10, 12, 11, 13] (by kernel_rfl) [0, 8, 14, 15, 87, 100, 102, 105, 108, 110, 111, 112, 113] (by kernel_rfl) (J226 _ hS (hM.pick [0] rfl rfl) hcq156 hcq157)
                      have J239 : ∀ (W240 : World) (hS : Still W240 [.pointer (some ⟨g4, 0, none⟩)] W240) (hM : Mem w W240 [⟨.pointer (some ⟨g4, 0, none⟩), 44, 0, nums .u32 x8_3⟩]) (hcq156 : W240.cell? ⟨g4, (2 : Int).toNat, none⟩ = some (.int .u32 (rd x8_3 2))) (hcq158 : W240.cell? ⟨g4, (0 : Int).toNat, none⟩ = some (.int .u32 (rd x8_3 0))) (hcq159 : W240.cell? ⟨g4, (1 : Int).toNat, none⟩ = some (.int .u32 (rd x8_3 1))), RunAny Go.Proofs.Try.prog (Ret fun v w' => ∃ A0' n0' c0', v = .tuple #[.slice A0' n0' c0', .int .i64 r.2] ∧ Mem w w' [⟨.slice A0' n0' c0', 5, 1, nums .u8 r.1⟩]) 22 (rest1 (pl Go.Proofs.Try.f22 [1, 1, 1, 1, 0, 1, 1, 1, 0, 1, 0, 0, 1, 1, 0, 0, 1, 1])) 138 (opsOf (pl Go.Proofs.Try.f22 [1, 1, 1, 1, 0, 1, 1, 1, 0, 1, 0, 0, 1, 1, 0, 0, 1, 1])) (Still W240 [.pointer (some ⟨g4, 0, none⟩)]) 9 [0, 2, 5, 8, 10, 12, 6] [(0, .pointer (some ⟨gp0, 0, none⟩)), (8, .pointer (some ⟨g4, 0, none⟩)), (14, .int .u32 t153.1), (15, .int .u32 t153.2), (87, .int .i64 x87_3), (100, .pointer (some ⟨g4, (2 : Int).toNat, none⟩)), (102, .int .u32 t153.1), (105, .pointer (some ⟨g4, (3 : Int).toNat, none⟩)), (106, .int .u32 (rd x8_3 3)), (108, .int .u32 t153.2), (110, .pointer (some ⟨g4, (0 : Int).toNat, none⟩)), (112, .pointer (some ⟨g4, (1 : Int).toNat, none⟩))] W240 := by
                        intro W240 hS hM hcq156 hcq158 hcq159
                        refine RunAny.all [1, 11, 13] (by kernel_rfl) (by simp) ?_
                        refine ⟨?_, ?_, ?_, trivial⟩
                        · refine Stepped.does 1 ((ld_y (d := some 101) (p := ⟨g4, (2 : Int).toNat, none⟩) (k2 := [.inRegion (opsOf (pl Go.Proofs.Try.f22 [1, 1, 1, 1, 0, 1, 1, 1, 0, 1, 0, 0, 1, 1, 0, 0, 1, 1])) []]) (.int .u32 (rd x8_3 2)) (by kernel_rfl)).does hcq156) hS ?_
                          refine RunAny.y 3 (by kernel_rfl) (yl_pure (d := some 103) (v := .int .u32 (bxor .u32 (rd x8_3 2) t153.1)) (k2 := [.inRegion (opsOf (pl Go.Proofs.Try.f22 [1, 1, 1, 1, 0, 1, 1, 1, 0, 1, 0, 0, 1, 1, 0, 0, 1, 1])) []]) fun w => by kernel_rfl) (fun _ _ => trivial) hS ?_
                          exact RunAny.same [0, 2, 5, 8, 10, 12, 6, 1, 3] (by kernel_rfl) [0, 8, 14, 15, 87, 100, 101, 102, 103, 105, 106, 108, 110, 112] (by kernel_rfl) (J223 _ hS (hM.pick [0] rfl rfl) hcq158 hcq159)
                        · refine Stepped.does 11 ((ld_y (d := some 111) (p := ⟨g4, (0 : Int).toNat, none⟩) (k2 := [.inRegion (opsOf (pl Go.Proofs.Try.f22 [1, 1, 1, 1, 0, 1, 1, 1, 0, 1, 0, 0, 1, 1, 0, 0, 1, 1])) []]) (.int .u32 (rd x8_3 0)) (by kernel_rfl)).does hcq158) hS ?_
                          exact RunAny.same [0, 2, 5, 8, 10, 12, 6, 11] (by kernel_rfl) [0, 8, 14, 15, 87, 100, 102, 105, 106, 108, 110, 111, 112] (by kernel_rfl) (J230 _ hS (hM.pick [0] rfl rfl) hcq156 hcq159)
                        · refine Stepped.does 13 ((ld_y (d := some 113) (p := ⟨g4, (1 : Int).toNat, none⟩) (k2 := [.inRegion (opsOf (pl Go.Proofs.Try.f22 [1, 1, 1, 1, 0, 1, 1, 1, 0, 1, 0, 0, 1, 1, 0, 0, 1, 1])) []]) (.int .u32 (rd x8_3 1)) (by kernel_rfl)).does hcq159) hS ?_
                          exact RunAny.same [0, 2, 5, 8, 10, 12, 6, 13] (by kernel_rfl) [0, 8, 14, 15, 87, 100, 102, 105, 106, 108, 110, 112, 113] (by kernel_rfl) (J228 _ hS (hM.pick [0] rfl rfl) hcq156 hcq158)
                      refine RunAny.all [1, 6, 11, 13] (by kernel_rfl) (by simp) ?_
                      refine ⟨?_, ?_, ?_, ?_, trivial⟩
                      · refine Stepped.does 1 ((ld_y (d := some 101) (p := ⟨g4, (2 : Int).toNat, none⟩) (k2 := [.inRegion (opsOf (pl Go.Proofs.Try.f22 [1, 1, 1, 1, 0, 1, 1, 1, 0, 1, 0, 0, 1, 1, 0, 0, 1, 1])) []]) (.int .u32 (rd x8_3 2)) (by kernel_rfl)).does hcq156) hS ?_
                        refine RunAny.y 3 (by kernel_rfl) (yl_pure (d := some 103) (v := .int .u32 (bxor .u32 (rd x8_3 2) t153.1)) (k2 := [.inRegion (opsOf (pl Go.Proofs.Try.f22 [1, 1, 1, 1, 0, 1, 1, 1, 0, 1, 0, 0, 1, 1, 0, 0, 1, 1])) []]) fun w => by kernel_rfl) (fun _ _ => trivial) hS ?_
                        exact RunAny.same [0, 2, 5, 8, 10, 12, 1, 3] (by kernel_rfl) [0, 8, 14, 15, 87, 100, 101, 102, 103, 105, 108, 110, 112] (by kernel_rfl) (J232 _ hS (hM.pick [0] rfl rfl) hcq157 hcq158 hcq159)
                      · refine Stepped.does 6 ((ld_y (d := some 106) (p := ⟨g4, (3 : Int).toNat, none⟩) (k2 := [.inRegion (opsOf (pl Go.Proofs.Try.f22 [1, 1, 1, 1, 0, 1, 1, 1, 0, 1, 0, 0, 1, 1, 0, 0, 1, 1])) []]) (.int .u32 (rd x8_3 3)) (by kernel_rfl)).does hcq157) hS ?_
                        exact RunAny.same [0, 2, 5, 8, 10, 12, 6] (by kernel_rfl) [0, 8, 14, 15, 87, 100, 102, 105, 106, 108, 110, 112] (by kernel_rfl) (J239 _ hS (hM.pick [0] rfl rfl) hcq156 hcq158 hcq159)
                      · refine Stepped.does 11 ((ld_y (d := some 111) (p := ⟨g4, (0 : Int).toNat, none⟩) (k2 := [.inRegion (opsOf (pl Go.Proofs.Try.f22 [1, 1, 1, 1, 0, 1, 1, 1, 0, 1, 0, 0, 1, 1, 0, 0, 1, 1])) []]) (.int .u32 (rd x8_3 0)) (by kernel_rfl)).does hcq158) hS ?_
                        exact RunAny.same [0, 2, 5, 8, 10, 12, 11] (by kernel_rfl) [0, 8, 14, 15, 87, 100, 102, 105, 108, 110, 111, 112] (by kernel_rfl) (J237 _ hS (hM.pick [0] rfl rfl) hcq156 hcq157 hcq159)
                      · refine Stepped.does 13 ((ld_y (d := some 113) (p := ⟨g4, (1 : Int).toNat, none⟩) (k2 := [.inRegion (opsOf (pl Go.Proofs.Try.f22 [1, 1, 1, 1, 0, 1, 1, 1, 0, 1, 0, 0, 1, 1, 0, 0, 1, 1])) []]) (.int .u32 (rd x8_3 1)) (by kernel_rfl)).does hcq159) hS ?_
                        exact RunAny.same [0, 2, 5, 8, 10, 12, 13] (by kernel_rfl) [0, 8, 14, 15, 87, 100, 102, 105, 108, 110, 112, 113] (by kernel_rfl) (J235 _ hS (hM.pick [0] rfl rfl) hcq156 hcq157 hcq158)
                    · replace h := of_false h c149
                      refine RunF.know 88 (b := false) (by kernel_rfl) c149 ?_
                      refine RunF.go 4 [8, 116] (k' := (pin Go.Proofs.Try.f22 [1, 1, 1, 1, 0, 1, 1, 1, 1] 1)) (L' := [(8, .pointer (some ⟨g4, 0, none⟩)), (116, .pointer (some ⟨gp0, 0, none⟩))]) (w' := W) (by kernel_rfl) ?_
                      obtain ⟨hcq241, hfq241, hlq241⟩ := hM.arr_num 0 rfl (i := 2) (by omega) (N := 4) hlx8_3 (by decide)
                      refine RunF.y (idxArr_own (d := some 117) (g := g4) (len := 4) (i := 2) (k2 := (pin Go.Proofs.Try.f22 [1, 1, 1, 1, 0, 1, 1, 1, 1] 2)) (by kernel_rfl) (by omega) (by decide)) trivial ?_
                      refine RunF.y (ld_y (d := some 118) (p := ⟨g4, (2 : Int).toNat, none⟩) (k2 := (pin Go.Proofs.Try.f22 [1, 1, 1, 1, 0, 1, 1, 1, 1] 3)) (.int .u32 (rd x8_3 2)) (by kernel_rfl)) hcq241 ?_
                      obtain ⟨hcq242, hfq242, hlq242⟩ := hM.arr_num 0 rfl (i := 3) (by omega) (N := 4) hlx8_3 (by decide)
                      refine RunF.y (idxArr_own (d := some 119) (g := g4) (len := 4) (i := 3) (k2 := (pin Go.Proofs.Try.f22 [1, 1, 1, 1, 0, 1, 1, 1, 1] 4)) (by kernel_rfl) (by omega) (by decide)) trivial ?_
                      refine RunF.y (ld_y (d := some 120) (p := ⟨g4, (3 : Int).toNat, none⟩) (k2 := (pin Go.Proofs.Try.f22 [1, 1, 1, 1, 0, 1, 1, 1, 1] 5)) (.int .u32 (rd x8_3 3)) (by kernel_rfl)) hcq242 ?_
                      obtain ⟨hcq243, hfq243, hlq243⟩ := hM.arr_num 0 rfl (i := 0) (by omega) (N := 4) hlx8_3 (by decide)
                      refine RunF.y (idxArr_own (d := some 121) (g := g4) (len := 4) (i := 0) (k2 := (pin Go.Proofs.Try.f22 [1, 1, 1, 1, 0, 1, 1, 1, 1] 6)) (by kernel_rfl) (by omega) (by decide)) trivial ?_
                      refine RunF.y (ld_y (d := some 122) (p := ⟨g4, (0 : Int).toNat, none⟩) (k2 := (pin Go.Proofs.Try.f22 [1, 1, 1, 1, 0, 1, 1, 1, 1] 7)) (.int .u32 (rd x8_3 0)) (by kernel_rfl)) hcq243 ?_
                      obtain ⟨hcq244, hfq244, hlq244⟩ := hM.arr_num 0 rfl (i := 1) (by omega) (N := 4) hlx8_3 (by decide)
                      refine RunF.y (idxArr_own (d := some 123) (g := g4) (len := 4) (i := 1) (k2 := (pin Go.Proofs.Try.f22 [1, 1, 1, 1, 0, 1, 1, 1, 1] 8)) (by kernel_rfl) (by omega) (by decide)) trivial ?_
                      refine RunF.y (ld_y (d := some 124) (p := ⟨g4, (1 : Int).toNat, none⟩) (k2 := (pin Go.Proofs.Try.f22 [1, 1, 1, 1, 0, 1, 1, 1, 1] 9)) (.int .u32 (rd x8_3 1)) (by kernel_rfl)) hcq244 ?_
                      refine RunF.go 1 [8, 116, 125] (k' := (pin Go.Proofs.Try.f22 [1, 1, 1, 1, 0, 1, 1, 1, 1] 10)) (L' := [(8, .pointer (some ⟨g4, 0, none⟩)), (116, .pointer (some ⟨gp0, 0, none⟩)), (125, .agg (nums .u32 ([rd x8_3 2, rd x8_3 3, rd x8_3 0, rd x8_3 1] : List Int)).toArray)]) (w' := W) (by kernel_rfl) ?_
                      obtain ⟨t246, ht246, h⟩ := Option.bind_eq_some_iff.mp h
                      refine RunF.call (d := some 126) (g := 43) (args := #[.pointer (some ⟨gp0, 0, none⟩), .agg (nums .u32 ([rd x8_3 2, rd x8_3 3, rd x8_3 0, rd x8_3 1] : List Int)).toArray, .int .i64 4]) (k2 := (pin Go.Proofs.Try.f22 [1, 1, 1, 1, 0, 1, 1, 1, 1] 11)) (by kernel_rfl) (twofish_Twofish_white.calls k (.pointer (some ⟨gp0, 0, none⟩)) Zp0 a0 ([rd x8_3 2, rd x8_3 3, rd x8_3 0, rd x8_3 1] : List Int) 4 t246 _ rfl hp0 (fun _ hb_ => (hZp0 _ (hM.kept.trans hb_))) ht246) ?_
                      rintro _ W245 ⟨rfl, hNt246_0, hM_⟩
                      replace hM := hM.call hM_
                      clear hM_ ht246
                      refine RunF.doesU (stv_u (N := 4) (cells := (nums .u32 t246).toArray) (old := (nums .u32 x8_3).toArray) (ty := 44) (k2 := (pin Go.Proofs.Try.f22 [1, 1, 1, 1, 0, 1, 1, 1, 1] 12)) (by kernel_rfl) (by rw [List.size_toArray]; simp only [nums_length, bools_length, strs_length]; exact hNt246_0) (hM.block 0 rfl) (by rw [List.size_toArray]; simp only [nums_length, bools_length, strs_length]; exact hlx8_3) (all_nums _ _)) ?_
                      replace hM : Mem w (W245.setRow g4 (nums .u32 t246).toArray) [⟨.pointer (some ⟨g4, 0, none⟩), 44, 0, nums .u32 t246⟩] := Mem.setAll [] [] (hM.pick [0] rfl rfl)
                      generalize W245.setRow g4 (nums .u32 t246).toArray = W247 at hM ⊢
                      refine RunF.go 3 [8] (k' := (pin Go.Proofs.Try.f22 [1, 1, 1, 1, 1, 0] 0)) (L' := [(8, .pointer (some ⟨g4, 0, none⟩))]) (w' := W247) (by kernel_rfl) ?_
                      rcases two (decide (0 ≤ 16)) with c250 | c250
                      · replace h := of_true h c250
                        have := of_decide_eq_true c250
                        obtain ⟨W248, hD, hM', hB_⟩ := mk_does (P := Go.Proofs.Try.prog) (n := 138) (k := (pin Go.Proofs.Try.f22 [1, 1, 1, 1, 1, 0] 0)) (L := [(8, .pointer (some ⟨g4, 0, none⟩))]) (d := some 127) (e := 5) (z := .int .u8 0) (l := 0) (c := 16) (k2 := (pin Go.Proofs.Try.f22 [1, 1, 1, 1, 1, 0] 1)) (by kernel_rfl) (by omega) (by omega) (by omega) hM
                        rw [rep_nums] at hM'
                        refine RunF.does hD ?_
                        replace hM := hM'; clear hD hM'
                        generalize W247.heap.size = g249 at hM ⊢
                        refine RunF.go 5 [8, 16] (k' := (pin Go.Proofs.Try.f22 [1, 1, 1, 1, 1, 1, 0, 0] 0)) (L' := [(8, .pointer (some ⟨g4, 0, none⟩)), (16, .slice (some ⟨g249, 0, none⟩) 0 16)]) (w' := W248) (by kernel_rfl) ?_
                        refine RunF.y (ldv_y (d := some 128) (g := g4) (N := 4) (ty := 44) (k2 := (pin Go.Proofs.Try.f22 [1, 1, 1, 1, 1, 1, 0, 0] 1)) (nums .u32 t246) (by kernel_rfl) (by simp only [nums_length, bools_length, strs_length]; exact hNt246_0)) (hM.block 1 rfl) ?_
                        refine RunF.go 4 [16, 128, 129] (k' := (pl Go.Proofs.Try.f22 [1, 1, 1, 1, 1, 1, 0, 1, 0, 0])) (L' := [(16, .slice (some ⟨g249, 0, none⟩) 0 16), (128, .agg (nums .u32 t246).toArray), (129, .int .i64 0)]) (w' := W248) (by kernel_rfl) ?_
                        have l4 : ∀ (k_ : Nat), k_ ≤ k → ∀ (A16_4 : Option Addr) (c16_4 : Nat) (x16_4 : List Int) (x129_4 : Int) (W : World) (hM : Mem w W [⟨.slice A16_4 x16_4.length c16_4, 5, 1, nums .u8 x16_4⟩]) (h : twofish_Twofish_Block.l4 k_ t246 x16_4 x129_4 = some r), RunF Go.Proofs.Try.prog (Ret fun v w' => ∃ A0' n0' c0', v = .tuple #[.slice A0' n0' c0', .int .i64 r.2] ∧ Mem w w' [⟨.slice A0' n0' c0', 5, 1, nums .u8 r.1⟩]) 22 (pl Go.Proofs.Try.f22 [1, 1, 1, 1, 1, 1, 0, 1, 0, 0]) 138 [(16, .slice A16_4 x16_4.length c16_4), (128, .agg (nums .u32 t246).toArray), (129, .int .i64 x129_4)] W := by
                          intro k_
                          induction k_ using Nat.strongRecOn with
                          | _ k_ ih4 =>
                            intro hk A16_4 c16_4 x16_4 x129_4 W hM h
                            cases k_ with
                            | zero => exact absurd h (by simp [twofish_Twofish_Block.l4])
                            | succ k =>
                              simp only [twofish_Twofish_Block.l4] at h
                              replace ih4 : ∀ m, m ≤ k → _ := fun m hm => ih4 m (by omega) (by omega)
                              replace ih0 : ∀ m, m ≤ k → _ := fun m hm => ih0 m (by omega)
                              replace ih3 : ∀ m, m ≤ k → _ := fun m hm => ih3 m (by omega)
                              refine RunF.go 5 [16, 128, 129, 130] (k' := (pl Go.Proofs.Try.f22 [1, 1, 1, 1, 1, 1, 0, 1, 0, 0, 1, 0])) (L' := [(16, .slice A16_4 x16_4.length c16_4), (128, .agg (nums .u32 t246).toArray), (129, .int .i64 x129_4), (130, .bool (decide (x129_4 < 4)))]) (w' := W) (by kernel_rfl) ?_
                              rcases two (decide (x129_4 < 4)) with c253 | c253
                              · replace h := of_true h c253
                                refine RunF.know 130 (b := true) (by kernel_rfl) c253 ?_
                                refine RunF.go 6 [16, 128, 129] (k' := (pin Go.Proofs.Try.f22 [1, 1, 1, 1, 1, 1, 0, 1, 0, 0, 1, 1, 0, 0, 0] 0)) (L' := [(16, .slice A16_4 x16_4.length c16_4), (128, .agg (nums .u32 t246).toArray), (129, .int .i64 x129_4)]) (w' := W) (by kernel_rfl) ?_
                                rcases two (decide (0 ≤ x129_4)) with c254 | c254
                                · replace h := of_true h c254
                                  rcases two (decide (x129_4 < (4 : Int))) with c255 | c255
                                  · replace h := of_true h c255
                                    refine RunF.y (idxVal_y (d := some 131) (cs := (nums .u32 t246).toArray) (len := 4) (i := x129_4) (u := .int .u32 (rd t246 x129_4)) (k2 := (pin Go.Proofs.Try.f22 [1, 1, 1, 1, 1, 1, 0, 1, 0, 0, 1, 1, 0, 0, 0] 1)) (by kernel_rfl) (of_decide_eq_true c254) (of_decide_eq_true c255) (by rw [List.getElem?_toArray]; exact nums_at (of_decide_eq_true c254) (by rw [show t246.length = 4 from hNt246_0]; exact (of_decide_eq_true c255)))) trivial ?_
                                    refine RunF.go 5 [128, 129, 132, 133] (k' := (pin Go.Proofs.Try.f22 [1, 1, 1, 1, 1, 1, 0, 1, 0, 0, 1, 1, 0, 0, 1] 2)) (L' := [(128, .agg (nums .u32 t246).toArray), (129, .int .i64 x129_4), (132, .slice A16_4 x16_4.length c16_4), (133, .int .u32 (rd t246 x129_4))]) (w' := W) (by kernel_rfl) ?_
                                    obtain ⟨t257, ht257, h⟩ := Option.bind_eq_some_iff.mp h
                                    refine RunF.call (d := some 134) (g := 34) (args := #[.int .u32 (rd t246 x129_4)]) (k2 := (pin Go.Proofs.Try.f22 [1, 1, 1, 1, 1, 1, 0, 1, 0, 0, 1, 1, 0, 0, 1] 3)) (by kernel_rfl) (words_PutLe32.calls k (rd t246 x129_4) t257 _ ht257) ?_
                                    rintro _ W256 ⟨A258, n259, c260, rfl, hM_⟩
                                    obtain rfl : t257.length = n259 := by have h_ := (hM_.rd 0 rfl).1; simpa [nums_length, bools_length, strs_length] using h_
                                    replace hM := hM.call hM_
                                    clear hM_ ht257
                                    rcases two (decide (x16_4.length + t257.length ≤ 1000000000)) with c266 | c266
                                    · replace h := of_true h c266
                                      have h_ := of_decide_eq_true c266
                                      obtain ⟨A262, n263, c264, W265, hD, hM', hS_⟩ := app_does (P := Go.Proofs.Try.prog) (n := 138) (k := (pin Go.Proofs.Try.f22 [1, 1, 1, 1, 1, 1, 0, 1, 0, 0, 1, 1, 0, 0, 1] 3)) (L := (upd [(128, .agg (nums .u32 t246).toArray), (129, .int .i64 x129_4), (132, .slice A16_4 x16_4.length c16_4), (133, .int .u32 (rd t246 x129_4))] (some 134) (.slice A258 t257.length c260))) (d := some 135) (e := 5) (A := A16_4) (m := x16_4.length) (c := c16_4) (A2 := A258) (m2 := t257.length) (c2 := c260) (cs := nums .u8 x16_4) (ys := nums .u8 t257) (k2 := (pin Go.Proofs.Try.f22 [1, 1, 1, 1, 1, 1, 0, 1, 0, 0, 1, 1, 0, 0, 1] 4)) [⟨.slice A258 t257.length c260, 5, 1, nums .u8 t257⟩] [] (by kernel_rfl) (hM.pick [0, 1] rfl rfl) (hM.rd 0 rfl) (one_nums _ _) (by omega)
                                      rw [nums_append] at hM'
                                      replace hM := hM'; clear h_ hM'
                                      obtain rfl : (x16_4 ++ t257).length = n263 := by have h_ := (hM.rd 1 rfl).1; simpa only [nums_length, bools_length, strs_length] using h_
                                      refine RunF.does hD ?_
                                      clear hD hS_
                                      refine RunF.go 8 [16, 128, 129] (k' := (pl Go.Proofs.Try.f22 [1, 1, 1, 1, 1, 1, 0, 1, 0, 0])) (L' := [(16, .slice A262 ((x16_4 ++ t257).length) c264), (128, .agg (nums .u32 t246).toArray), (129, .int .i64 (I64 (x129_4 + 1)))]) (w' := W265) (by kernel_rfl) ?_
                                      exact ih4 k (by omega) A262 c264 (x16_4 ++ t257) (I64 (x129_4 + 1)) _ (hM.pick [1] rfl rfl) h
                                    · replace h := of_false h c266
                                      cases h
                                  · replace h := of_false h c255
                                    cases h
                                · replace h := of_false h c254
                                  cases h
                              · replace h := of_false h c253
                                refine RunF.know 130 (b := false) (by kernel_rfl) c253 ?_
                                refine RunF.go 8 [6, 7] (k' := (pl Go.Proofs.Try.f22 [1, 1, 1, 1, 1, 1, 1, 1])) (L' := [(6, .slice A16_4 x16_4.length c16_4), (7, .int .i64 0)]) (w' := W) (by kernel_rfl) ?_
                                obtain rfl := Option.some.inj h
                                exact RunF.ret2 6 7 (.slice A16_4 x16_4.length c16_4) (.int .i64 0) (fn := Go.Proofs.Try.f22) Go.Proofs.Try.func22 (by kernel_rfl) (by kernel_rfl) (by kernel_rfl) (by kernel_rfl) ⟨_, rfl, A16_4, x16_4.length, c16_4, rfl, (hM.pick [0] rfl rfl)⟩
                        exact l4 k (Nat.le_refl _) (some ⟨g249, 0, none⟩) 16 (List.replicate 0 (0 : Int)) 0 _ (hM.pick [0] rfl rfl) h
                      · replace h := of_false h c250
                        cases h
              exact l3 k (Nat.le_refl _) t147 0 _ (hM.pick [0] rfl rfl) hNt147_0 h
    exact l0 k (Nat.le_refl _) (List.replicate 4 (0 : Int)) 0 _ (hM.pick [0] rfl rfl) List.length_replicate h

/-! ### scrim/scrimlaw9.known: function 8 -/
def scrimlaw9_known.f (k : Nat)  : Option (Bool) := (twofish_New.f k ([] : List Int)).bind fun t2 => ((twofish_New.f k (List.replicate 16 (0 : Int))).bind fun t7 => (if (t2.2 != 4) = true then (some false) else (if (t7.2 != 0) = true then (some false) else (if t7.1.isSome = true then ((t7.1).bind fun s11 => ((twofish_Twofish_Block.f k s11 (List.replicate 16 (0 : Int)) false).bind fun t18 => ((twofish_Twofish_Block.f k s11 t18.1 true).bind fun t24 => (if (t18.2 == 0) = true then (if (t24.2 == 0) = true then (if ((t18.1.length : Int) == 16) = true then (if (!((strOf t18.1).toList == (strOf t24.1).toList)) = true then (some ((strOf t24.1).toList == (strOf (List.replicate 16 (0 : Int))).toList)) else (some false)) else (some false)) else (some false)) else (some false))))) else (some false)))))
set_option maxRecDepth 100000 in
set_option maxHeartbeats 8000000 in
theorem scrimlaw9_known.calls (k : Nat)  (r : Bool) (w : World) (h : scrimlaw9_known.f k = some r) :
    Calls Go.Proofs.Try.prog 8 #[] w (Ret fun v w' => v = .bool r ∧ Mem w w' []) := by
  unfold scrimlaw9_known.f at h
  refine calls_of [] (fn := Go.Proofs.Try.f8) Go.Proofs.Try.func8 (by kernel_rfl) (by kernel_rfl) ?_
  have hM := Mem.refl w
  refine RunF.go 6 [] (k' := (pin Go.Proofs.Try.f8 [1, 0] 0)) (L' := []) (w' := w) (by kernel_rfl) ?_
  obtain ⟨t2, ht2, h⟩ := Option.bind_eq_some_iff.mp h
  refine RunF.call (d := some 10) (g := 18) (args := #[.slice none 0 0]) (k2 := (pin Go.Proofs.Try.f8 [1, 0] 1)) (by kernel_rfl) (twofish_New.calls k none 0 0 ([] : List Int) t2 _ (Rd.nil _ .u8) ht2) ?_
  rintro _ W1 ⟨vt2_0, Ft2_0, rfl, hRt2_0, hM_⟩
  replace hM : Mem w W1 (Gs [] [Ft2_0]) := (Mem.callG (hM.as (H' := Gs [] []) rfl) hM_).as rfl
  clear hM_ ht2
  refine RunF.go 8 [2] (k' := (pin Go.Proofs.Try.f8 [1, 1, 0] 0)) (L' := [(2, .int .i64 t2.2)]) (w' := W1) (by kernel_rfl) ?_
  obtain ⟨W3, hD, hM', hB_⟩ := mk_does (P := Go.Proofs.Try.prog) (n := 65) (k := (pin Go.Proofs.Try.f8 [1, 1, 0] 0)) (L := [(2, .int .i64 t2.2)]) (d := some 14) (e := 5) (z := .int .u8 0) (l := 16) (c := 16) (k2 := (pin Go.Proofs.Try.f8 [1, 1, 0] 1)) (by kernel_rfl) (by omega) (by omega) (by omega) hM
  rw [rep_nums] at hM'
  refine RunF.does hD ?_
  replace hM := hM'; clear hD hM'
  generalize W1.heap.size = g4 at hM ⊢
  obtain ⟨t7, ht7, h⟩ := Option.bind_eq_some_iff.mp h
  refine RunF.call (d := some 15) (g := 18) (args := #[.slice (some ⟨g4, 0, none⟩) 16 16]) (k2 := (pin Go.Proofs.Try.f8 [1, 1, 0] 2)) (by kernel_rfl) (twofish_New.calls k (some ⟨g4, 0, none⟩) 16 16 (List.replicate 16 (0 : Int)) t7 _ (hM.rd 0 rfl) ht7) ?_
  rintro _ W6 ⟨vt7_0, Ft7_0, rfl, hRt7_0, hM_⟩
  replace hM : Mem w W6 (Gs [⟨.slice (some ⟨g4, 0, none⟩) 16 16, 5, 1, nums .u8 (List.replicate 16 (0 : Int))⟩] [Ft7_0, Ft2_0]) := (Mem.callG (hM.as (H' := Gs [⟨.slice (some ⟨g4, 0, none⟩) 16 16, 5, 1, nums .u8 (List.replicate 16 (0 : Int))⟩] [Ft2_0]) rfl) hM_).as rfl
  clear hM_ ht7
  refine RunF.go 12 [3, 4, 20] (k' := (pin Go.Proofs.Try.f8 [1, 1, 1, 0, 0] 3)) (L' := [(3, vt7_0), (4, .int .i64 t7.2), (20, .bool (t2.2 != 4))]) (w' := W6) (by kernel_rfl) ?_
  rcases two ((t2.2 != 4)) with c8 | c8
  · replace h := of_true h c8
    refine RunF.know 20 (b := true) (by kernel_rfl) c8 ?_
    refine RunF.go 13 [0] (k' := (pl Go.Proofs.Try.f8 [1, 1, 1, 0, 1, 0, 1])) (L' := [(0, .bool false)]) (w' := W6) (by kernel_rfl) ?_
    obtain rfl := Option.some.inj h
    exact RunF.ret1 0 (.bool false) (fn := Go.Proofs.Try.f8) Go.Proofs.Try.func8 (by kernel_rfl) (by kernel_rfl) (by kernel_rfl) ⟨_, rfl, rfl, (Mem.pickF (hM.as (H' := Gs [⟨.slice (some ⟨g4, 0, none⟩) 16 16, 5, 1, nums .u8 (List.replicate 16 (0 : Int))⟩] [Ft7_0, Ft2_0]) rfl) [] rfl rfl rfl).ungrp⟩
  · replace h := of_false h c8
    refine RunF.know 20 (b := false) (by kernel_rfl) c8 ?_
    refine RunF.go 4 [3, 24] (k' := (pin Go.Proofs.Try.f8 [1, 1, 1, 0, 0] 7)) (L' := [(3, vt7_0), (24, .bool (t7.2 != 0))]) (w' := W6) (by kernel_rfl) ?_
    rcases two ((t7.2 != 0)) with c9 | c9
    · replace h := of_true h c9
      refine RunF.know 24 (b := true) (by kernel_rfl) c9 ?_
      refine RunF.go 9 [0] (k' := (pl Go.Proofs.Try.f8 [1, 1, 1, 0, 1, 0, 1])) (L' := [(0, .bool false)]) (w' := W6) (by kernel_rfl) ?_
      obtain rfl := Option.some.inj h
      exact RunF.ret1 0 (.bool false) (fn := Go.Proofs.Try.f8) Go.Proofs.Try.func8 (by kernel_rfl) (by kernel_rfl) (by kernel_rfl) ⟨_, rfl, rfl, (Mem.pickF (hM.as (H' := Gs [⟨.slice (some ⟨g4, 0, none⟩) 16 16, 5, 1, nums .u8 (List.replicate 16 (0 : Int))⟩] [Ft7_0, Ft2_0]) rfl) [] rfl rfl rfl).ungrp⟩
    · replace h := of_false h c9
      refine RunF.know 24 (b := false) (by kernel_rfl) c9 ?_
      refine RunF.go 1 [3, 24, 25] (k' := (pin Go.Proofs.Try.f8 [1, 1, 1, 0, 0] 8)) (L' := [(3, vt7_0), (24, .bool false), (25, vt7_0)]) (w' := W6) (by kernel_rfl) ?_
      rcases two (t7.1.isSome) with c10 | c10
      · replace h := of_true h c10
        obtain ⟨s11, hx_, h⟩ := Option.bind_eq_some_iff.mp h
        have hps11 := rOpt.some hRt7_0 hx_
        obtain ⟨g12, _, rfl, hco13, _, _, rfl, ⟨Ao13_0, co13_0, rfl, ho13_0⟩, ⟨Ao13_1, co13_1, rfl, ho13_1⟩⟩ := id hps11
        refine RunF.go 8 [3, 29] (k' := (pin Go.Proofs.Try.f8 [1, 1, 1, 1, 0] 1)) (L' := [(3, .pointer (some ⟨g12, 0, none⟩)), (29, .pointer (some ⟨g12, 0, none⟩))]) (w' := W6) (by kernel_rfl) ?_
        obtain ⟨W14, hD, hM', hB_⟩ := mk_does (P := Go.Proofs.Try.prog) (n := 65) (k := (pin Go.Proofs.Try.f8 [1, 1, 1, 1, 0] 1)) (L := [(3, .pointer (some ⟨g12, 0, none⟩)), (29, .pointer (some ⟨g12, 0, none⟩))]) (d := some 30) (e := 5) (z := .int .u8 0) (l := 16) (c := 16) (k2 := (pin Go.Proofs.Try.f8 [1, 1, 1, 1, 0] 2)) (by kernel_rfl) (by omega) (by omega) (by omega) hM
        rw [rep_nums] at hM'
        refine RunF.does hD ?_
        replace hM := hM'; clear hD hM'
        generalize W6.heap.size = g15 at hM ⊢
        obtain ⟨t18, ht18, h⟩ := Option.bind_eq_some_iff.mp h
        refine RunF.call (d := some 31) (g := 22) (args := #[.pointer (some ⟨g12, 0, none⟩), .slice (some ⟨g15, 0, none⟩) 16 16, .bool false]) (k2 := (pin Go.Proofs.Try.f8 [1, 1, 1, 1, 0] 3)) (by kernel_rfl) (twofish_Twofish_Block.calls k (.pointer (some ⟨g12, 0, none⟩)) (Oks Ft7_0) s11 (some ⟨g15, 0, none⟩) 16 16 (List.replicate 16 (0 : Int)) false t18 _ (hM.rd 0 rfl) hps11 (fun _ hb_ => ((Mem.oks (hM.as (H' := Gs [⟨.slice (some ⟨g15, 0, none⟩) 16 16, 5, 1, nums .u8 (List.replicate 16 (0 : Int))⟩, ⟨.slice (some ⟨g4, 0, none⟩) 16 16, 5, 1, nums .u8 (List.replicate 16 (0 : Int))⟩] [Ft7_0, Ft2_0]) rfl) 0 rfl).kept hb_)) ht18) ?_
        rintro _ W17 ⟨A19, n20, c21, rfl, hM_⟩
        obtain rfl : t18.1.length = n20 := by have h_ := (hM_.rd 0 rfl).1; simpa [nums_length, bools_length, strs_length] using h_
        replace hM : Mem w W17 (Gs [⟨.slice A19 t18.1.length c21, 5, 1, nums .u8 t18.1⟩, ⟨.slice (some ⟨g15, 0, none⟩) 16 16, 5, 1, nums .u8 (List.replicate 16 (0 : Int))⟩, ⟨.slice (some ⟨g4, 0, none⟩) 16 16, 5, 1, nums .u8 (List.replicate 16 (0 : Int))⟩] [Ft7_0, Ft2_0]) := (Mem.callG (hM.as (H' := Gs [⟨.slice (some ⟨g15, 0, none⟩) 16 16, 5, 1, nums .u8 (List.replicate 16 (0 : Int))⟩, ⟨.slice (some ⟨g4, 0, none⟩) 16 16, 5, 1, nums .u8 (List.replicate 16 (0 : Int))⟩] [Ft7_0, Ft2_0]) rfl) hM_.grp).as rfl
        clear hM_ ht18
        refine RunF.go 10 [5, 6, 35, 36] (k' := (pin Go.Proofs.Try.f8 [1, 1, 1, 1, 1, 0] 2)) (L' := [(5, .slice A19 t18.1.length c21), (6, .int .i64 t18.2), (35, .pointer (some ⟨g12, 0, none⟩)), (36, .slice A19 t18.1.length c21)]) (w' := W17) (by kernel_rfl) ?_
        obtain ⟨t24, ht24, h⟩ := Option.bind_eq_some_iff.mp h
        refine RunF.call (d := some 37) (g := 22) (args := #[.pointer (some ⟨g12, 0, none⟩), .slice A19 t18.1.length c21, .bool true]) (k2 := (pin Go.Proofs.Try.f8 [1, 1, 1, 1, 1, 0] 3)) (by kernel_rfl) (twofish_Twofish_Block.calls k (.pointer (some ⟨g12, 0, none⟩)) (Oks Ft7_0) s11 A19 t18.1.length c21 t18.1 true t24 _ (hM.rd 0 rfl) hps11 (fun _ hb_ => ((Mem.oks (hM.as (H' := Gs [⟨.slice A19 t18.1.length c21, 5, 1, nums .u8 t18.1⟩, ⟨.slice (some ⟨g15, 0, none⟩) 16 16, 5, 1, nums .u8 (List.replicate 16 (0 : Int))⟩, ⟨.slice (some ⟨g4, 0, none⟩) 16 16, 5, 1, nums .u8 (List.replicate 16 (0 : Int))⟩] [Ft7_0, Ft2_0]) rfl) 0 rfl).kept hb_)) ht24) ?_
        rintro _ W23 ⟨A25, n26, c27, rfl, hM_⟩
        obtain rfl : t24.1.length = n26 := by have h_ := (hM_.rd 0 rfl).1; simpa [nums_length, bools_length, strs_length] using h_
        replace hM : Mem w W23 (Gs [⟨.slice A25 t24.1.length c27, 5, 1, nums .u8 t24.1⟩, ⟨.slice A19 t18.1.length c21, 5, 1, nums .u8 t18.1⟩, ⟨.slice (some ⟨g15, 0, none⟩) 16 16, 5, 1, nums .u8 (List.replicate 16 (0 : Int))⟩, ⟨.slice (some ⟨g4, 0, none⟩) 16 16, 5, 1, nums .u8 (List.replicate 16 (0 : Int))⟩] [Ft7_0, Ft2_0]) := (Mem.callG (hM.as (H' := Gs [⟨.slice A19 t18.1.length c21, 5, 1, nums .u8 t18.1⟩, ⟨.slice (some ⟨g15, 0, none⟩) 16 16, 5, 1, nums .u8 (List.replicate 16 (0 : Int))⟩, ⟨.slice (some ⟨g4, 0, none⟩) 16 16, 5, 1, nums .u8 (List.replicate 16 (0 : Int))⟩] [Ft7_0, Ft2_0]) rfl) hM_.grp).as rfl
        clear hM_ ht24
        refine RunF.go 7 [5, 6, 7, 8] (k' := (pl Go.Proofs.Try.f8 [1, 1, 1, 1, 1, 1, 0])) (L' := [(5, .slice A19 t18.1.length c21), (6, .int .i64 t18.2), (7, .slice A25 t24.1.length c27), (8, .int .i64 t24.2)]) (w' := W23) (by kernel_rfl) ?_
        refine RunF.draw (Still ({ W23 with drawn := W23.drawn + 1 } : World) []) (by kernel_rfl) (by kernel_rfl) ?_
        have hMd30 := hM.drew
        have hS := Still.refl ({ W23 with drawn := W23.drawn + 1 } : World) []
        generalize ({ W23 with drawn := W23.drawn + 1 } : World) = W29 at hMd30 hS ⊢
        replace hM := hMd30
        refine RunAny.y 0 (by kernel_rfl) (yl_pure (d := some 40) (v := .int .i64 t18.2) (k2 := [.inRegion (opsOf (pl Go.Proofs.Try.f8 [1, 1, 1, 1, 1, 1, 0])) []]) fun w => by kernel_rfl) (fun _ _ => trivial) hS ?_
        refine RunAny.y 1 (by kernel_rfl) (yl_pure (d := some 41) (v := .bool (t18.2 == 0)) (k2 := [.inRegion (opsOf (pl Go.Proofs.Try.f8 [1, 1, 1, 1, 1, 1, 0])) []]) fun w => by kernel_rfl) (fun _ _ => trivial) hS ?_
        refine RunAny.y 2 (by kernel_rfl) (yl_pure (d := some 42) (v := .bool (t18.2 == 0)) (k2 := [.inRegion (opsOf (pl Go.Proofs.Try.f8 [1, 1, 1, 1, 1, 1, 0])) []]) fun w => by kernel_rfl) (fun _ _ => trivial) hS ?_
        rcases two ((t18.2 == 0)) with c31 | c31
        · replace h := of_true h c31
          refine RunAny.know 42 (b := true) (by kernel_rfl) c31 ?_
          refine RunAny.y 3 (by kernel_rfl) (yl_pure (d := some 43) (v := .int .i64 t24.2) (k2 := [.inRegion (opsOf (pl Go.Proofs.Try.f8 [1, 1, 1, 1, 1, 1, 0])) []]) fun w => by kernel_rfl) (fun _ _ => trivial) hS ?_
          refine RunAny.y 4 (by kernel_rfl) (yl_pure (d := some 44) (v := .bool (t24.2 == 0)) (k2 := [.inRegion (opsOf (pl Go.Proofs.Try.f8 [1, 1, 1, 1, 1, 1, 0])) []]) fun w => by kernel_rfl) (fun _ _ => trivial) hS ?_
          refine RunAny.y 5 (by kernel_rfl) (yl_pure (d := some 45) (v := .bool (t24.2 == 0)) (k2 := [.inRegion (opsOf (pl Go.Proofs.Try.f8 [1, 1, 1, 1, 1, 1, 0])) []]) fun w => by kernel_rfl) (fun _ _ => trivial) hS ?_
          refine RunAny.y 6 (by kernel_rfl) (yl_pure (d := some 46) (v := .bool (t24.2 == 0)) (k2 := [.inRegion (opsOf (pl Go.Proofs.Try.f8 [1, 1, 1, 1, 1, 1, 0])) []]) fun w => by kernel_rfl) (fun _ _ => trivial) hS ?_
          rcases two ((t24.2 == 0)) with c32 | c32
          · replace h := of_true h c32
            refine RunAny.know 46 (b := true) (by kernel_rfl) c32 ?_
            refine RunAny.y 7 (by kernel_rfl) (yl_pure (d := some 47) (v := .slice A19 t18.1.length c21) (k2 := [.inRegion (opsOf (pl Go.Proofs.Try.f8 [1, 1, 1, 1, 1, 1, 0])) []]) fun w => by kernel_rfl) (fun _ _ => trivial) hS ?_
            refine RunAny.y 8 (by kernel_rfl) (yl_pure (d := some 48) (v := .int .i64 (t18.1.length : Int)) (k2 := [.inRegion (opsOf (pl Go.Proofs.Try.f8 [1, 1, 1, 1, 1, 1, 0])) []]) fun w => by kernel_rfl) (fun _ _ => trivial) hS ?_
            refine RunAny.y 9 (by kernel_rfl) (yl_pure (d := some 49) (v := .bool ((t18.1.length : Int) == 16)) (k2 := [.inRegion (opsOf (pl Go.Proofs.Try.f8 [1, 1, 1, 1, 1, 1, 0])) []]) fun w => by kernel_rfl) (fun _ _ => trivial) hS ?_
            refine RunAny.y 10 (by kernel_rfl) (yl_pure (d := some 50) (v := .bool ((t18.1.length : Int) == 16)) (k2 := [.inRegion (opsOf (pl Go.Proofs.Try.f8 [1, 1, 1, 1, 1, 1, 0])) []]) fun w => by kernel_rfl) (fun _ _ => trivial) hS ?_
            refine RunAny.y 11 (by kernel_rfl) (yl_pure (d := some 51) (v := .bool ((t18.1.length : Int) == 16)) (k2 := [.inRegion (opsOf (pl Go.Proofs.Try.f8 [1, 1, 1, 1, 1, 1, 0])) []]) fun w => by kernel_rfl) (fun _ _ => trivial) hS ?_
            rcases two (((t18.1.length : Int) == 16)) with c33 | c33
            · replace h := of_true h c33
              refine RunAny.know 51 (b := true) (by kernel_rfl) c33 ?_
              refine RunAny.y 12 (by kernel_rfl) (yl_pure (d := some 52) (v := .slice A19 t18.1.length c21) (k2 := [.inRegion (opsOf (pl Go.Proofs.Try.f8 [1, 1, 1, 1, 1, 1, 0])) []]) fun w => by kernel_rfl) (fun _ _ => trivial) hS ?_
              refine RunAny.y 13 (by kernel_rfl) (str_y (d := some 53) (A := A19) (m := t18.1.length) (c := c21) (k2 := [.inRegion (opsOf (pl Go.Proofs.Try.f8 [1, 1, 1, 1, 1, 1, 0])) []]) t18.1 (by kernel_rfl)) (fun _ hs => ((hM.rd 1 rfl).still hs (by simp))) hS ?_
              refine RunAny.y 14 (by kernel_rfl) (yl_pure (d := some 54) (v := .slice A25 t24.1.length c27) (k2 := [.inRegion (opsOf (pl Go.Proofs.Try.f8 [1, 1, 1, 1, 1, 1, 0])) []]) fun w => by kernel_rfl) (fun _ _ => trivial) hS ?_
              refine RunAny.y 15 (by kernel_rfl) (str_y (d := some 55) (A := A25) (m := t24.1.length) (c := c27) (k2 := [.inRegion (opsOf (pl Go.Proofs.Try.f8 [1, 1, 1, 1, 1, 1, 0])) []]) t24.1 (by kernel_rfl)) (fun _ hs => ((hM.rd 0 rfl).still hs (by simp))) hS ?_
              refine RunAny.y 16 (by kernel_rfl) (yl_pure (d := some 56) (v := .bool (!((strOf t18.1).toList == (strOf t24.1).toList))) (k2 := [.inRegion (opsOf (pl Go.Proofs.Try.f8 [1, 1, 1, 1, 1, 1, 0])) []]) fun w => by kernel_rfl) (fun _ _ => trivial) hS ?_
              refine RunAny.y 17 (by kernel_rfl) (yl_pure (d := some 57) (v := .bool (!((strOf t18.1).toList == (strOf t24.1).toList))) (k2 := [.inRegion (opsOf (pl Go.Proofs.Try.f8 [1, 1, 1, 1, 1, 1, 0])) []]) fun w => by kernel_rfl) (fun _ _ => trivial) hS ?_
              refine RunAny.y 18 (by kernel_rfl) (yl_pure (d := some 58) (v := .bool (!((strOf t18.1).toList == (strOf t24.1).toList))) (k2 := [.inRegion (opsOf (pl Go.Proofs.Try.f8 [1, 1, 1, 1, 1, 1, 0])) []]) fun w => by kernel_rfl) (fun _ _ => trivial) hS ?_
              rcases two (!((strOf t18.1).toList == (strOf t24.1).toList)) with c34 | c34
              · replace h := of_true h c34
                refine RunAny.know 58 (b := true) (by kernel_rfl) c34 ?_
                refine RunAny.y 19 (by kernel_rfl) (yl_pure (d := some 59) (v := .slice A25 t24.1.length c27) (k2 := [.inRegion (opsOf (pl Go.Proofs.Try.f8 [1, 1, 1, 1, 1, 1, 0])) []]) fun w => by kernel_rfl) (fun _ _ => trivial) hS ?_
                refine RunAny.y 20 (by kernel_rfl) (str_y (d := some 60) (A := A25) (m := t24.1.length) (c := c27) (k2 := [.inRegion (opsOf (pl Go.Proofs.Try.f8 [1, 1, 1, 1, 1, 1, 0])) []]) t24.1 (by kernel_rfl)) (fun _ hs => ((hM.rd 0 rfl).still hs (by simp))) hS ?_
                obtain ⟨W35, hD, hM', hB_⟩ := mk_does (P := Go.Proofs.Try.prog) (n := 65) (k := (one (opsOf (pl Go.Proofs.Try.f8 [1, 1, 1, 1, 1, 1, 0])) 21)) (L := (upd (upd (known (upd (upd (upd (upd (upd (upd (upd (known (upd (upd (upd (upd (upd (known (upd (upd (upd (upd (known (upd (upd (upd [(5, .slice A19 t18.1.length c21), (6, .int .i64 t18.2), (7, .slice A25 t24.1.length c27), (8, .int .i64 t24.2)] (some 40) (.int .i64 t18.2)) (some 41) (.bool (t18.2 == 0))) (some 42) (.bool (t18.2 == 0))) 42 true) (some 43) (.int .i64 t24.2)) (some 44) (.bool (t24.2 == 0))) (some 45) (.bool (t24.2 == 0))) (some 46) (.bool (t24.2 == 0))) 46 true) (some 47) (.slice A19 t18.1.length c21)) (some 48) (.int .i64 (t18.1.length : Int))) (some 49) (.bool ((t18.1.length : Int) == 16))) (some 50) (.bool ((t18.1.length : Int) == 16))) (some 51) (.bool ((t18.1.length : Int) == 16))) 51 true) (some 52) (.slice A19 t18.1.length c21)) (some 53) (.string (strOf t18.1))) (some 54) (.slice A25 t24.1.length c27)) (some 55) (.string (strOf t24.1))) (some 56) (.bool (!((strOf t18.1).toList == (strOf t24.1).toList)))) (some 57) (.bool (!((strOf t18.1).toList == (strOf t24.1).toList)))) (some 58) (.bool (!((strOf t18.1).toList == (strOf t24.1).toList)))) 58 true) (some 59) (.slice A25 t24.1.length c27)) (some 60) (.string (strOf t24.1)))) (d := some 61) (e := 5) (z := .int .u8 0) (l := 16) (c := 16) (k2 := [.inRegion (opsOf (pl Go.Proofs.Try.f8 [1, 1, 1, 1, 1, 1, 0])) []]) (by kernel_rfl) (by omega) (by omega) (by omega) hM
                rw [rep_nums] at hM'
                refine RunAny.does 21 (by kernel_rfl) hD (hS.below hB_) ?_
                replace hS := hS.below hB_; clear hB_
                replace hM := hM'; clear hD hM'
                generalize W29.heap.size = g36 at hM ⊢
                refine RunAny.rebase hS ?_
                replace hS := Still.refl W35 []
                refine RunAny.y 22 (by kernel_rfl) (str_y (d := some 62) (A := (some ⟨g36, 0, none⟩)) (m := 16) (c := 16) (k2 := [.inRegion (opsOf (pl Go.Proofs.Try.f8 [1, 1, 1, 1, 1, 1, 0])) []]) (List.replicate 16 (0 : Int)) (by kernel_rfl)) (fun _ hs => ((hM.rd 0 rfl).still hs (by simp))) hS ?_
                refine RunAny.y 23 (by kernel_rfl) (yl_pure (d := some 63) (v := .bool ((strOf t24.1).toList == (strOf (List.replicate 16 (0 : Int))).toList)) (k2 := [.inRegion (opsOf (pl Go.Proofs.Try.f8 [1, 1, 1, 1, 1, 1, 0])) []]) fun w => by kernel_rfl) (fun _ _ => trivial) hS ?_
                refine RunAny.y 24 (by kernel_rfl) (yl_pure (d := some 64) (v := .bool ((strOf t24.1).toList == (strOf (List.replicate 16 (0 : Int))).toList)) (k2 := [.inRegion (opsOf (pl Go.Proofs.Try.f8 [1, 1, 1, 1, 1, 1, 0])) []]) fun w => by kernel_rfl) (fun _ _ => trivial) hS ?_
                refine RunAny.y 25 (by kernel_rfl) (yl_pure (d := some 0) (v := .bool ((strOf t24.1).toList == (strOf (List.replicate 16 (0 : Int))).toList)) (k2 := [.inRegion (opsOf (pl Go.Proofs.Try.f8 [1, 1, 1, 1, 1, 1, 0])) []]) fun w => by kernel_rfl) (fun _ _ => trivial) hS ?_
                refine RunAny.done (by kernel_rfl) ?_
                clear hS
                obtain rfl := Option.some.inj h
                exact RunF.ret1 0 (.bool ((strOf t24.1).toList == (strOf (List.replicate 16 (0 : Int))).toList)) (fn := Go.Proofs.Try.f8) Go.Proofs.Try.func8 (by kernel_rfl) (by kernel_rfl) (by kernel_rfl) ⟨_, rfl, rfl, (Mem.pickF (hM.as (H' := Gs [⟨.slice (some ⟨g36, 0, none⟩) 16 16, 5, 1, nums .u8 (List.replicate 16 (0 : Int))⟩, ⟨.slice A25 t24.1.length c27, 5, 1, nums .u8 t24.1⟩, ⟨.slice A19 t18.1.length c21, 5, 1, nums .u8 t18.1⟩, ⟨.slice (some ⟨g15, 0, none⟩) 16 16, 5, 1, nums .u8 (List.replicate 16 (0 : Int))⟩, ⟨.slice (some ⟨g4, 0, none⟩) 16 16, 5, 1, nums .u8 (List.replicate 16 (0 : Int))⟩] [Ft7_0, Ft2_0]) rfl) [] rfl rfl rfl).ungrp⟩
              · replace h := of_false h c34
                refine RunAny.know 58 (b := false) (by kernel_rfl) c34 ?_
                refine RunAny.off 19 (d := some 59) (by kernel_rfl) (by kernel_rfl) hS ?_
                refine RunAny.off 20 (d := some 60) (by kernel_rfl) (by kernel_rfl) hS ?_
                refine RunAny.off 21 (d := some 61) (by kernel_rfl) (by kernel_rfl) hS ?_
                refine RunAny.off 22 (d := some 62) (by kernel_rfl) (by kernel_rfl) hS ?_
                refine RunAny.off 23 (d := some 63) (by kernel_rfl) (by kernel_rfl) hS ?_
                refine RunAny.y 24 (by kernel_rfl) (yl_pure (d := some 64) (v := .bool false) (k2 := [.inRegion (opsOf (pl Go.Proofs.Try.f8 [1, 1, 1, 1, 1, 1, 0])) []]) fun w => by kernel_rfl) (fun _ _ => trivial) hS ?_
                refine RunAny.y 25 (by kernel_rfl) (yl_pure (d := some 0) (v := .bool false) (k2 := [.inRegion (opsOf (pl Go.Proofs.Try.f8 [1, 1, 1, 1, 1, 1, 0])) []]) fun w => by kernel_rfl) (fun _ _ => trivial) hS ?_
                refine RunAny.done (by kernel_rfl) ?_
                clear hS
                obtain rfl := Option.some.inj h
                exact RunF.ret1 0 (.bool false) (fn := Go.Proofs.Try.f8) Go.Proofs.Try.func8 (by kernel_rfl) (by kernel_rfl) (by kernel_rfl) ⟨_, rfl, rfl, (Mem.pickF (hM.as (H' := Gs [⟨.slice A25 t24.1.length c27, 5, 1, nums .u8 t24.1⟩, ⟨.slice A19 t18.1.length c21, 5, 1, nums .u8 t18.1⟩, ⟨.slice (some ⟨g15, 0, none⟩) 16 16, 5, 1, nums .u8 (List.replicate 16 (0 : Int))⟩, ⟨.slice (some ⟨g4, 0, none⟩) 16 16, 5, 1, nums .u8 (List.replicate 16 (0 : Int))⟩] [Ft7_0, Ft2_0]) rfl) [] rfl rfl rfl).ungrp⟩
            · replace h := of_false h c33
              refine RunAny.know 51 (b := false) (by kernel_rfl) c33 ?_
              refine RunAny.off 12 (d := some 52) (by kernel_rfl) (by kernel_rfl) hS ?_
              refine RunAny.off 13 (d := some 53) (by kernel_rfl) (by kernel_rfl) hS ?_
              refine RunAny.off 14 (d := some 54) (by kernel_rfl) (by kernel_rfl) hS ?_
              refine RunAny.off 15 (d := some 55) (by kernel_rfl) (by kernel_rfl) hS ?_
              refine RunAny.off 16 (d := some 56) (by kernel_rfl) (by kernel_rfl) hS ?_
              refine RunAny.y 17 (by kernel_rfl) (yl_pure (d := some 57) (v := .bool false) (k2 := [.inRegion (opsOf (pl Go.Proofs.Try.f8 [1, 1, 1, 1, 1, 1, 0])) []]) fun w => by kernel_rfl) (fun _ _ => trivial) hS ?_
              refine RunAny.y 18 (by kernel_rfl) (yl_pure (d := some 58) (v := .bool false) (k2 := [.inRegion (opsOf (pl Go.Proofs.Try.f8 [1, 1, 1, 1, 1, 1, 0])) []]) fun w => by kernel_rfl) (fun _ _ => trivial) hS ?_
              refine RunAny.off 19 (d := some 59) (by kernel_rfl) (by kernel_rfl) hS ?_
              refine RunAny.off 20 (d := some 60) (by kernel_rfl) (by kernel_rfl) hS ?_
              refine RunAny.off 21 (d := some 61) (by kernel_rfl) (by kernel_rfl) hS ?_
              refine RunAny.off 22 (d := some 62) (by kernel_rfl) (by kernel_rfl) hS ?_
              refine RunAny.off 23 (d := some 63) (by kernel_rfl) (by kernel_rfl) hS ?_
              refine RunAny.y 24 (by kernel_rfl) (yl_pure (d := some 64) (v := .bool false) (k2 := [.inRegion (opsOf (pl Go.Proofs.Try.f8 [1, 1, 1, 1, 1, 1, 0])) []]) fun w => by kernel_rfl) (fun _ _ => trivial) hS ?_
              refine RunAny.y 25 (by kernel_rfl) (yl_pure (d := some 0) (v := .bool false) (k2 := [.inRegion (opsOf (pl Go.Proofs.Try.f8 [1, 1, 1, 1, 1, 1, 0])) []]) fun w => by kernel_rfl) (fun _ _ => trivial) hS ?_
              refine RunAny.done (by kernel_rfl) ?_
              clear hS
              obtain rfl := Option.some.inj h
              exact RunF.ret1 0 (.bool false) (fn := Go.Proofs.Try.f8) Go.Proofs.Try.func8 (by kernel_rfl) (by kernel_rfl) (by kernel_rfl) ⟨_, rfl, rfl, (Mem.pickF (hM.as (H' := Gs [⟨.slice A25 t24.1.length c27, 5, 1, nums .u8 t24.1⟩, ⟨.slice A19 t18.1.length c21, 5, 1, nums .u8 t18.1⟩, ⟨.slice (some ⟨g15, 0, none⟩) 16 16, 5, 1, nums .u8 (List.replicate 16 (0 : Int))⟩, ⟨.slice (some ⟨g4, 0, none⟩) 16 16, 5, 1, nums .u8 (List.replicate 16 (0 : Int))⟩] [Ft7_0, Ft2_0]) rfl) [] rfl rfl rfl).ungrp⟩
          · replace h := of_false h c32
            refine RunAny.know 46 (b := false) (by kernel_rfl) c32 ?_
            refine RunAny.off 7 (d := some 47) (by kernel_rfl) (by kernel_rfl) hS ?_
            refine RunAny.off 8 (d := some 48) (by kernel_rfl) (by kernel_rfl) hS ?_
            refine RunAny.off 9 (d := some 49) (by kernel_rfl) (by kernel_rfl) hS ?_
            refine RunAny.y 10 (by kernel_rfl) (yl_pure (d := some 50) (v := .bool false) (k2 := [.inRegion (opsOf (pl Go.Proofs.Try.f8 [1, 1, 1, 1, 1, 1, 0])) []]) fun w => by kernel_rfl) (fun _ _ => trivial) hS ?_
            refine RunAny.y 11 (by kernel_rfl) (yl_pure (d := some 51) (v := .bool false) (k2 := [.inRegion (opsOf (pl Go.Proofs.Try.f8 [1, 1, 1, 1, 1, 1, 0])) []]) fun w => by kernel_rfl) (fun _ _ => trivial) hS ?_
            refine RunAny.off 12 (d := some 52) (by kernel_rfl) (by kernel_rfl) hS ?_
            refine RunAny.off 13 (d := some 53) (by kernel_rfl) (by kernel_rfl) hS ?_
            refine RunAny.off 14 (d := some 54) (by kernel_rfl) (by kernel_rfl) hS ?_
            refine RunAny.off 15 (d := some 55) (by kernel_rfl) (by kernel_rfl) hS ?_
            refine RunAny.off 16 (d := some 56) (by kernel_rfl) (by kernel_rfl) hS ?_
            refine RunAny.y 17 (by kernel_rfl) (yl_pure (d := some 57) (v := .bool false) (k2 := [.inRegion (opsOf (pl Go.Proofs.Try.f8 [1, 1, 1, 1, 1, 1, 0])) []]) fun w => by kernel_rfl) (fun _ _ => trivial) hS ?_
            refine RunAny.y 18 (by kernel_rfl) (yl_pure (d := some 58) (v := .bool false) (k2 := [.inRegion (opsOf (pl Go.Proofs.Try.f8 [1, 1, 1, 1, 1, 1, 0])) []]) fun w => by kernel_rfl) (fun _ _ => trivial) hS ?_
            refine RunAny.off 19 (d := some 59) (by kernel_rfl) (by kernel_rfl) hS ?_
            refine RunAny.off 20 (d := some 60) (by kernel_rfl) (by kernel_rfl) hS ?_
            refine RunAny.off 21 (d := some 61) (by kernel_rfl) (by kernel_rfl) hS ?_
            refine RunAny.off 22 (d := some 62) (by kernel_rfl) (by kernel_rfl) hS ?_
            refine RunAny.off 23 (d := some 63) (by kernel_rfl) (by kernel_rfl) hS ?_
            refine RunAny.y 24 (by kernel_rfl) (yl_pure (d := some 64) (v := .bool false) (k2 := [.inRegion (opsOf (pl Go.Proofs.Try.f8 [1, 1, 1, 1, 1, 1, 0])) []]) fun w => by kernel_rfl) (fun _ _ => trivial) hS ?_
            refine RunAny.y 25 (by kernel_rfl) (yl_pure (d := some 0) (v := .bool false) (k2 := [.inRegion (opsOf (pl Go.Proofs.Try.f8 [1, 1, 1, 1, 1, 1, 0])) []]) fun w => by kernel_rfl) (fun _ _ => trivial) hS ?_
            refine RunAny.done (by kernel_rfl) ?_
            clear hS
            obtain rfl := Option.some.inj h
            exact RunF.ret1 0 (.bool false) (fn := Go.Proofs.Try.f8) Go.Proofs.Try.func8 (by kernel_rfl) (by kernel_rfl) (by kernel_rfl) ⟨_, rfl, rfl, (Mem.pickF (hM.as (H' := Gs [⟨.slice A25 t24.1.length c27, 5, 1, nums .u8 t24.1⟩, ⟨.slice A19 t18.1.length c21, 5, 1, nums .u8 t18.1⟩, ⟨.slice (some ⟨g15, 0, none⟩) 16 16, 5, 1, nums .u8 (List.replicate 16 (0 : Int))⟩, ⟨.slice (some ⟨g4, 0, none⟩) 16 16, 5, 1, nums .u8 (List.replicate 16 (0 : Int))⟩] [Ft7_0, Ft2_0]) rfl) [] rfl rfl rfl).ungrp⟩
        · replace h := of_false h c31
          refine RunAny.know 42 (b := false) (by kernel_rfl) c31 ?_
          refine RunAny.off 3 (d := some 43) (by kernel_rfl) (by kernel_rfl) hS ?_
          refine RunAny.off 4 (d := some 44) (by kernel_rfl) (by kernel_rfl) hS ?_
          refine RunAny.y 5 (by kernel_rfl) (yl_pure (d := some 45) (v := .bool false) (k2 := [.inRegion (opsOf (pl Go.Proofs.Try.f8 [1, 1, 1, 1, 1, 1, 0])) []]) fun w => by kernel_rfl) (fun _ _ => trivial) hS ?_
          refine RunAny.y 6 (by kernel_rfl) (yl_pure (d := some 46) (v := .bool false) (k2 := [.inRegion (opsOf (pl Go.Proofs.Try.f8 [1, 1, 1, 1, 1, 1, 0])) []]) fun w => by kernel_rfl) (fun _ _ => trivial) hS ?_
          refine RunAny.off 7 (d := some 47) (by kernel_rfl) (by kernel_rfl) hS ?_
          refine RunAny.off 8 (d := some 48) (by kernel_rfl) (by kernel_rfl) hS ?_
          refine RunAny.off 9 (d := some 49) (by kernel_rfl) (by kernel_rfl) hS ?_
          refine RunAny.y 10 (by kernel_rfl) (yl_pure (d := some 50) (v := .bool false) (k2 := [.inRegion (opsOf (pl Go.Proofs.Try.f8 [1, 1, 1, 1, 1, 1, 0])) []]) fun w => by kernel_rfl) (fun _ _ => trivial) hS ?_
          refine RunAny.y 11 (by kernel_rfl) (yl_pure (d := some 51) (v := .bool false) (k2 := [.inRegion (opsOf (pl Go.Proofs.Try.f8 [1, 1, 1, 1, 1, 1, 0])) []]) fun w => by kernel_rfl) (fun _ _ => trivial) hS ?_
          refine RunAny.off 12 (d := some 52) (by kernel_rfl) (by kernel_rfl) hS ?_
          refine RunAny.off 13 (d := some 53) (by kernel_rfl) (by kernel_rfl) hS ?_
          refine RunAny.off 14 (d := some 54) (by kernel_rfl) (by kernel_rfl) hS ?_
          refine RunAny.off 15 (d := some 55) (by kernel_rfl) (by kernel_rfl) hS ?_
          refine RunAny.off 16 (d := some 56) (by kernel_rfl) (by kernel_rfl) hS ?_
          refine RunAny.y 17 (by kernel_rfl) (yl_pure (d := some 57) (v := .bool false) (k2 := [.inRegion (opsOf (pl Go.Proofs.Try.f8 [1, 1, 1, 1, 1, 1, 0])) []]) fun w => by kernel_rfl) (fun _ _ => trivial) hS ?_
          refine RunAny.y 18 (by kernel_rfl) (yl_pure (d := some 58) (v := .bool false) (k2 := [.inRegion (opsOf (pl Go.Proofs.Try.f8 [1, 1, 1, 1, 1, 1, 0])) []]) fun w => by kernel_rfl) (fun _ _ => trivial) hS ?_
          refine RunAny.off 19 (d := some 59) (by kernel_rfl) (by kernel_rfl) hS ?_
          refine RunAny.off 20 (d := some 60) (by kernel_rfl) (by kernel_rfl) hS ?_
          refine RunAny.off 21 (d := some 61) (by kernel_rfl) (by kernel_rfl) hS ?_
          refine RunAny.off 22 (d := some 62) (by kernel_rfl) (by kernel_rfl) hS ?_
          refine RunAny.off 23 (d := some 63) (by kernel_rfl) (by kernel_rfl) hS ?_
          refine RunAny.y 24 (by kernel_rfl) (yl_pure (d := some 64) (v := .bool false) (k2 := [.inRegion (opsOf (pl Go.Proofs.Try.f8 [1, 1, 1, 1, 1, 1, 0])) []]) fun w => by kernel_rfl) (fun _ _ => trivial) hS ?_
          refine RunAny.y 25 (by kernel_rfl) (yl_pure (d := some 0) (v := .bool false) (k2 := [.inRegion (opsOf (pl Go.Proofs.Try.f8 [1, 1, 1, 1, 1, 1, 0])) []]) fun w => by kernel_rfl) (fun _ _ => trivial) hS ?_
          refine RunAny.done (by kernel_rfl) ?_
          clear hS
          obtain rfl := Option.some.inj h
          exact RunF.ret1 0 (.bool false) (fn := Go.Proofs.Try.f8) Go.Proofs.Try.func8 (by kernel_rfl) (by kernel_rfl) (by kernel_rfl) ⟨_, rfl, rfl, (Mem.pickF (hM.as (H' := Gs [⟨.slice A25 t24.1.length c27, 5, 1, nums .u8 t24.1⟩, ⟨.slice A19 t18.1.length c21, 5, 1, nums .u8 t18.1⟩, ⟨.slice (some ⟨g15, 0, none⟩) 16 16, 5, 1, nums .u8 (List.replicate 16 (0 : Int))⟩, ⟨.slice (some ⟨g4, 0, none⟩) 16 16, 5, 1, nums .u8 (List.replicate 16 (0 : Int))⟩] [Ft7_0, Ft2_0]) rfl) [] rfl rfl rfl).ungrp⟩
      · replace h := of_false h c10
        obtain rfl := rOpt.none hRt7_0 c10
        refine RunF.go 8 [0] (k' := (pl Go.Proofs.Try.f8 [1, 1, 1, 0, 1, 0, 1])) (L' := [(0, .bool false)]) (w' := W6) (by kernel_rfl) ?_
        obtain rfl := Option.some.inj h
        exact RunF.ret1 0 (.bool false) (fn := Go.Proofs.Try.f8) Go.Proofs.Try.func8 (by kernel_rfl) (by kernel_rfl) (by kernel_rfl) ⟨_, rfl, rfl, (Mem.pickF (hM.as (H' := Gs [⟨.slice (some ⟨g4, 0, none⟩) 16 16, 5, 1, nums .u8 (List.replicate 16 (0 : Int))⟩] [Ft7_0, Ft2_0]) rfl) [] rfl rfl rfl).ungrp⟩

/-! ### scrim/scrimref9.laid: function 39 -/
def scrimref9_laid.l0 : Nat → Int → (List Int) → Int → Option (List Int)
  | 0, _, _, _ => none
  | k + 1, a1, x2_0, x5_0 => if (decide (x5_0 < 4)) = true then (if (decide (0 ≤ x5_0)) = true then (if (decide (x5_0 < (4 : Int))) = true then (if (decide (0 ≤ (U64 (I64 (8 * x5_0))))) = true then ((some (bxor .u8 (rd x2_0 x5_0) (U8 (shrv .u32 a1 (U64 (I64 (8 * x5_0))))) : Int)).bind fun y12 => (if (decide (0 ≤ x5_0)) = true then (if (decide (x5_0 < (4 : Int))) = true then (scrimref9_laid.l0 k a1 (x2_0.set (x5_0 : Int).toNat y12) (I64 (x5_0 + 1))) else (none)) else (none))) else (none)) else (none)) else (none)) else (some x2_0)
def scrimref9_laid.f (k : Nat) (a0 : List Int) (a1 : Int) : Option (List Int) := scrimref9_laid.l0 k a1 a0 0
set_option maxRecDepth 100000 in
theorem scrimref9_laid.calls (k : Nat) (a0 : List Int) (a1 : Int) (r : List Int) (w : World) (hl0 : a0.length = 4) (h : scrimref9_laid.f k a0 a1 = some r) :
    Calls Go.Proofs.Try.prog 39 #[.agg (nums .u8 a0).toArray, .int .u32 a1] w (Ret fun v w' => v = .agg (nums .u8 r).toArray ∧ r.length = 4 ∧ Mem w w' []) := by
  unfold scrimref9_laid.f at h
  refine calls_of [.agg (nums .u8 a0).toArray, .int .u32 a1] (fn := Go.Proofs.Try.f39) Go.Proofs.Try.func39 (by kernel_rfl) (by kernel_rfl) ?_
  have hM := Mem.refl w
  refine RunF.go 2 [0, 1] (k' := (pin Go.Proofs.Try.f39 [0] 0)) (L' := [(0, .agg (nums .u8 a0).toArray), (1, .int .u32 a1)]) (w' := w) (by kernel_rfl) ?_
  refine RunF.newVar 69 (nums .u8 a0) (d := some 2) (k2 := (pin Go.Proofs.Try.f39 [0] 1)) hM (by kernel_rfl) ?_
  intro g1 W2 hM
  refine RunF.newVar 69 (nums .u8 (List.replicate 4 (0 : Int))) (d := some 4) (k2 := (pin Go.Proofs.Try.f39 [0] 2)) hM (by kernel_rfl) ?_
  intro g4 W5 hM
  refine RunF.go 8 [1, 2, 4, 5] (k' := (pl Go.Proofs.Try.f39 [1, 0, 1, 0, 0])) (L' := [(1, .int .u32 a1), (2, .pointer (some ⟨g1, 0, none⟩)), (4, .pointer (some ⟨g4, 0, none⟩)), (5, .int .i64 0)]) (w' := W5) (by kernel_rfl) ?_
  have l0 : ∀ (k_ : Nat), k_ ≤ k → ∀ (x2_0 : List Int) (x5_0 : Int) (W : World) (hM : Mem w W [⟨.pointer (some ⟨g1, 0, none⟩), 69, 0, nums .u8 x2_0⟩, ⟨.pointer (some ⟨g4, 0, none⟩), 69, 0, nums .u8 (List.replicate 4 (0 : Int))⟩]) (hlx2_0 : x2_0.length = 4) (h : scrimref9_laid.l0 k_ a1 x2_0 x5_0 = some r), RunF Go.Proofs.Try.prog (Ret fun v w' => v = .agg (nums .u8 r).toArray ∧ r.length = 4 ∧ Mem w w' []) 39 (pl Go.Proofs.Try.f39 [1, 0, 1, 0, 0]) 23 [(1, .int .u32 a1), (2, .pointer (some ⟨g1, 0, none⟩)), (4, .pointer (some ⟨g4, 0, none⟩)), (5, .int .i64 x5_0)] W := by
    intro k_
    induction k_ using Nat.strongRecOn with
    | _ k_ ih0 =>
      intro hk x2_0 x5_0 W hM hlx2_0 h
      cases k_ with
      | zero => exact absurd h (by simp [scrimref9_laid.l0])
      | succ k =>
        simp only [scrimref9_laid.l0] at h
        replace ih0 : ∀ m, m ≤ k → _ := fun m hm => ih0 m (by omega) (by omega)
        refine RunF.go 6 [1, 2, 4, 5, 7] (k' := (pl Go.Proofs.Try.f39 [1, 0, 1, 0, 0, 0, 1])) (L' := [(1, .int .u32 a1), (2, .pointer (some ⟨g1, 0, none⟩)), (4, .pointer (some ⟨g4, 0, none⟩)), (5, .int .i64 x5_0), (7, .bool (decide (x5_0 < 4)))]) (w' := W) (by kernel_rfl) ?_
        rcases two (decide (x5_0 < 4)) with c7 | c7
        · replace h := of_true h c7
          refine RunF.know 7 (b := true) (by kernel_rfl) c7 ?_
          refine RunF.go 7 [1, 2, 4, 5, 10, 11] (k' := (pin Go.Proofs.Try.f39 [1, 0, 1, 0, 0, 1, 0, 0] 2)) (L' := [(1, .int .u32 a1), (2, .pointer (some ⟨g1, 0, none⟩)), (4, .pointer (some ⟨g4, 0, none⟩)), (5, .int .i64 x5_0), (10, .int .i64 x5_0), (11, .int .i64 x5_0)]) (w' := W) (by kernel_rfl) ?_
          rcases two (decide (0 ≤ x5_0)) with c9 | c9
          · replace h := of_true h c9
            rcases two (decide (x5_0 < (4 : Int))) with c10 | c10
            · replace h := of_true h c10
              obtain ⟨hcq8, hfq8, hlq8⟩ := hM.arr_num 0 rfl (i := x5_0) (of_decide_eq_true c9) (N := 4) hlx2_0 (of_decide_eq_true c10)
              refine RunF.y (idxArr_own (d := some 12) (g := g1) (len := 4) (i := x5_0) (k2 := (pin Go.Proofs.Try.f39 [1, 0, 1, 0, 0, 1, 0, 0] 3)) (by kernel_rfl) (of_decide_eq_true c9) (of_decide_eq_true c10)) trivial ?_
              refine RunF.y (ld_y (d := some 13) (p := ⟨g1, (x5_0 : Int).toNat, none⟩) (k2 := (pin Go.Proofs.Try.f39 [1, 0, 1, 0, 0, 1, 0, 0] 4)) (.int .u8 (rd x2_0 x5_0)) (by kernel_rfl)) hcq8 ?_
              refine RunF.go 4 [1, 2, 4, 5, 10, 13, 14, 17] (k' := (pin Go.Proofs.Try.f39 [1, 0, 1, 0, 0, 1, 0, 0] 8)) (L' := [(1, .int .u32 a1), (2, .pointer (some ⟨g1, 0, none⟩)), (4, .pointer (some ⟨g4, 0, none⟩)), (5, .int .i64 x5_0), (10, .int .i64 x5_0), (13, .int .u8 (rd x2_0 x5_0)), (14, .int .u32 a1), (17, .int .u64 (U64 (I64 (8 * x5_0))))]) (w' := W) (by kernel_rfl) ?_
              rcases two (decide (0 ≤ (U64 (I64 (8 * x5_0))))) with c11 | c11
              · replace h := of_true h c11
                refine RunF.y (sh_y (d := some 18) (b := false) (kd := .u32) (x := a1) (y := U64 (I64 (8 * x5_0))) (k2 := (pin Go.Proofs.Try.f39 [1, 0, 1, 0, 0, 1, 0, 0] 9)) (by kernel_rfl) c11) trivial ?_
                refine RunF.go 2 [1, 2, 4, 5, 10, 20] (k' := (pin Go.Proofs.Try.f39 [1, 0, 1, 0, 0, 1, 0, 0] 11)) (L' := [(1, .int .u32 a1), (2, .pointer (some ⟨g1, 0, none⟩)), (4, .pointer (some ⟨g4, 0, none⟩)), (5, .int .i64 x5_0), (10, .int .i64 x5_0), (20, .int .u8 (bxor .u8 (rd x2_0 x5_0) (U8 (shrv .u32 a1 (U64 (I64 (8 * x5_0)))))))]) (w' := W) (by kernel_rfl) ?_
                obtain ⟨y12, hy, h⟩ := Option.bind_eq_some_iff.mp h
                rw [show (bxor .u8 (rd x2_0 x5_0) (U8 (shrv .u32 a1 (U64 (I64 (8 * x5_0)))))) = y12 from Option.some.inj hy]
                clear hy
                rcases two (decide (0 ≤ x5_0)) with c14 | c14
                · replace h := of_true h c14
                  rcases two (decide (x5_0 < (4 : Int))) with c15 | c15
                  · replace h := of_true h c15
                    obtain ⟨hcq13, hfq13, hlq13⟩ := hM.arr_num 0 rfl (i := x5_0) (of_decide_eq_true c14) (N := 4) hlx2_0 (of_decide_eq_true c15)
                    refine RunF.y (idxArr_own (d := some 21) (g := g1) (len := 4) (i := x5_0) (k2 := (pin Go.Proofs.Try.f39 [1, 0, 1, 0, 0, 1, 0, 0] 12)) (by kernel_rfl) (of_decide_eq_true c14) (of_decide_eq_true c15)) trivial ?_
                    obtain ⟨hc_, hf_, hl_⟩ := hM.arr_num 0 rfl (i := x5_0) (of_decide_eq_true c14) (N := 4) hlx2_0 (of_decide_eq_true c15)
                    refine RunF.doesU (st_u (p := (⟨g1, (x5_0 : Int).toNat, none⟩ : Addr)) (v := .int .u8 y12) (k2 := (pin Go.Proofs.Try.f39 [1, 0, 1, 0, 0, 1, 0, 0] 13)) (by kernel_rfl) hc_ hf_) ?_
                    replace hM : Mem w (W.setCell (⟨g1, (x5_0 : Int).toNat, none⟩ : Addr) (.int .u8 y12)) [⟨.pointer (some ⟨g1, 0, none⟩), 69, 0, nums .u8 (x2_0.set (x5_0 : Int).toNat y12)⟩, ⟨.pointer (some ⟨g4, 0, none⟩), 69, 0, nums .u8 (List.replicate 4 (0 : Int))⟩] := Mem.arr_put_num [] [⟨.pointer (some ⟨g4, 0, none⟩), 69, 0, nums .u8 (List.replicate 4 (0 : Int))⟩] (hM.pick [0, 1] rfl rfl) _ hl_ _
                    generalize W.setCell (⟨g1, (x5_0 : Int).toNat, none⟩ : Addr) (.int .u8 y12) = W16 at hM ⊢
                    clear hc_ hf_ hl_ hcq13 hfq13 hlq13
                    refine RunF.go 8 [1, 2, 4, 5] (k' := (pl Go.Proofs.Try.f39 [1, 0, 1, 0, 0])) (L' := [(1, .int .u32 a1), (2, .pointer (some ⟨g1, 0, none⟩)), (4, .pointer (some ⟨g4, 0, none⟩)), (5, .int .i64 (I64 (x5_0 + 1)))]) (w' := W16) (by kernel_rfl) ?_
                    exact ih0 k (by omega) (x2_0.set (x5_0 : Int).toNat y12) (I64 (x5_0 + 1)) _ (hM.pick [0, 1] rfl rfl) (List.length_set.trans hlx2_0) h
                  · replace h := of_false h c15
                    cases h
                · replace h := of_false h c14
                  cases h
              · replace h := of_false h c11
                cases h
            · replace h := of_false h c10
              cases h
          · replace h := of_false h c9
            cases h
        · replace h := of_false h c7
          refine RunF.know 7 (b := false) (by kernel_rfl) c7 ?_
          refine RunF.go 4 [2, 4] (k' := (pin Go.Proofs.Try.f39 [1, 1, 0] 0)) (L' := [(2, .pointer (some ⟨g1, 0, none⟩)), (4, .pointer (some ⟨g4, 0, none⟩))]) (w' := W) (by kernel_rfl) ?_
          refine RunF.y (ldv_y (d := some 22) (g := g1) (N := 4) (ty := 69) (k2 := (pin Go.Proofs.Try.f39 [1, 1, 0] 1)) (nums .u8 x2_0) (by kernel_rfl) (by simp only [nums_length, bools_length, strs_length]; exact hlx2_0)) (hM.block 0 rfl) ?_
          refine RunF.doesU (stv_u (N := 4) (cells := (nums .u8 x2_0).toArray) (old := (nums .u8 (List.replicate 4 (0 : Int))).toArray) (ty := 69) (k2 := (pin Go.Proofs.Try.f39 [1, 1, 0] 2)) (by kernel_rfl) (by rw [List.size_toArray]; simp only [nums_length, bools_length, strs_length]; exact hlx2_0) (hM.block 1 rfl) (by rw [List.size_toArray]; simp only [nums_length, bools_length, strs_length]; exact List.length_replicate) (all_nums _ _)) ?_
          replace hM : Mem w (W.setRow g4 (nums .u8 x2_0).toArray) [⟨.pointer (some ⟨g1, 0, none⟩), 69, 0, nums .u8 x2_0⟩, ⟨.pointer (some ⟨g4, 0, none⟩), 69, 0, nums .u8 x2_0⟩] := Mem.setAll [⟨.pointer (some ⟨g1, 0, none⟩), 69, 0, nums .u8 x2_0⟩] [] (hM.pick [0, 1] rfl rfl)
          generalize W.setRow g4 (nums .u8 x2_0).toArray = W17 at hM ⊢
          refine RunF.go 1 [4] (k' := (pl Go.Proofs.Try.f39 [1, 1, 1])) (L' := [(4, .pointer (some ⟨g4, 0, none⟩))]) (w' := W17) (by kernel_rfl) ?_
          obtain rfl := Option.some.inj h
          exact RunF.retc (t := 4) (ty := 69) (N := 4) (g := g4) (nums .u8 x2_0) (fn := Go.Proofs.Try.f39) Go.Proofs.Try.func39 (by kernel_rfl) (by kernel_rfl) (by kernel_rfl) (by kernel_rfl) (by simp only [nums_length, bools_length, strs_length]; exact hlx2_0) (hM.block 1 rfl) ⟨_, rfl, rfl, hlx2_0, (hM.pick [] rfl rfl)⟩
  exact l0 k (Nat.le_refl _) a0 0 _ (hM.pick [1, 0] rfl rfl) hl0 h


end Go.Scr.S
