/- The functions that the law SmallBlocks reaches, as plain functions, and that each call answers so. -/
import Derived.Test.YtahfhogifkkoeaaProg
import Derived.Test.YtahfhogifkkoeaaFnSmallBlocks1
set_option linter.unusedVariables false
set_option linter.unusedSimpArgs false
set_option linter.unnecessarySimpa false
namespace Go.Scr.S
open Go.RowKit (Below)
/-! ### (*scrim/scrimref8.Small).magma: function 38 -/
def scrimref8_Small_magma.l0 : Nat → (Int × (List Int)) → Bool → Int → Int → Int → Option (Int × Int)
  | 0, _, _, _, _, _ => none
  | k + 1, a0, a3, x1_0, x2_0, x10_0 => if (decide (x10_0 < 32)) = true then (if a3 = true then (if (decide ((I64 (31 - x10_0)) ≥ 24)) = true then (if (decide (0 ≤ (I64 (31 - (I64 (31 - x10_0)))))) = true then (if (decide ((I64 (31 - (I64 (31 - x10_0)))) < (a0.2.length : Int))) = true then ((scrimref8_G.f k x2_0 (rd a0.2 (I64 (31 - (I64 (31 - x10_0)))))).bind fun t9 => (scrimref8_Small_magma.l0 k a0 a3 x2_0 (bxor .u32 x1_0 t9) (I64 (x10_0 + 1)))) else (none)) else (none)) else (if (decide (0 ≤ (Int.tmod (I64 (31 - x10_0)) 8))) = true then (if (decide ((Int.tmod (I64 (31 - x10_0)) 8) < (a0.2.length : Int))) = true then ((scrimref8_G.f k x2_0 (rd a0.2 (Int.tmod (I64 (31 - x10_0)) 8))).bind fun t14 => (scrimref8_Small_magma.l0 k a0 a3 x2_0 (bxor .u32 x1_0 t14) (I64 (x10_0 + 1)))) else (none)) else (none))) else (if (decide (x10_0 ≥ 24)) = true then (if (decide (0 ≤ (I64 (31 - x10_0)))) = true then (if (decide ((I64 (31 - x10_0)) < (a0.2.length : Int))) = true then ((scrimref8_G.f k x2_0 (rd a0.2 (I64 (31 - x10_0)))).bind fun t20 => (scrimref8_Small_magma.l0 k a0 a3 x2_0 (bxor .u32 x1_0 t20) (I64 (x10_0 + 1)))) else (none)) else (none)) else (if (decide (0 ≤ (Int.tmod x10_0 8))) = true then (if (decide ((Int.tmod x10_0 8) < (a0.2.length : Int))) = true then ((scrimref8_G.f k x2_0 (rd a0.2 (Int.tmod x10_0 8))).bind fun t25 => (scrimref8_Small_magma.l0 k a0 a3 x2_0 (bxor .u32 x1_0 t25) (I64 (x10_0 + 1)))) else (none)) else (none)))) else (some (x2_0, x1_0))
def scrimref8_Small_magma.f (k : Nat) (a0 : (Int × (List Int))) (a1 : Int) (a2 : Int) (a3 : Bool) : Option (Int × Int) := scrimref8_Small_magma.l0 k a0 a3 a1 a2 0
set_option maxRecDepth 100000 in
theorem scrimref8_Small_magma.calls (k : Nat) (vp0 : Value) (Zp0 : Zp) (a0 : (Int × (List Int))) (a1 : Int) (a2 : Int) (a3 : Bool) (r : Int × Int) (w : World) (hp0 : (rPtr Rs_scrimref8_Small) Zp0 vp0 a0) (hZp0 : ∀ W, Kept w W → Zp0 W) (h : scrimref8_Small_magma.f k a0 a1 a2 a3 = some r) :
    Calls Go.Proofs.Try.prog 38 #[vp0, .int .u32 a1, .int .u32 a2, .bool a3] w (Ret fun v w' => v = .tuple #[.int .u32 r.1, .int .u32 r.2] ∧ Mem w w' []) := by
  obtain ⟨gp0, _, rfl, hco1, _, _, rfl, rfl, ⟨Ao1_1, co1_1, rfl, ho1_1⟩⟩ := id hp0
  unfold scrimref8_Small_magma.f at h
  refine calls_of [.pointer (some ⟨gp0, 0, none⟩), .int .u32 a1, .int .u32 a2, .bool a3] (fn := Go.Proofs.Try.f38) Go.Proofs.Try.func38 (by kernel_rfl) (by kernel_rfl) ?_
  have hM := Mem.refl w
  refine RunF.go 12 [0, 1, 2, 3, 10] (k' := (pl Go.Proofs.Try.f38 [1, 0, 1, 0, 0])) (L' := [(0, .pointer (some ⟨gp0, 0, none⟩)), (1, .int .u32 a1), (2, .int .u32 a2), (3, .bool a3), (10, .int .i64 0)]) (w' := w) (by kernel_rfl) ?_
  have l0 : ∀ (k_ : Nat), k_ ≤ k → ∀ (x1_0 : Int) (x2_0 : Int) (x10_0 : Int) (W : World) (hM : Mem w W []) (h : scrimref8_Small_magma.l0 k_ a0 a3 x1_0 x2_0 x10_0 = some r), RunF Go.Proofs.Try.prog (Ret fun v w' => v = .tuple #[.int .u32 r.1, .int .u32 r.2] ∧ Mem w w' []) 38 (pl Go.Proofs.Try.f38 [1, 0, 1, 0, 0]) 41 [(0, .pointer (some ⟨gp0, 0, none⟩)), (1, .int .u32 x1_0), (2, .int .u32 x2_0), (3, .bool a3), (10, .int .i64 x10_0)] W := by
    intro k_
    induction k_ using Nat.strongRecOn with
    | _ k_ ih0 =>
      intro hk x1_0 x2_0 x10_0 W hM h
      cases k_ with
      | zero => exact absurd h (by simp [scrimref8_Small_magma.l0])
      | succ k =>
        simp only [scrimref8_Small_magma.l0] at h
        replace ih0 : ∀ m, m ≤ k → _ := fun m hm => ih0 m (by omega) (by omega)
        refine RunF.go 6 [0, 1, 2, 3, 10, 14] (k' := (pl Go.Proofs.Try.f38 [1, 0, 1, 0, 0, 0, 1])) (L' := [(0, .pointer (some ⟨gp0, 0, none⟩)), (1, .int .u32 x1_0), (2, .int .u32 x2_0), (3, .bool a3), (10, .int .i64 x10_0), (14, .bool (decide (x10_0 < 32)))]) (w' := W) (by kernel_rfl) ?_
        rcases two (decide (x10_0 < 32)) with c2 | c2
        · replace h := of_true h c2
          refine RunF.know 14 (b := true) (by kernel_rfl) c2 ?_
          refine RunF.go 14 [0, 1, 2, 3, 10, 11, 18] (k' := (pl Go.Proofs.Try.f38 [1, 0, 1, 0, 0, 1, 0, 0, 1, 0, 1])) (L' := [(0, .pointer (some ⟨gp0, 0, none⟩)), (1, .int .u32 x1_0), (2, .int .u32 x2_0), (3, .bool a3), (10, .int .i64 x10_0), (11, .int .i64 x10_0), (18, .bool a3)]) (w' := W) (by kernel_rfl) ?_
          rcases two (a3) with c3 | c3
          · replace h := of_true h c3
            refine RunF.know 18 (b := true) (by kernel_rfl) c3 ?_
            refine RunF.go 18 [0, 1, 2, 3, 10, 11, 12, 24] (k' := (pl Go.Proofs.Try.f38 [1, 0, 1, 0, 0, 1, 0, 0, 1, 1, 1, 0, 1])) (L' := [(0, .pointer (some ⟨gp0, 0, none⟩)), (1, .int .u32 x1_0), (2, .int .u32 x2_0), (3, .bool a3), (10, .int .i64 x10_0), (11, .int .i64 (I64 (31 - x10_0))), (12, .int .i64 (Int.tmod (I64 (31 - x10_0)) 8)), (24, .bool (decide ((I64 (31 - x10_0)) ≥ 24)))]) (w' := W) (by kernel_rfl) ?_
            rcases two (decide ((I64 (31 - x10_0)) ≥ 24)) with c4 | c4
            · replace h := of_true h c4
              refine RunF.know 24 (b := true) (by kernel_rfl) c4 ?_
              refine RunF.go 13 [0, 3, 10, 12, 27, 28, 29, 32] (k' := (pin Go.Proofs.Try.f38 [1, 0, 1, 0, 0, 1, 0, 0, 1, 1, 1, 1] 6)) (L' := [(0, .pointer (some ⟨gp0, 0, none⟩)), (3, .bool a3), (10, .int .i64 x10_0), (12, .int .i64 (I64 (31 - (I64 (31 - x10_0))))), (27, .int .u32 x2_0), (28, .int .u32 x1_0), (29, .int .u32 x2_0), (32, .pointer (some ⟨gp0, 1, none⟩))]) (w' := W) (by kernel_rfl) ?_
              refine RunF.y (ld_y (d := some 33) (p := ⟨gp0, 1, none⟩) (k2 := (pin Go.Proofs.Try.f38 [1, 0, 1, 0, 0, 1, 0, 0, 1, 1, 1, 1] 7)) (.slice Ao1_1 a0.2.length co1_1) (by kernel_rfl)) (hco1 _ (hZp0 _ hM.kept) 1 _ rfl) ?_
              refine RunF.go 1 [0, 3, 10, 27, 28, 29, 33, 34] (k' := (pin Go.Proofs.Try.f38 [1, 0, 1, 0, 0, 1, 0, 0, 1, 1, 1, 1] 8)) (L' := [(0, .pointer (some ⟨gp0, 0, none⟩)), (3, .bool a3), (10, .int .i64 x10_0), (27, .int .u32 x2_0), (28, .int .u32 x1_0), (29, .int .u32 x2_0), (33, .slice Ao1_1 a0.2.length co1_1), (34, .int .i64 (I64 (31 - (I64 (31 - x10_0)))))]) (w' := W) (by kernel_rfl) ?_
              rcases two (decide (0 ≤ (I64 (31 - (I64 (31 - x10_0)))))) with c6 | c6
              · replace h := of_true h c6
                rcases two (decide ((I64 (31 - (I64 (31 - x10_0)))) < (a0.2.length : Int))) with c7 | c7
                · replace h := of_true h c7
                  obtain ⟨q5, hAq5, hcq5⟩ := Rd.num (ho1_1 _ (hZp0 _ hM.kept)) (i := I64 (31 - (I64 (31 - x10_0)))) (of_decide_eq_true c6) (by have h_ := of_decide_eq_true c7; omega)
                  refine RunF.y (idx_y (d := some 35) (A := Ao1_1) (m := a0.2.length) (i := I64 (31 - (I64 (31 - x10_0)))) (k2 := (pin Go.Proofs.Try.f38 [1, 0, 1, 0, 0, 1, 0, 0, 1, 1, 1, 1] 9)) (by kernel_rfl) (of_decide_eq_true c6) (by have h_ := of_decide_eq_true c7; omega) hAq5) trivial ?_
                  refine RunF.y (ld_y (d := some 36) (p := (q5.add (I64 (31 - (I64 (31 - x10_0))) : Int).toNat)) (k2 := (pin Go.Proofs.Try.f38 [1, 0, 1, 0, 0, 1, 0, 0, 1, 1, 1, 1] 10)) (.int .u32 (rd a0.2 (I64 (31 - (I64 (31 - x10_0)))))) (by kernel_rfl)) hcq5 ?_
                  obtain ⟨t9, ht9, h⟩ := Option.bind_eq_some_iff.mp h
                  refine RunF.call (d := some 37) (g := 22) (args := #[.int .u32 x2_0, .int .u32 (rd a0.2 (I64 (31 - (I64 (31 - x10_0)))))]) (k2 := (pin Go.Proofs.Try.f38 [1, 0, 1, 0, 0, 1, 0, 0, 1, 1, 1, 1] 11)) (by kernel_rfl) (scrimref8_G.calls k x2_0 (rd a0.2 (I64 (31 - (I64 (31 - x10_0))))) t9 _ ht9) ?_
                  rintro _ W8 ⟨rfl, hM_⟩
                  replace hM := hM.call hM_
                  clear hM_ ht9
                  refine RunF.go 11 [0, 1, 2, 3, 10] (k' := (pl Go.Proofs.Try.f38 [1, 0, 1, 0, 0])) (L' := [(0, .pointer (some ⟨gp0, 0, none⟩)), (1, .int .u32 x2_0), (2, .int .u32 (bxor .u32 x1_0 t9)), (3, .bool a3), (10, .int .i64 (I64 (x10_0 + 1)))]) (w' := W8) (by kernel_rfl) ?_
                  exact ih0 k (by omega) x2_0 (bxor .u32 x1_0 t9) (I64 (x10_0 + 1)) _ (hM.pick [] rfl rfl) h
                · replace h := of_false h c7
                  cases h
              · replace h := of_false h c6
                cases h
            · replace h := of_false h c4
              refine RunF.know 24 (b := false) (by kernel_rfl) c4 ?_
              refine RunF.go 9 [0, 3, 10, 12, 27, 28, 29, 32] (k' := (pin Go.Proofs.Try.f38 [1, 0, 1, 0, 0, 1, 0, 0, 1, 1, 1, 1] 6)) (L' := [(0, .pointer (some ⟨gp0, 0, none⟩)), (3, .bool a3), (10, .int .i64 x10_0), (12, .int .i64 (Int.tmod (I64 (31 - x10_0)) 8)), (27, .int .u32 x2_0), (28, .int .u32 x1_0), (29, .int .u32 x2_0), (32, .pointer (some ⟨gp0, 1, none⟩))]) (w' := W) (by kernel_rfl) ?_
              refine RunF.y (ld_y (d := some 33) (p := ⟨gp0, 1, none⟩) (k2 := (pin Go.Proofs.Try.f38 [1, 0, 1, 0, 0, 1, 0, 0, 1, 1, 1, 1] 7)) (.slice Ao1_1 a0.2.length co1_1) (by kernel_rfl)) (hco1 _ (hZp0 _ hM.kept) 1 _ rfl) ?_
              refine RunF.go 1 [0, 3, 10, 27, 28, 29, 33, 34] (k' := (pin Go.Proofs.Try.f38 [1, 0, 1, 0, 0, 1, 0, 0, 1, 1, 1, 1] 8)) (L' := [(0, .pointer (some ⟨gp0, 0, none⟩)), (3, .bool a3), (10, .int .i64 x10_0), (27, .int .u32 x2_0), (28, .int .u32 x1_0), (29, .int .u32 x2_0), (33, .slice Ao1_1 a0.2.length co1_1), (34, .int .i64 (Int.tmod (I64 (31 - x10_0)) 8))]) (w' := W) (by kernel_rfl) ?_
              rcases two (decide (0 ≤ (Int.tmod (I64 (31 - x10_0)) 8))) with c11 | c11
              · replace h := of_true h c11
                rcases two (decide ((Int.tmod (I64 (31 - x10_0)) 8) < (a0.2.length : Int))) with c12 | c12
                · replace h := of_true h c12
                  obtain ⟨q10, hAq10, hcq10⟩ := Rd.num (ho1_1 _ (hZp0 _ hM.kept)) (i := Int.tmod (I64 (31 - x10_0)) 8) (of_decide_eq_true c11) (by have h_ := of_decide_eq_true c12; omega)
                  refine RunF.y (idx_y (d := some 35) (A := Ao1_1) (m := a0.2.length) (i := Int.tmod (I64 (31 - x10_0)) 8) (k2 := (pin Go.Proofs.Try.f38 [1, 0, 1, 0, 0, 1, 0, 0, 1, 1, 1, 1] 9)) (by kernel_rfl) (of_decide_eq_true c11) (by have h_ := of_decide_eq_true c12; omega) hAq10) trivial ?_
                  refine RunF.y (ld_y (d := some 36) (p := (q10.add (Int.tmod (I64 (31 - x10_0)) 8 : Int).toNat)) (k2 := (pin Go.Proofs.Try.f38 [1, 0, 1, 0, 0, 1, 0, 0, 1, 1, 1, 1] 10)) (.int .u32 (rd a0.2 (Int.tmod (I64 (31 - x10_0)) 8))) (by kernel_rfl)) hcq10 ?_
                  obtain ⟨t14, ht14, h⟩ := Option.bind_eq_some_iff.mp h
                  refine RunF.call (d := some 37) (g := 22) (args := #[.int .u32 x2_0, .int .u32 (rd a0.2 (Int.tmod (I64 (31 - x10_0)) 8))]) (k2 := (pin Go.Proofs.Try.f38 [1, 0, 1, 0, 0, 1, 0, 0, 1, 1, 1, 1] 11)) (by kernel_rfl) (scrimref8_G.calls k x2_0 (rd a0.2 (Int.tmod (I64 (31 - x10_0)) 8)) t14 _ ht14) ?_
                  rintro _ W13 ⟨rfl, hM_⟩
                  replace hM := hM.call hM_
                  clear hM_ ht14
                  refine RunF.go 11 [0, 1, 2, 3, 10] (k' := (pl Go.Proofs.Try.f38 [1, 0, 1, 0, 0])) (L' := [(0, .pointer (some ⟨gp0, 0, none⟩)), (1, .int .u32 x2_0), (2, .int .u32 (bxor .u32 x1_0 t14)), (3, .bool a3), (10, .int .i64 (I64 (x10_0 + 1)))]) (w' := W13) (by kernel_rfl) ?_
                  exact ih0 k (by omega) x2_0 (bxor .u32 x1_0 t14) (I64 (x10_0 + 1)) _ (hM.pick [] rfl rfl) h
                · replace h := of_false h c12
                  cases h
              · replace h := of_false h c11
                cases h
          · replace h := of_false h c3
            refine RunF.know 18 (b := false) (by kernel_rfl) c3 ?_
            refine RunF.go 14 [0, 1, 2, 3, 10, 11, 12, 24] (k' := (pl Go.Proofs.Try.f38 [1, 0, 1, 0, 0, 1, 0, 0, 1, 1, 1, 0, 1])) (L' := [(0, .pointer (some ⟨gp0, 0, none⟩)), (1, .int .u32 x1_0), (2, .int .u32 x2_0), (3, .bool a3), (10, .int .i64 x10_0), (11, .int .i64 x10_0), (12, .int .i64 (Int.tmod x10_0 8)), (24, .bool (decide (x10_0 ≥ 24)))]) (w' := W) (by kernel_rfl) ?_
            rcases two (decide (x10_0 ≥ 24)) with c15 | c15
            · replace h := of_true h c15
              refine RunF.know 24 (b := true) (by kernel_rfl) c15 ?_
              refine RunF.go 13 [0, 3, 10, 12, 27, 28, 29, 32] (k' := (pin Go.Proofs.Try.f38 [1, 0, 1, 0, 0, 1, 0, 0, 1, 1, 1, 1] 6)) (L' := [(0, .pointer (some ⟨gp0, 0, none⟩)), (3, .bool a3), (10, .int .i64 x10_0), (12, .int .i64 (I64 (31 - x10_0))), (27, .int .u32 x2_0), (28, .int .u32 x1_0), (29, .int .u32 x2_0), (32, .pointer (some ⟨gp0, 1, none⟩))]) (w' := W) (by kernel_rfl) ?_
              refine RunF.y (ld_y (d := some 33) (p := ⟨gp0, 1, none⟩) (k2 := (pin Go.Proofs.Try.f38 [1, 0, 1, 0, 0, 1, 0, 0, 1, 1, 1, 1] 7)) (.slice Ao1_1 a0.2.length co1_1) (by kernel_rfl)) (hco1 _ (hZp0 _ hM.kept) 1 _ rfl) ?_
              refine RunF.go 1 [0, 3, 10, 27, 28, 29, 33, 34] (k' := (pin Go.Proofs.Try.f38 [1, 0, 1, 0, 0, 1, 0, 0, 1, 1, 1, 1] 8)) (L' := [(0, .pointer (some ⟨gp0, 0, none⟩)), (3, .bool a3), (10, .int .i64 x10_0), (27, .int .u32 x2_0), (28, .int .u32 x1_0), (29, .int .u32 x2_0), (33, .slice Ao1_1 a0.2.length co1_1), (34, .int .i64 (I64 (31 - x10_0)))]) (w' := W) (by kernel_rfl) ?_
              rcases two (decide (0 ≤ (I64 (31 - x10_0)))) with c17 | c17
              · replace h := of_true h c17
                rcases two (decide ((I64 (31 - x10_0)) < (a0.2.length : Int))) with c18 | c18
                · replace h := of_true h c18
                  obtain ⟨q16, hAq16, hcq16⟩ := Rd.num (ho1_1 _ (hZp0 _ hM.kept)) (i := I64 (31 - x10_0)) (of_decide_eq_true c17) (by have h_ := of_decide_eq_true c18; omega)
                  refine RunF.y (idx_y (d := some 35) (A := Ao1_1) (m := a0.2.length) (i := I64 (31 - x10_0)) (k2 := (pin Go.Proofs.Try.f38 [1, 0, 1, 0, 0, 1, 0, 0, 1, 1, 1, 1] 9)) (by kernel_rfl) (of_decide_eq_true c17) (by have h_ := of_decide_eq_true c18; omega) hAq16) trivial ?_
                  refine RunF.y (ld_y (d := some 36) (p := (q16.add (I64 (31 - x10_0) : Int).toNat)) (k2 := (pin Go.Proofs.Try.f38 [1, 0, 1, 0, 0, 1, 0, 0, 1, 1, 1, 1] 10)) (.int .u32 (rd a0.2 (I64 (31 - x10_0)))) (by kernel_rfl)) hcq16 ?_
                  obtain ⟨t20, ht20, h⟩ := Option.bind_eq_some_iff.mp h
                  refine RunF.call (d := some 37) (g := 22) (args := #[.int .u32 x2_0, .int .u32 (rd a0.2 (I64 (31 - x10_0)))]) (k2 := (pin Go.Proofs.Try.f38 [1, 0, 1, 0, 0, 1, 0, 0, 1, 1, 1, 1] 11)) (by kernel_rfl) (scrimref8_G.calls k x2_0 (rd a0.2 (I64 (31 - x10_0))) t20 _ ht20) ?_
                  rintro _ W19 ⟨rfl, hM_⟩
                  replace hM := hM.call hM_
                  clear hM_ ht20
                  refine RunF.go 11 [0, 1, 2, 3, 10] (k' := (pl Go.Proofs.Try.f38 [1, 0, 1, 0, 0])) (L' := [(0, .pointer (some ⟨gp0, 0, none⟩)), (1, .int .u32 x2_0), (2, .int .u32 (bxor .u32 x1_0 t20)), (3, .bool a3), (10, .int .i64 (I64 (x10_0 + 1)))]) (w' := W19) (by kernel_rfl) ?_
                  exact ih0 k (by omega) x2_0 (bxor .u32 x1_0 t20) (I64 (x10_0 + 1)) _ (hM.pick [] rfl rfl) h
                · replace h := of_false h c18
                  cases h
              · replace h := of_false h c17
                cases h
            · replace h := of_false h c15
              refine RunF.know 24 (b := false) (by kernel_rfl) c15 ?_
              refine RunF.go 9 [0, 3, 10, 12, 27, 28, 29, 32] (k' := (pin Go.Proofs.Try.f38 [1, 0, 1, 0, 0, 1, 0, 0, 1, 1, 1, 1] 6)) (L' := [(0, .pointer (some ⟨gp0, 0, none⟩)), (3, .bool a3), (10, .int .i64 x10_0), (12, .int .i64 (Int.tmod x10_0 8)), (27, .int .u32 x2_0), (28, .int .u32 x1_0), (29, .int .u32 x2_0), (32, .pointer (some ⟨gp0, 1, none⟩))]) (w' := W) (by kernel_rfl) ?_
              refine RunF.y (ld_y (d := some 33) (p := ⟨gp0, 1, none⟩) (k2 := (pin Go.Proofs.Try.f38 [1, 0, 1, 0, 0, 1, 0, 0, 1, 1, 1, 1] 7)) (.slice Ao1_1 a0.2.length co1_1) (by kernel_rfl)) (hco1 _ (hZp0 _ hM.kept) 1 _ rfl) ?_
              refine RunF.go 1 [0, 3, 10, 27, 28, 29, 33, 34] (k' := (pin Go.Proofs.Try.f38 [1, 0, 1, 0, 0, 1, 0, 0, 1, 1, 1, 1] 8)) (L' := [(0, .pointer (some ⟨gp0, 0, none⟩)), (3, .bool a3), (10, .int .i64 x10_0), (27, .int .u32 x2_0), (28, .int .u32 x1_0), (29, .int .u32 x2_0), (33, .slice Ao1_1 a0.2.length co1_1), (34, .int .i64 (Int.tmod x10_0 8))]) (w' := W) (by kernel_rfl) ?_
              rcases two (decide (0 ≤ (Int.tmod x10_0 8))) with c22 | c22
              · replace h := of_true h c22
                rcases two (decide ((Int.tmod x10_0 8) < (a0.2.length : Int))) with c23 | c23
                · replace h := of_true h c23
                  obtain ⟨q21, hAq21, hcq21⟩ := Rd.num (ho1_1 _ (hZp0 _ hM.kept)) (i := Int.tmod x10_0 8) (of_decide_eq_true c22) (by have h_ := of_decide_eq_true c23; omega)
                  refine RunF.y (idx_y (d := some 35) (A := Ao1_1) (m := a0.2.length) (i := Int.tmod x10_0 8) (k2 := (pin Go.Proofs.Try.f38 [1, 0, 1, 0, 0, 1, 0, 0, 1, 1, 1, 1] 9)) (by kernel_rfl) (of_decide_eq_true c22) (by have h_ := of_decide_eq_true c23; omega) hAq21) trivial ?_
                  refine RunF.y (ld_y (d := some 36) (p := (q21.add (Int.tmod x10_0 8 : Int).toNat)) (k2 := (pin Go.Proofs.Try.f38 [1, 0, 1, 0, 0, 1, 0, 0, 1, 1, 1, 1] 10)) (.int .u32 (rd a0.2 (Int.tmod x10_0 8))) (by kernel_rfl)) hcq21 ?_
                  obtain ⟨t25, ht25, h⟩ := Option.bind_eq_some_iff.mp h
                  refine RunF.call (d := some 37) (g := 22) (args := #[.int .u32 x2_0, .int .u32 (rd a0.2 (Int.tmod x10_0 8))]) (k2 := (pin Go.Proofs.Try.f38 [1, 0, 1, 0, 0, 1, 0, 0, 1, 1, 1, 1] 11)) (by kernel_rfl) (scrimref8_G.calls k x2_0 (rd a0.2 (Int.tmod x10_0 8)) t25 _ ht25) ?_
                  rintro _ W24 ⟨rfl, hM_⟩
                  replace hM := hM.call hM_
                  clear hM_ ht25
                  refine RunF.go 11 [0, 1, 2, 3, 10] (k' := (pl Go.Proofs.Try.f38 [1, 0, 1, 0, 0])) (L' := [(0, .pointer (some ⟨gp0, 0, none⟩)), (1, .int .u32 x2_0), (2, .int .u32 (bxor .u32 x1_0 t25)), (3, .bool a3), (10, .int .i64 (I64 (x10_0 + 1)))]) (w' := W24) (by kernel_rfl) ?_
                  exact ih0 k (by omega) x2_0 (bxor .u32 x1_0 t25) (I64 (x10_0 + 1)) _ (hM.pick [] rfl rfl) h
                · replace h := of_false h c23
                  cases h
              · replace h := of_false h c22
                cases h
        · replace h := of_false h c2
          refine RunF.know 14 (b := false) (by kernel_rfl) c2 ?_
          refine RunF.go 9 [8, 9] (k' := (pl Go.Proofs.Try.f38 [1, 1, 1])) (L' := [(8, .int .u32 x2_0), (9, .int .u32 x1_0)]) (w' := W) (by kernel_rfl) ?_
          obtain rfl := Option.some.inj h
          exact RunF.ret2 8 9 (.int .u32 x2_0) (.int .u32 x1_0) (fn := Go.Proofs.Try.f38) Go.Proofs.Try.func38 (by kernel_rfl) (by kernel_rfl) (by kernel_rfl) (by kernel_rfl) ⟨_, rfl, rfl, (hM.pick [] rfl rfl)⟩
  exact l0 k (Nat.le_refl _) a1 a2 0 _ (hM.pick [] rfl rfl) h

/-! ### (*scrim/scrimref8.Small).Block: function 19 -/
def scrimref8_Small_Block.f (k : Nat) (a0 : (Int × (List Int))) (a1 : List Int) (a2 : Bool) : Option (List Int × Int) := if ((a1.length : Int) != 8) = true then (some (([] : List Int), 1)) else (if (a0.1 == 8) = true then ((scrimref8_little.f k a1).bind fun t6 => (if (decide (0 < (t6.length : Int))) = true then (if (decide (1 < (t6.length : Int))) = true then ((scrimref8_Small_rc5.f k a0 (rd t6 0) (rd t6 1) a2).bind fun t18 => ((scrimref1_PutLe32.f k t18.1).bind fun t20 => ((scrimref1_PutLe32.f k t18.2).bind fun t26 => (if (decide (t20.length + t26.length ≤ 1000000000)) = true then (some ((t20 ++ t26), 0)) else (none))))) else (none)) else (none))) else ((scrimref8_big.f k a1).bind fun t38 => (if (decide (0 < (t38.length : Int))) = true then (if (decide (1 < (t38.length : Int))) = true then (if (a0.1 == 4) = true then ((scrimref8_Small_xtea.f k a0 (rd t38 0) (rd t38 1) a2).bind fun t51 => ((scrimref1_PutBe32.f k t51.1).bind fun t53 => ((scrimref1_PutBe32.f k t51.2).bind fun t59 => (if (decide (t53.length + t59.length ≤ 1000000000)) = true then (some ((t53 ++ t59), 0)) else (none))))) else ((scrimref8_Small_magma.f k a0 (rd t38 0) (rd t38 1) a2).bind fun t71 => ((scrimref1_PutBe32.f k t71.1).bind fun t73 => ((scrimref1_PutBe32.f k t71.2).bind fun t79 => (if (decide (t73.length + t79.length ≤ 1000000000)) = true then (some ((t73 ++ t79), 0)) else (none)))))) else (none)) else (none))))
set_option maxRecDepth 100000 in
set_option maxHeartbeats 8000000 in
theorem scrimref8_Small_Block.calls (k : Nat) (vp0 : Value) (Zp0 : Zp) (a0 : (Int × (List Int))) (Ap1 : Option Addr) (np1 cp1 : Nat) (a1 : List Int) (a2 : Bool) (r : List Int × Int) (w : World) (hr1 : Rd w (.slice Ap1 np1 cp1) (nums .u8 a1)) (hp0 : (rPtr Rs_scrimref8_Small) Zp0 vp0 a0) (hZp0 : ∀ W, Kept w W → Zp0 W) (h : scrimref8_Small_Block.f k a0 a1 a2 = some r) :
    Calls Go.Proofs.Try.prog 19 #[vp0, (.slice Ap1 np1 cp1), .bool a2] w (Ret fun v w' => ∃ A0' n0' c0', v = .tuple #[.slice A0' n0' c0', .int .i64 r.2] ∧ Mem w w' [⟨.slice A0' n0' c0', 5, 1, nums .u8 r.1⟩]) := by
  obtain rfl : a1.length = np1 := by have h_ := hr1.1; simpa [nums_length, bools_length, strs_length] using h_
  obtain ⟨gp0, _, rfl, hco1, _, _, rfl, rfl, ⟨Ao1_1, co1_1, rfl, ho1_1⟩⟩ := id hp0
  unfold scrimref8_Small_Block.f at h
  refine calls_of [.pointer (some ⟨gp0, 0, none⟩), .slice Ap1 a1.length cp1, .bool a2] (fn := Go.Proofs.Try.f19) Go.Proofs.Try.func19 (by kernel_rfl) (by kernel_rfl) ?_
  have hM := Mem.refl w
  refine RunF.go 12 [0, 1, 2, 16] (k' := (pl Go.Proofs.Try.f19 [1, 0, 1])) (L' := [(0, .pointer (some ⟨gp0, 0, none⟩)), (1, .slice Ap1 a1.length cp1), (2, .bool a2), (16, .bool ((a1.length : Int) != 8))]) (w' := w) (by kernel_rfl) ?_
  rcases two (((a1.length : Int) != 8)) with c2 | c2
  · replace h := of_true h c2
    refine RunF.know 16 (b := true) (by kernel_rfl) c2 ?_
    refine RunF.go 6 [6, 7] (k' := (pl Go.Proofs.Try.f19 [1, 0, 1, 0, 1])) (L' := [(6, .slice none 0 0), (7, .int .i64 1)]) (w' := w) (by kernel_rfl) ?_
    replace hM := hM.nil 5
    obtain rfl := Option.some.inj h
    exact RunF.ret2 6 7 (.slice none 0 0) (.int .i64 1) (fn := Go.Proofs.Try.f19) Go.Proofs.Try.func19 (by kernel_rfl) (by kernel_rfl) (by kernel_rfl) (by kernel_rfl) ⟨_, rfl, none, 0, 0, rfl, (hM.pick [0] rfl rfl)⟩
  · replace h := of_false h c2
    refine RunF.know 16 (b := false) (by kernel_rfl) c2 ?_
    refine RunF.go 8 [0, 1, 2, 19] (k' := (pin Go.Proofs.Try.f19 [1, 1, 0, 0] 3)) (L' := [(0, .pointer (some ⟨gp0, 0, none⟩)), (1, .slice Ap1 a1.length cp1), (2, .bool a2), (19, .pointer (some ⟨gp0, 0, none⟩))]) (w' := w) (by kernel_rfl) ?_
    refine RunF.y (ld_y (d := some 20) (p := ⟨gp0, 0, none⟩) (k2 := (pin Go.Proofs.Try.f19 [1, 1, 0, 0] 4)) (.int .i64 a0.1) (by kernel_rfl)) (hco1 _ (hZp0 _ hM.kept) 0 _ rfl) ?_
    refine RunF.go 2 [0, 1, 2, 21] (k' := (pl Go.Proofs.Try.f19 [1, 1, 0, 1])) (L' := [(0, .pointer (some ⟨gp0, 0, none⟩)), (1, .slice Ap1 a1.length cp1), (2, .bool a2), (21, .bool (a0.1 == 8))]) (w' := w) (by kernel_rfl) ?_
    rcases two ((a0.1 == 8)) with c4 | c4
    · replace h := of_true h c4
      refine RunF.know 21 (b := true) (by kernel_rfl) c4 ?_
      refine RunF.go 4 [0, 2, 22] (k' := (pin Go.Proofs.Try.f19 [1, 1, 0, 1, 0, 0] 1)) (L' := [(0, .pointer (some ⟨gp0, 0, none⟩)), (2, .bool a2), (22, .slice Ap1 a1.length cp1)]) (w' := w) (by kernel_rfl) ?_
      obtain ⟨t6, ht6, h⟩ := Option.bind_eq_some_iff.mp h
      refine RunF.call (d := some 23) (g := 34) (args := #[.slice Ap1 a1.length cp1]) (k2 := (pin Go.Proofs.Try.f19 [1, 1, 0, 1, 0, 0] 2)) (by kernel_rfl) (scrimref8_little.calls k Ap1 a1.length cp1 a1 t6 _ (hr1.mono hM.below) ht6) ?_
      rintro _ W5 ⟨A7, n8, c9, rfl, hM_⟩
      obtain rfl : t6.length = n8 := by have h_ := (hM_.rd 0 rfl).1; simpa [nums_length, bools_length, strs_length] using h_
      replace hM := hM.call hM_
      clear hM_ ht6
      refine RunF.go 3 [0, 2, 8] (k' := (pl Go.Proofs.Try.f19 [1, 1, 0, 1, 0, 1, 0])) (L' := [(0, .pointer (some ⟨gp0, 0, none⟩)), (2, .bool a2), (8, .slice A7 t6.length c9)]) (w' := W5) (by kernel_rfl) ?_
      refine RunF.draw (Still ({ W5 with drawn := W5.drawn + 1 } : World) []) (by kernel_rfl) (by kernel_rfl) ?_
      have hMd12 := hM.drew
      have hS := Still.refl ({ W5 with drawn := W5.drawn + 1 } : World) []
      generalize ({ W5 with drawn := W5.drawn + 1 } : World) = W11 at hMd12 hS ⊢
      replace hM := hMd12
      refine RunAny.y 0 (by kernel_rfl) (yl_pure (d := some 25) (v := .pointer (some ⟨gp0, 0, none⟩)) (k2 := [.inRegion (opsOf (pl Go.Proofs.Try.f19 [1, 1, 0, 1, 0, 1, 0])) []]) fun w => by kernel_rfl) (fun _ _ => trivial) hS ?_
      refine RunAny.y 1 (by kernel_rfl) (yl_pure (d := some 26) (v := .slice A7 t6.length c9) (k2 := [.inRegion (opsOf (pl Go.Proofs.Try.f19 [1, 1, 0, 1, 0, 1, 0])) []]) fun w => by kernel_rfl) (fun _ _ => trivial) hS ?_
      rcases two (decide (0 < (t6.length : Int))) with c14 | c14
      · replace h := of_true h c14
        obtain ⟨q13, hAq13, hcq13, hfq13, hlq13⟩ := hM.num_at 0 rfl (i := 0) (by omega) (by have h_ := of_decide_eq_true c14; omega)
        refine RunAny.y 2 (by kernel_rfl) (idx_own (d := some 27) (A := A7) (m := t6.length) (i := 0) (k2 := [.inRegion (opsOf (pl Go.Proofs.Try.f19 [1, 1, 0, 1, 0, 1, 0])) []]) (by kernel_rfl) (by omega) (by have h_ := of_decide_eq_true c14; omega) hAq13) (fun _ _ => trivial) hS ?_
        refine RunAny.y 3 (by kernel_rfl) (ld_y (d := some 28) (p := ⟨q13, (0 : Int).toNat, none⟩) (k2 := [.inRegion (opsOf (pl Go.Proofs.Try.f19 [1, 1, 0, 1, 0, 1, 0])) []]) (.int .u32 (rd t6 0)) (by kernel_rfl)) (fun _ hs => hs.cell hcq13 (by simp)) hS ?_
        refine RunAny.y 4 (by kernel_rfl) (yl_pure (d := some 29) (v := .slice A7 t6.length c9) (k2 := [.inRegion (opsOf (pl Go.Proofs.Try.f19 [1, 1, 0, 1, 0, 1, 0])) []]) fun w => by kernel_rfl) (fun _ _ => trivial) hS ?_
        rcases two (decide (1 < (t6.length : Int))) with c16 | c16
        · replace h := of_true h c16
          obtain ⟨q15, hAq15, hcq15, hfq15, hlq15⟩ := hM.num_at 0 rfl (i := 1) (by omega) (by have h_ := of_decide_eq_true c16; omega)
          refine RunAny.y 5 (by kernel_rfl) (idx_own (d := some 30) (A := A7) (m := t6.length) (i := 1) (k2 := [.inRegion (opsOf (pl Go.Proofs.Try.f19 [1, 1, 0, 1, 0, 1, 0])) []]) (by kernel_rfl) (by omega) (by have h_ := of_decide_eq_true c16; omega) hAq15) (fun _ _ => trivial) hS ?_
          refine RunAny.y 6 (by kernel_rfl) (ld_y (d := some 31) (p := ⟨q15, (1 : Int).toNat, none⟩) (k2 := [.inRegion (opsOf (pl Go.Proofs.Try.f19 [1, 1, 0, 1, 0, 1, 0])) []]) (.int .u32 (rd t6 1)) (by kernel_rfl)) (fun _ hs => hs.cell hcq15 (by simp)) hS ?_
          refine RunAny.y 7 (by kernel_rfl) (yl_pure (d := some 32) (v := .bool a2) (k2 := [.inRegion (opsOf (pl Go.Proofs.Try.f19 [1, 1, 0, 1, 0, 1, 0])) []]) fun w => by kernel_rfl) (fun _ _ => trivial) hS ?_
          obtain ⟨t18, ht18, h⟩ := Option.bind_eq_some_iff.mp h
          refine RunAny.call 8 (d := some 33) (g := 35) (args := #[.pointer (some ⟨gp0, 0, none⟩), .int .u32 (rd t6 0), .int .u32 (rd t6 1), .bool a2]) (by kernel_rfl) (by kernel_rfl) (scrimref8_Small_rc5.calls k (.pointer (some ⟨gp0, 0, none⟩)) Zp0 a0 (rd t6 0) (rd t6 1) a2 t18 _ hp0 (fun _ hb_ => (hZp0 _ (hM.kept.trans hb_))) ht18) (by rintro _ _ ⟨rfl, hM_⟩; exact hS.below hM_.below) ?_
          rintro _ W17 ⟨rfl, hM_⟩
          replace hS := hS.below hM_.below
          replace hM := hM.call hM_
          clear hM_ ht18
          refine RunAny.rebase hS ?_
          replace hS := Still.refl W17 []
          refine RunAny.y 9 (by kernel_rfl) (yl_pure (d := some 24) (v := .tuple #[.int .u32 t18.1, .int .u32 t18.2]) (k2 := [.inRegion (opsOf (pl Go.Proofs.Try.f19 [1, 1, 0, 1, 0, 1, 0])) []]) fun w => by kernel_rfl) (fun _ _ => trivial) hS ?_
          refine RunAny.y 10 (by kernel_rfl) (yl_pure (d := some 34) (v := .int .u32 t18.1) (k2 := [.inRegion (opsOf (pl Go.Proofs.Try.f19 [1, 1, 0, 1, 0, 1, 0])) []]) fun w => by kernel_rfl) (fun _ _ => trivial) hS ?_
          refine RunAny.y 11 (by kernel_rfl) (yl_pure (d := some 35) (v := .int .u32 t18.2) (k2 := [.inRegion (opsOf (pl Go.Proofs.Try.f19 [1, 1, 0, 1, 0, 1, 0])) []]) fun w => by kernel_rfl) (fun _ _ => trivial) hS ?_
          refine RunAny.y 12 (by kernel_rfl) (yl_pure (d := some 9) (v := .int .u32 t18.1) (k2 := [.inRegion (opsOf (pl Go.Proofs.Try.f19 [1, 1, 0, 1, 0, 1, 0])) []]) fun w => by kernel_rfl) (fun _ _ => trivial) hS ?_
          refine RunAny.y 13 (by kernel_rfl) (yl_pure (d := some 10) (v := .int .u32 t18.2) (k2 := [.inRegion (opsOf (pl Go.Proofs.Try.f19 [1, 1, 0, 1, 0, 1, 0])) []]) fun w => by kernel_rfl) (fun _ _ => trivial) hS ?_
          refine RunAny.done (by kernel_rfl) ?_
          clear hS
          refine RunF.go 3 [10, 36] (k' := (pin Go.Proofs.Try.f19 [1, 1, 0, 1, 0, 1, 1, 0] 1)) (L' := [(10, .int .u32 t18.2), (36, .int .u32 t18.1)]) (w' := W17) (by kernel_rfl) ?_
          obtain ⟨t20, ht20, h⟩ := Option.bind_eq_some_iff.mp h
          refine RunF.call (d := some 37) (g := 36) (args := #[.int .u32 t18.1]) (k2 := (pin Go.Proofs.Try.f19 [1, 1, 0, 1, 0, 1, 1, 0] 2)) (by kernel_rfl) (scrimref1_PutLe32.calls k t18.1 t20 _ ht20) ?_
          rintro _ W19 ⟨A21, n22, c23, rfl, hM_⟩
          obtain rfl : t20.length = n22 := by have h_ := (hM_.rd 0 rfl).1; simpa [nums_length, bools_length, strs_length] using h_
          replace hM := hM.call hM_
          clear hM_ ht20
          refine RunF.go 1 [37, 38] (k' := (pin Go.Proofs.Try.f19 [1, 1, 0, 1, 0, 1, 1, 0] 3)) (L' := [(37, .slice A21 t20.length c23), (38, .int .u32 t18.2)]) (w' := W19) (by kernel_rfl) ?_
          obtain ⟨t26, ht26, h⟩ := Option.bind_eq_some_iff.mp h
          refine RunF.call (d := some 39) (g := 36) (args := #[.int .u32 t18.2]) (k2 := (pin Go.Proofs.Try.f19 [1, 1, 0, 1, 0, 1, 1, 0] 4)) (by kernel_rfl) (scrimref1_PutLe32.calls k t18.2 t26 _ ht26) ?_
          rintro _ W25 ⟨A27, n28, c29, rfl, hM_⟩
          obtain rfl : t26.length = n28 := by have h_ := (hM_.rd 0 rfl).1; simpa [nums_length, bools_length, strs_length] using h_
          replace hM := hM.call hM_
          clear hM_ ht26
          rcases two (decide (t20.length + t26.length ≤ 1000000000)) with c35 | c35
          · replace h := of_true h c35
            have h_ := of_decide_eq_true c35
            obtain ⟨A31, n32, c33, W34, hD, hM', hS_⟩ := app_does (P := Go.Proofs.Try.prog) (n := 75) (k := (pin Go.Proofs.Try.f19 [1, 1, 0, 1, 0, 1, 1, 0] 4)) (L := (upd [(37, .slice A21 t20.length c23), (38, .int .u32 t18.2)] (some 39) (.slice A27 t26.length c29))) (d := some 40) (e := 5) (A := A21) (m := t20.length) (c := c23) (A2 := A27) (m2 := t26.length) (c2 := c29) (cs := nums .u8 t20) (ys := nums .u8 t26) (k2 := (pin Go.Proofs.Try.f19 [1, 1, 0, 1, 0, 1, 1, 0] 5)) [⟨.slice A27 t26.length c29, 5, 1, nums .u8 t26⟩] [⟨.slice A7 t6.length c9, 43, 1, nums .u32 t6⟩] (by kernel_rfl) (hM.pick [0, 1, 2] rfl rfl) (hM.rd 0 rfl) (one_nums _ _) (by omega)
            rw [nums_append] at hM'
            replace hM := hM'; clear h_ hM'
            obtain rfl : (t20 ++ t26).length = n32 := by have h_ := (hM.rd 1 rfl).1; simpa only [nums_length, bools_length, strs_length] using h_
            refine RunF.does hD ?_
            clear hD hS_
            refine RunF.go 3 [6, 7] (k' := (pl Go.Proofs.Try.f19 [1, 1, 0, 1, 0, 1, 1, 1])) (L' := [(6, .slice A31 ((t20 ++ t26).length) c33), (7, .int .i64 0)]) (w' := W34) (by kernel_rfl) ?_
            obtain rfl := Option.some.inj h
            exact RunF.ret2 6 7 (.slice A31 ((t20 ++ t26).length) c33) (.int .i64 0) (fn := Go.Proofs.Try.f19) Go.Proofs.Try.func19 (by kernel_rfl) (by kernel_rfl) (by kernel_rfl) (by kernel_rfl) ⟨_, rfl, A31, (t20 ++ t26).length, c33, rfl, (hM.pick [1] rfl rfl)⟩
          · replace h := of_false h c35
            cases h
        · replace h := of_false h c16
          cases h
      · replace h := of_false h c14
        cases h
    · replace h := of_false h c4
      refine RunF.know 21 (b := false) (by kernel_rfl) c4 ?_
      refine RunF.go 5 [0, 2, 41] (k' := (pin Go.Proofs.Try.f19 [1, 1, 1, 0] 1)) (L' := [(0, .pointer (some ⟨gp0, 0, none⟩)), (2, .bool a2), (41, .slice Ap1 a1.length cp1)]) (w' := w) (by kernel_rfl) ?_
      obtain ⟨t38, ht38, h⟩ := Option.bind_eq_some_iff.mp h
      refine RunF.call (d := some 42) (g := 29) (args := #[.slice Ap1 a1.length cp1]) (k2 := (pin Go.Proofs.Try.f19 [1, 1, 1, 0] 2)) (by kernel_rfl) (scrimref8_big.calls k Ap1 a1.length cp1 a1 t38 _ (hr1.mono hM.below) ht38) ?_
      rintro _ W37 ⟨A39, n40, c41, rfl, hM_⟩
      obtain rfl : t38.length = n40 := by have h_ := (hM_.rd 0 rfl).1; simpa [nums_length, bools_length, strs_length] using h_
      replace hM := hM.call hM_
      clear hM_ ht38
      refine RunF.go 3 [0, 2, 11] (k' := (pl Go.Proofs.Try.f19 [1, 1, 1, 1, 0])) (L' := [(0, .pointer (some ⟨gp0, 0, none⟩)), (2, .bool a2), (11, .slice A39 t38.length c41)]) (w' := W37) (by kernel_rfl) ?_
      refine RunF.draw (Still ({ W37 with drawn := W37.drawn + 1 } : World) []) (by kernel_rfl) (by kernel_rfl) ?_
      have hMd44 := hM.drew
      have hS := Still.refl ({ W37 with drawn := W37.drawn + 1 } : World) []
      generalize ({ W37 with drawn := W37.drawn + 1 } : World) = W43 at hMd44 hS ⊢
      replace hM := hMd44
      refine RunAny.y 0 (by kernel_rfl) (yl_pure (d := some 43) (v := .slice A39 t38.length c41) (k2 := [.inRegion (opsOf (pl Go.Proofs.Try.f19 [1, 1, 1, 1, 0])) []]) fun w => by kernel_rfl) (fun _ _ => trivial) hS ?_
      rcases two (decide (0 < (t38.length : Int))) with c46 | c46
      · replace h := of_true h c46
        obtain ⟨q45, hAq45, hcq45, hfq45, hlq45⟩ := hM.num_at 0 rfl (i := 0) (by omega) (by have h_ := of_decide_eq_true c46; omega)
        refine RunAny.y 1 (by kernel_rfl) (idx_own (d := some 44) (A := A39) (m := t38.length) (i := 0) (k2 := [.inRegion (opsOf (pl Go.Proofs.Try.f19 [1, 1, 1, 1, 0])) []]) (by kernel_rfl) (by omega) (by have h_ := of_decide_eq_true c46; omega) hAq45) (fun _ _ => trivial) hS ?_
        refine RunAny.y 2 (by kernel_rfl) (ld_y (d := some 45) (p := ⟨q45, (0 : Int).toNat, none⟩) (k2 := [.inRegion (opsOf (pl Go.Proofs.Try.f19 [1, 1, 1, 1, 0])) []]) (.int .u32 (rd t38 0)) (by kernel_rfl)) (fun _ hs => hs.cell hcq45 (by simp)) hS ?_
        refine RunAny.y 3 (by kernel_rfl) (yl_pure (d := some 46) (v := .slice A39 t38.length c41) (k2 := [.inRegion (opsOf (pl Go.Proofs.Try.f19 [1, 1, 1, 1, 0])) []]) fun w => by kernel_rfl) (fun _ _ => trivial) hS ?_
        rcases two (decide (1 < (t38.length : Int))) with c48 | c48
        · replace h := of_true h c48
          obtain ⟨q47, hAq47, hcq47, hfq47, hlq47⟩ := hM.num_at 0 rfl (i := 1) (by omega) (by have h_ := of_decide_eq_true c48; omega)
          refine RunAny.y 4 (by kernel_rfl) (idx_own (d := some 47) (A := A39) (m := t38.length) (i := 1) (k2 := [.inRegion (opsOf (pl Go.Proofs.Try.f19 [1, 1, 1, 1, 0])) []]) (by kernel_rfl) (by omega) (by have h_ := of_decide_eq_true c48; omega) hAq47) (fun _ _ => trivial) hS ?_
          refine RunAny.y 5 (by kernel_rfl) (ld_y (d := some 48) (p := ⟨q47, (1 : Int).toNat, none⟩) (k2 := [.inRegion (opsOf (pl Go.Proofs.Try.f19 [1, 1, 1, 1, 0])) []]) (.int .u32 (rd t38 1)) (by kernel_rfl)) (fun _ hs => hs.cell hcq47 (by simp)) hS ?_
          refine RunAny.y 6 (by kernel_rfl) (yl_pure (d := some 12) (v := .int .u32 (rd t38 0)) (k2 := [.inRegion (opsOf (pl Go.Proofs.Try.f19 [1, 1, 1, 1, 0])) []]) fun w => by kernel_rfl) (fun _ _ => trivial) hS ?_
          refine RunAny.y 7 (by kernel_rfl) (yl_pure (d := some 13) (v := .int .u32 (rd t38 1)) (k2 := [.inRegion (opsOf (pl Go.Proofs.Try.f19 [1, 1, 1, 1, 0])) []]) fun w => by kernel_rfl) (fun _ _ => trivial) hS ?_
          refine RunAny.done (by kernel_rfl) ?_
          clear hS
          refine RunF.go 6 [0, 2, 12, 13, 51] (k' := (pin Go.Proofs.Try.f19 [1, 1, 1, 1, 1, 0, 0] 3)) (L' := [(0, .pointer (some ⟨gp0, 0, none⟩)), (2, .bool a2), (12, .int .u32 (rd t38 0)), (13, .int .u32 (rd t38 1)), (51, .pointer (some ⟨gp0, 0, none⟩))]) (w' := W43) (by kernel_rfl) ?_
          refine RunF.y (ld_y (d := some 52) (p := ⟨gp0, 0, none⟩) (k2 := (pin Go.Proofs.Try.f19 [1, 1, 1, 1, 1, 0, 0] 4)) (.int .i64 a0.1) (by kernel_rfl)) (hco1 _ (hZp0 _ hM.kept) 0 _ rfl) ?_
          refine RunF.go 2 [0, 2, 12, 13, 53] (k' := (pl Go.Proofs.Try.f19 [1, 1, 1, 1, 1, 0, 1])) (L' := [(0, .pointer (some ⟨gp0, 0, none⟩)), (2, .bool a2), (12, .int .u32 (rd t38 0)), (13, .int .u32 (rd t38 1)), (53, .bool (a0.1 == 4))]) (w' := W43) (by kernel_rfl) ?_
          rcases two ((a0.1 == 4)) with c49 | c49
          · replace h := of_true h c49
            refine RunF.know 53 (b := true) (by kernel_rfl) c49 ?_
            refine RunF.go 6 [55, 56, 57, 58] (k' := (pin Go.Proofs.Try.f19 [1, 1, 1, 1, 1, 0, 1, 0] 4)) (L' := [(55, .pointer (some ⟨gp0, 0, none⟩)), (56, .int .u32 (rd t38 0)), (57, .int .u32 (rd t38 1)), (58, .bool a2)]) (w' := W43) (by kernel_rfl) ?_
            obtain ⟨t51, ht51, h⟩ := Option.bind_eq_some_iff.mp h
            refine RunF.call (d := some 59) (g := 37) (args := #[.pointer (some ⟨gp0, 0, none⟩), .int .u32 (rd t38 0), .int .u32 (rd t38 1), .bool a2]) (k2 := (pin Go.Proofs.Try.f19 [1, 1, 1, 1, 1, 0, 1, 0] 5)) (by kernel_rfl) (scrimref8_Small_xtea.calls k (.pointer (some ⟨gp0, 0, none⟩)) Zp0 a0 (rd t38 0) (rd t38 1) a2 t51 _ hp0 (fun _ hb_ => (hZp0 _ (hM.kept.trans hb_))) ht51) ?_
            rintro _ W50 ⟨rfl, hM_⟩
            replace hM := hM.call hM_
            clear hM_ ht51
            refine RunF.go 9 [13, 70] (k' := (pin Go.Proofs.Try.f19 [1, 1, 1, 1, 1, 1, 0] 1)) (L' := [(13, .int .u32 t51.2), (70, .int .u32 t51.1)]) (w' := W50) (by kernel_rfl) ?_
            obtain ⟨t53, ht53, h⟩ := Option.bind_eq_some_iff.mp h
            refine RunF.call (d := some 71) (g := 24) (args := #[.int .u32 t51.1]) (k2 := (pin Go.Proofs.Try.f19 [1, 1, 1, 1, 1, 1, 0] 2)) (by kernel_rfl) (scrimref1_PutBe32.calls k t51.1 t53 _ ht53) ?_
            rintro _ W52 ⟨A54, n55, c56, rfl, hM_⟩
            obtain rfl : t53.length = n55 := by have h_ := (hM_.rd 0 rfl).1; simpa [nums_length, bools_length, strs_length] using h_
            replace hM := hM.call hM_
            clear hM_ ht53
            refine RunF.go 1 [71, 72] (k' := (pin Go.Proofs.Try.f19 [1, 1, 1, 1, 1, 1, 0] 3)) (L' := [(71, .slice A54 t53.length c56), (72, .int .u32 t51.2)]) (w' := W52) (by kernel_rfl) ?_
            obtain ⟨t59, ht59, h⟩ := Option.bind_eq_some_iff.mp h
            refine RunF.call (d := some 73) (g := 24) (args := #[.int .u32 t51.2]) (k2 := (pin Go.Proofs.Try.f19 [1, 1, 1, 1, 1, 1, 0] 4)) (by kernel_rfl) (scrimref1_PutBe32.calls k t51.2 t59 _ ht59) ?_
            rintro _ W58 ⟨A60, n61, c62, rfl, hM_⟩
            obtain rfl : t59.length = n61 := by have h_ := (hM_.rd 0 rfl).1; simpa [nums_length, bools_length, strs_length] using h_
            replace hM := hM.call hM_
            clear hM_ ht59
            rcases two (decide (t53.length + t59.length ≤ 1000000000)) with c68 | c68
            · replace h := of_true h c68
              have h_ := of_decide_eq_true c68
              obtain ⟨A64, n65, c66, W67, hD, hM', hS_⟩ := app_does (P := Go.Proofs.Try.prog) (n := 75) (k := (pin Go.Proofs.Try.f19 [1, 1, 1, 1, 1, 1, 0] 4)) (L := (upd [(71, .slice A54 t53.length c56), (72, .int .u32 t51.2)] (some 73) (.slice A60 t59.length c62))) (d := some 74) (e := 5) (A := A54) (m := t53.length) (c := c56) (A2 := A60) (m2 := t59.length) (c2 := c62) (cs := nums .u8 t53) (ys := nums .u8 t59) (k2 := (pin Go.Proofs.Try.f19 [1, 1, 1, 1, 1, 1, 0] 5)) [⟨.slice A60 t59.length c62, 5, 1, nums .u8 t59⟩] [⟨.slice A39 t38.length c41, 43, 1, nums .u32 t38⟩] (by kernel_rfl) (hM.pick [0, 1, 2] rfl rfl) (hM.rd 0 rfl) (one_nums _ _) (by omega)
              rw [nums_append] at hM'
              replace hM := hM'; clear h_ hM'
              obtain rfl : (t53 ++ t59).length = n65 := by have h_ := (hM.rd 1 rfl).1; simpa only [nums_length, bools_length, strs_length] using h_
              refine RunF.does hD ?_
              clear hD hS_
              refine RunF.go 3 [6, 7] (k' := (pl Go.Proofs.Try.f19 [1, 1, 1, 1, 1, 1, 1])) (L' := [(6, .slice A64 ((t53 ++ t59).length) c66), (7, .int .i64 0)]) (w' := W67) (by kernel_rfl) ?_
              obtain rfl := Option.some.inj h
              exact RunF.ret2 6 7 (.slice A64 ((t53 ++ t59).length) c66) (.int .i64 0) (fn := Go.Proofs.Try.f19) Go.Proofs.Try.func19 (by kernel_rfl) (by kernel_rfl) (by kernel_rfl) (by kernel_rfl) ⟨_, rfl, A64, (t53 ++ t59).length, c66, rfl, (hM.pick [1] rfl rfl)⟩
            · replace h := of_false h c68
              cases h
          · replace h := of_false h c49
            refine RunF.know 53 (b := false) (by kernel_rfl) c49 ?_
            refine RunF.go 6 [63, 64, 65, 66] (k' := (pin Go.Proofs.Try.f19 [1, 1, 1, 1, 1, 0, 1, 1] 4)) (L' := [(63, .pointer (some ⟨gp0, 0, none⟩)), (64, .int .u32 (rd t38 0)), (65, .int .u32 (rd t38 1)), (66, .bool a2)]) (w' := W43) (by kernel_rfl) ?_
            obtain ⟨t71, ht71, h⟩ := Option.bind_eq_some_iff.mp h
            refine RunF.call (d := some 67) (g := 38) (args := #[.pointer (some ⟨gp0, 0, none⟩), .int .u32 (rd t38 0), .int .u32 (rd t38 1), .bool a2]) (k2 := (pin Go.Proofs.Try.f19 [1, 1, 1, 1, 1, 0, 1, 1] 5)) (by kernel_rfl) (scrimref8_Small_magma.calls k (.pointer (some ⟨gp0, 0, none⟩)) Zp0 a0 (rd t38 0) (rd t38 1) a2 t71 _ hp0 (fun _ hb_ => (hZp0 _ (hM.kept.trans hb_))) ht71) ?_
            rintro _ W70 ⟨rfl, hM_⟩
            replace hM := hM.call hM_
            clear hM_ ht71
            refine RunF.go 9 [13, 70] (k' := (pin Go.Proofs.Try.f19 [1, 1, 1, 1, 1, 1, 0] 1)) (L' := [(13, .int .u32 t71.2), (70, .int .u32 t71.1)]) (w' := W70) (by kernel_rfl) ?_
            obtain ⟨t73, ht73, h⟩ := Option.bind_eq_some_iff.mp h
            refine RunF.call (d := some 71) (g := 24) (args := #[.int .u32 t71.1]) (k2 := (pin Go.Proofs.Try.f19 [1, 1, 1, 1, 1, 1, 0] 2)) (by kernel_rfl) (scrimref1_PutBe32.calls k t71.1 t73 _ ht73) ?_
            rintro _ W72 ⟨A74, n75, c76, rfl, hM_⟩
            obtain rfl : t73.length = n75 := by have h_ := (hM_.rd 0 rfl).1; simpa [nums_length, bools_length, strs_length] using h_
            replace hM := hM.call hM_
            clear hM_ ht73
            refine RunF.go 1 [71, 72] (k' := (pin Go.Proofs.Try.f19 [1, 1, 1, 1, 1, 1, 0] 3)) (L' := [(71, .slice A74 t73.length c76), (72, .int .u32 t71.2)]) (w' := W72) (by kernel_rfl) ?_
            obtain ⟨t79, ht79, h⟩ := Option.bind_eq_some_iff.mp h
            refine RunF.call (d := some 73) (g := 24) (args := #[.int .u32 t71.2]) (k2 := (pin Go.Proofs.Try.f19 [1, 1, 1, 1, 1, 1, 0] 4)) (by kernel_rfl) (scrimref1_PutBe32.calls k t71.2 t79 _ ht79) ?_
            rintro _ W78 ⟨A80, n81, c82, rfl, hM_⟩
            obtain rfl : t79.length = n81 := by have h_ := (hM_.rd 0 rfl).1; simpa [nums_length, bools_length, strs_length] using h_
            replace hM := hM.call hM_
            clear hM_ ht79
            rcases two (decide (t73.length + t79.length ≤ 1000000000)) with c88 | c88
            · replace h := of_true h c88
              have h_ := of_decide_eq_true c88
              obtain ⟨A84, n85, c86, W87, hD, hM', hS_⟩ := app_does (P := Go.Proofs.Try.prog) (n := 75) (k := (pin Go.Proofs.Try.f19 [1, 1, 1, 1, 1, 1, 0] 4)) (L := (upd [(71, .slice A74 t73.length c76), (72, .int .u32 t71.2)] (some 73) (.slice A80 t79.length c82))) (d := some 74) (e := 5) (A := A74) (m := t73.length) (c := c76) (A2 := A80) (m2 := t79.length) (c2 := c82) (cs := nums .u8 t73) (ys := nums .u8 t79) (k2 := (pin Go.Proofs.Try.f19 [1, 1, 1, 1, 1, 1, 0] 5)) [⟨.slice A80 t79.length c82, 5, 1, nums .u8 t79⟩] [⟨.slice A39 t38.length c41, 43, 1, nums .u32 t38⟩] (by kernel_rfl) (hM.pick [0, 1, 2] rfl rfl) (hM.rd 0 rfl) (one_nums _ _) (by omega)
              rw [nums_append] at hM'
              replace hM := hM'; clear h_ hM'
              obtain rfl : (t73 ++ t79).length = n85 := by have h_ := (hM.rd 1 rfl).1; simpa only [nums_length, bools_length, strs_length] using h_
              refine RunF.does hD ?_
              clear hD hS_
              refine RunF.go 3 [6, 7] (k' := (pl Go.Proofs.Try.f19 [1, 1, 1, 1, 1, 1, 1])) (L' := [(6, .slice A84 ((t73 ++ t79).length) c86), (7, .int .i64 0)]) (w' := W87) (by kernel_rfl) ?_
              obtain rfl := Option.some.inj h
              exact RunF.ret2 6 7 (.slice A84 ((t73 ++ t79).length) c86) (.int .i64 0) (fn := Go.Proofs.Try.f19) Go.Proofs.Try.func19 (by kernel_rfl) (by kernel_rfl) (by kernel_rfl) (by kernel_rfl) ⟨_, rfl, A84, (t73 ++ t79).length, c86, rfl, (hM.pick [1] rfl rfl)⟩
            · replace h := of_false h c88
              cases h
        · replace h := of_false h c48
          cases h
      · replace h := of_false h c46
        cases h

/-! ### scrim/scrimlaw8.SmallBlocks: function 3 -/
mutual
def scrimlaw8_SmallBlocks.l0 : Nat → (List Int) → (List Int) → (List Int) → Int → Option (Bool)
  | 0, _, _, _, _ => none
  | k + 1, a0, t15, t6, x8_0 => if (decide (x8_0 < 3)) = true then ((scrimlaw8_tags.f k).bind fun t51 => (if (decide (0 ≤ x8_0)) = true then (if (decide (x8_0 < (t51.length : Int))) = true then ((scrimlaw8_size.f k x8_0).bind fun t60 => ((scrimlaw8_Bytes.f k t60 a0).bind fun t62 => ((small_New.f k (rd t51 x8_0) t62).bind fun t68 => ((scrimlaw8_tags.f k).bind fun t72 => (if (decide (0 ≤ x8_0)) = true then (if (decide (x8_0 < (t72.length : Int))) = true then ((scrimlaw8_size.f k x8_0).bind fun t81 => ((scrimlaw8_Bytes.f k t81 a0).bind fun t83 => ((scrimref8_New.f k (rd t72 x8_0) t83).bind fun t89 => (if t68.1.isSome = true then ((t68.1).bind fun s91 => (if t89.1.isSome = true then ((t89.1).bind fun s95 => (scrimlaw8_SmallBlocks.l1 k a0 s91 s95 t15 t6 x8_0 0)) else (some false))) else (some false))))) else (none)) else (none)))))) else (none)) else (none))) else (some true)
def scrimlaw8_SmallBlocks.l1 : Nat → (List Int) → ((List Int) × Int) → (Int × (List Int)) → (List Int) → (List Int) → Int → Int → Option (Bool)
  | 0, _, _, _, _, _, _, _ => none
  | k + 1, a0, s91, s95, t15, t6, x8_0, x13_1 => if (decide (x13_1 < 6)) = true then (if (decide (0 ≤ (I64 (Int.tdiv x13_1 2)))) = true then (if (decide ((I64 (Int.tdiv x13_1 2)) < (3 : Int))) = true then ((small_Small_Block.f k s91 (rdr ([] : List Int) ([t6, t15, (List.replicate 8 (0 : Int))] : List (List Int)) (I64 (Int.tdiv x13_1 2))) ((Int.tmod x13_1 2) == 1)).bind fun t103 => (if (decide (0 ≤ (I64 (Int.tdiv x13_1 2)))) = true then (if (decide ((I64 (Int.tdiv x13_1 2)) < (3 : Int))) = true then ((scrimref8_Small_Block.f k s95 (rdr ([] : List Int) ([t6, t15, (List.replicate 8 (0 : Int))] : List (List Int)) (I64 (Int.tdiv x13_1 2))) ((Int.tmod x13_1 2) == 1)).bind fun t112 => (if (t103.2 != t112.2) = true then (some false) else ((some (!((strOf t103.1).toList == (strOf t112.1).toList) : Bool)).bind fun y118 => (if y118 = true then (some false) else (scrimlaw8_SmallBlocks.l1 k a0 s91 s95 t15 t6 x8_0 (I64 (x13_1 + 1))))))) else (none)) else (none))) else (none)) else (none)) else (scrimlaw8_SmallBlocks.l0 k a0 t15 t6 (I64 (x8_0 + 1)))
end
def scrimlaw8_SmallBlocks.f (k : Nat) (a0 : List Int) (a1 : List Int) (a2 : List Int) : Option (Bool) := (scrimlaw8_known.f k).bind fun t2 => (if (!t2) = true then (some false) else ((scrimlaw8_Bytes.f k 8 a1).bind fun t6 => ((scrimlaw8_Bytes.f k 8 a2).bind fun t15 => (scrimlaw8_SmallBlocks.l0 k a0 t15 t6 0))))
set_option maxRecDepth 100000 in
set_option maxHeartbeats 8000000 in
theorem scrimlaw8_SmallBlocks.calls (k : Nat) (Ap0 : Option Addr) (np0 cp0 : Nat) (a0 : List Int) (Ap1 : Option Addr) (np1 cp1 : Nat) (a1 : List Int) (Ap2 : Option Addr) (np2 cp2 : Nat) (a2 : List Int) (r : Bool) (w : World) (hr0 : Rd w (.slice Ap0 np0 cp0) (nums .u8 a0)) (hr1 : Rd w (.slice Ap1 np1 cp1) (nums .u8 a1)) (hr2 : Rd w (.slice Ap2 np2 cp2) (nums .u8 a2)) (h : scrimlaw8_SmallBlocks.f k a0 a1 a2 = some r) :
    Calls Go.Proofs.Try.prog 3 #[(.slice Ap0 np0 cp0), (.slice Ap1 np1 cp1), (.slice Ap2 np2 cp2)] w (Ret fun v w' => v = .bool r ∧ Mem w w' []) := by
  obtain rfl : a0.length = np0 := by have h_ := hr0.1; simpa [nums_length, bools_length, strs_length] using h_
  obtain rfl : a1.length = np1 := by have h_ := hr1.1; simpa [nums_length, bools_length, strs_length] using h_
  obtain rfl : a2.length = np2 := by have h_ := hr2.1; simpa [nums_length, bools_length, strs_length] using h_
  unfold scrimlaw8_SmallBlocks.f at h
  refine calls_of [.slice Ap0 a0.length cp0, .slice Ap1 a1.length cp1, .slice Ap2 a2.length cp2] (fn := Go.Proofs.Try.f3) Go.Proofs.Try.func3 (by kernel_rfl) (by kernel_rfl) ?_
  have hM := Mem.refl w
  refine RunF.go 7 [0, 1, 2] (k' := (pin Go.Proofs.Try.f3 [1, 0, 0] 0)) (L' := [(0, .slice Ap0 a0.length cp0), (1, .slice Ap1 a1.length cp1), (2, .slice Ap2 a2.length cp2)]) (w' := w) (by kernel_rfl) ?_
  obtain ⟨t2, ht2, h⟩ := Option.bind_eq_some_iff.mp h
  refine RunF.call (d := some 18) (g := 12) (args := #[]) (k2 := (pin Go.Proofs.Try.f3 [1, 0, 0] 1)) (by kernel_rfl) (scrimlaw8_known.calls k t2 _ ht2) ?_
  rintro _ W1 ⟨rfl, hM_⟩
  replace hM := hM.call hM_
  clear hM_ ht2
  refine RunF.go 2 [0, 1, 2, 19] (k' := (pl Go.Proofs.Try.f3 [1, 0, 1])) (L' := [(0, .slice Ap0 a0.length cp0), (1, .slice Ap1 a1.length cp1), (2, .slice Ap2 a2.length cp2), (19, .bool (!t2))]) (w' := W1) (by kernel_rfl) ?_
  rcases two (!t2) with c3 | c3
  · replace h := of_true h c3
    refine RunF.know 19 (b := true) (by kernel_rfl) c3 ?_
    refine RunF.go 5 [6] (k' := (pl Go.Proofs.Try.f3 [1, 0, 1, 0, 1])) (L' := [(6, .bool false)]) (w' := W1) (by kernel_rfl) ?_
    obtain rfl := Option.some.inj h
    exact RunF.ret1 6 (.bool false) (fn := Go.Proofs.Try.f3) Go.Proofs.Try.func3 (by kernel_rfl) (by kernel_rfl) (by kernel_rfl) ⟨_, rfl, rfl, (hM.pick [] rfl rfl)⟩
  · replace h := of_false h c3
    refine RunF.know 19 (b := false) (by kernel_rfl) c3 ?_
    refine RunF.go 3 [0, 1, 2] (k' := (pl Go.Proofs.Try.f3 [1, 1, 0])) (L' := [(0, .slice Ap0 a0.length cp0), (1, .slice Ap1 a1.length cp1), (2, .slice Ap2 a2.length cp2)]) (w' := W1) (by kernel_rfl) ?_
    refine RunF.draw (Still ({ W1 with drawn := W1.drawn + 1 } : World) []) (by kernel_rfl) (by kernel_rfl) ?_
    have hMd5 := hM.drew
    have hS := Still.refl ({ W1 with drawn := W1.drawn + 1 } : World) []
    generalize ({ W1 with drawn := W1.drawn + 1 } : World) = W4 at hMd5 hS ⊢
    replace hM := hMd5
    refine RunAny.y 0 (by kernel_rfl) (yl_pure (d := some 20) (v := .slice Ap1 a1.length cp1) (k2 := [.inRegion (opsOf (pl Go.Proofs.Try.f3 [1, 1, 0])) []]) fun w => by kernel_rfl) (fun _ _ => trivial) hS ?_
    refine RunAny.y 2 (by kernel_rfl) (yl_pure (d := some 22) (v := .slice Ap2 a2.length cp2) (k2 := [.inRegion (opsOf (pl Go.Proofs.Try.f3 [1, 1, 0])) []]) fun w => by kernel_rfl) (fun _ _ => trivial) hS ?_
    obtain ⟨t6, ht6, h⟩ := Option.bind_eq_some_iff.mp h
    obtain ⟨t15, ht15, h⟩ := Option.bind_eq_some_iff.mp h
    have J37 : ∀ (A8 : Option Addr) (c10 : Nat) (A17 : Option Addr) (c19 : Nat) (g30 : Nat) (W38 : World) (hS : Still W38 [] W38) (hM : Mem w W38 [⟨.slice A8 t6.length c10, 5, 1, nums .u8 t6⟩, ⟨.slice A17 t15.length c19, 5, 1, nums .u8 t15⟩, ⟨.slice (some ⟨g30, 0, none⟩) 8 8, 5, 1, nums .u8 (List.replicate 8 (0 : Int))⟩]) , RunAny Go.Proofs.Try.prog (Ret fun v w' => v = .bool r ∧ Mem w w' []) 3 (rest1 (pl Go.Proofs.Try.f3 [1, 1, 0])) 100 (opsOf (pl Go.Proofs.Try.f3 [1, 1, 0])) (Still W38 []) 2 [0, 2, 1, 3, 4] [(0, .slice Ap0 a0.length cp0), (1, .slice Ap1 a1.length cp1), (2, .slice Ap2 a2.length cp2), (20, .slice Ap1 a1.length cp1), (21, .slice A8 t6.length c10), (22, .slice Ap2 a2.length cp2), (23, .slice A17 t15.length c19), (24, .slice (some ⟨g30, 0, none⟩) 8 8)] W38 := by
      intro A8 c10 A17 c19 g30 W38 hS hM 
      obtain ⟨Fq39, hfq39, hM⟩ := Mem.freezeS (H1 := []) (H2 := [⟨.slice A17 t15.length c19, 5, 1, nums .u8 t15⟩, ⟨.slice (some ⟨g30, 0, none⟩) 8 8, 5, 1, nums .u8 (List.replicate 8 (0 : Int))⟩]) (Fs := []) (A := A8) (n := t6.length) (c := c10) (ty := 5) (cs := nums .u8 t6) (hM.as rfl)
      obtain ⟨Fq40, hfq40, hM⟩ := Mem.freezeS (H1 := []) (H2 := [⟨.slice (some ⟨g30, 0, none⟩) 8 8, 5, 1, nums .u8 (List.replicate 8 (0 : Int))⟩]) (Fs := [Fq39]) (A := A17) (n := t15.length) (c := c19) (ty := 5) (cs := nums .u8 t15) (hM.as rfl)
      obtain ⟨Fq41, hfq41, hM⟩ := Mem.freezeS (H1 := []) (H2 := []) (Fs := [Fq40, Fq39]) (A := (some ⟨g30, 0, none⟩)) (n := 8) (c := 8) (ty := 5) (cs := nums .u8 (List.replicate 8 (0 : Int))) (hM.as rfl)
      have hqq42 : Each2 ((rNums .u8) (andZ (Oks Fq39) (andZ (Oks Fq40) (Oks Fq41)))) [.slice A8 t6.length c10, .slice A17 t15.length c19, .slice (some ⟨g30, 0, none⟩) 8 8] ([t6, t15, (List.replicate 8 (0 : Int))] : List (List Int)) := (.cons (rnums_of (RdF.up hfq39 (fun _ hz_ => hz_.1)) (And.intro (Mem.oks (hM.as (H' := Gs [] [Fq41, Fq40, Fq39]) rfl) 2 rfl) (And.intro (Mem.oks (hM.as (H' := Gs [] [Fq41, Fq40, Fq39]) rfl) 1 rfl) (Mem.oks (hM.as (H' := Gs [] [Fq41, Fq40, Fq39]) rfl) 0 rfl)))) (.cons (rnums_of (RdF.up hfq40 (fun _ hz_ => hz_.2.1)) (And.intro (Mem.oks (hM.as (H' := Gs [] [Fq41, Fq40, Fq39]) rfl) 2 rfl) (And.intro (Mem.oks (hM.as (H' := Gs [] [Fq41, Fq40, Fq39]) rfl) 1 rfl) (Mem.oks (hM.as (H' := Gs [] [Fq41, Fq40, Fq39]) rfl) 0 rfl)))) (.cons (rnums_of (RdF.up hfq41 (fun _ hz_ => hz_.2.2)) (And.intro (Mem.oks (hM.as (H' := Gs [] [Fq41, Fq40, Fq39]) rfl) 2 rfl) (And.intro (Mem.oks (hM.as (H' := Gs [] [Fq41, Fq40, Fq39]) rfl) 1 rfl) (Mem.oks (hM.as (H' := Gs [] [Fq41, Fq40, Fq39]) rfl) 0 rfl)))) (Each2.nil _))))
      refine RunAny.new 5 22 1 3 ([.slice A8 t6.length c10, .slice A17 t15.length c19, .slice (some ⟨g30, 0, none⟩) 8 8]) (d := some 25) (k2 := [.inRegion (opsOf (pl Go.Proofs.Try.f3 [1, 1, 0])) []]) (by kernel_rfl) hM (by rfl) (by kernel_rfl) (by kernel_rfl) hS ?_
      intro g43 W44 hS hM
      refine RunAny.rebase hS ?_
      replace hS := Still.refl W44 []
      refine RunAny.y 6 (by kernel_rfl) (yl_pure (d := some 7) (v := .slice (some ⟨g43, 0, none⟩) 3 3) (k2 := [.inRegion (opsOf (pl Go.Proofs.Try.f3 [1, 1, 0])) []]) fun w => by kernel_rfl) (fun _ _ => trivial) hS ?_
      refine RunAny.done (by kernel_rfl) ?_
      clear hS
      refine RunF.go 7 [0, 7, 8] (k' := (pl Go.Proofs.Try.f3 [1, 1, 1, 0, 1, 0, 0])) (L' := [(0, .slice Ap0 a0.length cp0), (7, .slice (some ⟨g43, 0, none⟩) 3 3), (8, .int .i64 0)]) (w' := W44) (by kernel_rfl) ?_
      obtain ⟨Fq46, hfq46, hM⟩ := Mem.freezeS (H1 := []) (H2 := []) (Fs := [Fq41, Fq40, Fq39]) (A := (some ⟨g43, 0, none⟩)) (n := 3) (c := 3) (ty := 22) (cs := [.slice A8 t6.length c10, .slice A17 t15.length c19, .slice (some ⟨g30, 0, none⟩) 8 8]) (hM.as rfl)
      have l0 : ∀ (k_ : Nat), k_ ≤ k → ∀ (x8_0 : Int) (W : World) (hM : Mem w W (Gs [] [Fq46, Fq41, Fq40, Fq39])) (h : scrimlaw8_SmallBlocks.l0 k_ a0 t15 t6 x8_0 = some r), RunF Go.Proofs.Try.prog (Ret fun v w' => v = .bool r ∧ Mem w w' []) 3 (pl Go.Proofs.Try.f3 [1, 1, 1, 0, 1, 0, 0]) 100 [(0, .slice Ap0 a0.length cp0), (7, .slice (some ⟨g43, 0, none⟩) 3 3), (8, .int .i64 x8_0)] W := by
        intro k_
        induction k_ using Nat.strongRecOn with
        | _ k_ ih0 =>
          intro hk x8_0 W hM h
          cases k_ with
          | zero => exact absurd h (by simp [scrimlaw8_SmallBlocks.l0])
          | succ k =>
            simp only [scrimlaw8_SmallBlocks.l0] at h
            replace ih0 : ∀ m, m ≤ k → _ := fun m hm => ih0 m (by omega) (by omega)
            refine RunF.go 6 [0, 7, 8, 27] (k' := (pl Go.Proofs.Try.f3 [1, 1, 1, 0, 1, 0, 0, 0, 1])) (L' := [(0, .slice Ap0 a0.length cp0), (7, .slice (some ⟨g43, 0, none⟩) 3 3), (8, .int .i64 x8_0), (27, .bool (decide (x8_0 < 3)))]) (w' := W) (by kernel_rfl) ?_
            rcases two (decide (x8_0 < 3)) with c47 | c47
            · replace h := of_true h c47
              refine RunF.know 27 (b := true) (by kernel_rfl) c47 ?_
              refine RunF.go 5 [0, 7, 8] (k' := (pl Go.Proofs.Try.f3 [1, 1, 1, 0, 1, 0, 0, 1, 0, 0, 0])) (L' := [(0, .slice Ap0 a0.length cp0), (7, .slice (some ⟨g43, 0, none⟩) 3 3), (8, .int .i64 x8_0)]) (w' := W) (by kernel_rfl) ?_
              refine RunF.draw (Still ({ W with drawn := W.drawn + 1 } : World) []) (by kernel_rfl) (by kernel_rfl) ?_
              have hMd49 := hM.drew
              have hS := Still.refl ({ W with drawn := W.drawn + 1 } : World) []
              generalize ({ W with drawn := W.drawn + 1 } : World) = W48 at hMd49 hS ⊢
              replace hM := hMd49
              refine RunAny.y 1 (by kernel_rfl) (yl_pure (d := some 32) (v := .int .i64 x8_0) (k2 := [.inRegion (opsOf (pl Go.Proofs.Try.f3 [1, 1, 1, 0, 1, 0, 0, 1, 0, 0, 0])) []]) fun w => by kernel_rfl) (fun _ _ => trivial) hS ?_
              refine RunAny.y 4 (by kernel_rfl) (yl_pure (d := some 35) (v := .int .i64 x8_0) (k2 := [.inRegion (opsOf (pl Go.Proofs.Try.f3 [1, 1, 1, 0, 1, 0, 0, 1, 0, 0, 0])) []]) fun w => by kernel_rfl) (fun _ _ => trivial) hS ?_
              refine RunAny.y 6 (by kernel_rfl) (yl_pure (d := some 37) (v := .slice Ap0 a0.length cp0) (k2 := [.inRegion (opsOf (pl Go.Proofs.Try.f3 [1, 1, 1, 0, 1, 0, 0, 1, 0, 0, 0])) []]) fun w => by kernel_rfl) (fun _ _ => trivial) hS ?_
              obtain ⟨t51, ht51, h⟩ := Option.bind_eq_some_iff.mp h
              refine RunAny.call 0 (d := some 31) (g := 15) (args := #[]) (by kernel_rfl) (by kernel_rfl) (scrimlaw8_tags.calls k t51 _ ht51) (by rintro _ _ ⟨_, _, _, rfl, hM_⟩; exact hS.below hM_.below) ?_
              rintro _ W50 ⟨A52, n53, c54, rfl, hM_⟩
              obtain rfl : t51.length = n53 := by have h_ := (hM_.rd 0 rfl).1; simpa [nums_length, bools_length, strs_length] using h_
              replace hS := hS.below hM_.below
              replace hM : Mem w W50 (Gs [⟨.slice A52 t51.length c54, 3, 1, nums .i64 t51⟩] [Fq46, Fq41, Fq40, Fq39]) := (Mem.callG (hM.as (H' := Gs [] [Fq46, Fq41, Fq40, Fq39]) rfl) hM_.grp).as rfl
              clear hM_ ht51
              refine RunAny.rebase hS ?_
              replace hS := Still.refl W50 []
              rcases two (decide (0 ≤ x8_0)) with c57 | c57
              · replace h := of_true h c57
                rcases two (decide (x8_0 < (t51.length : Int))) with c58 | c58
                · replace h := of_true h c58
                  obtain ⟨q56, hAq56, hcq56, hfq56, hlq56⟩ := hM.num_at 0 rfl (i := x8_0) (of_decide_eq_true c57) (by have h_ := of_decide_eq_true c58; omega)
                  refine RunAny.y 2 (by kernel_rfl) (idx_own (d := some 33) (A := A52) (m := t51.length) (i := x8_0) (k2 := [.inRegion (opsOf (pl Go.Proofs.Try.f3 [1, 1, 1, 0, 1, 0, 0, 1, 0, 0, 0])) []]) (by kernel_rfl) (of_decide_eq_true c57) (by have h_ := of_decide_eq_true c58; omega) hAq56) (fun _ _ => trivial) hS ?_
                  refine RunAny.y 3 (by kernel_rfl) (ld_y (d := some 34) (p := ⟨q56, (x8_0 : Int).toNat, none⟩) (k2 := [.inRegion (opsOf (pl Go.Proofs.Try.f3 [1, 1, 1, 0, 1, 0, 0, 1, 0, 0, 0])) []]) (.int .i64 (rd t51 x8_0)) (by kernel_rfl)) (fun _ hs => hs.cell hcq56 (by simp)) hS ?_
                  obtain ⟨t60, ht60, h⟩ := Option.bind_eq_some_iff.mp h
                  refine RunAny.call 5 (d := some 36) (g := 16) (args := #[.int .i64 x8_0]) (by kernel_rfl) (by kernel_rfl) (scrimlaw8_size.calls k x8_0 t60 _ ht60) (by rintro _ _ ⟨rfl, hM_⟩; exact hS.below hM_.below) ?_
                  rintro _ W59 ⟨rfl, hM_⟩
                  replace hS := hS.below hM_.below
                  replace hM : Mem w W59 (Gs [⟨.slice A52 t51.length c54, 3, 1, nums .i64 t51⟩] [Fq46, Fq41, Fq40, Fq39]) := (Mem.callG (hM.as (H' := Gs [⟨.slice A52 t51.length c54, 3, 1, nums .i64 t51⟩] [Fq46, Fq41, Fq40, Fq39]) rfl) hM_.grp).as rfl
                  clear hM_ ht60
                  refine RunAny.rebase hS ?_
                  replace hS := Still.refl W59 []
                  obtain ⟨t62, ht62, h⟩ := Option.bind_eq_some_iff.mp h
                  refine RunAny.call 7 (d := some 38) (g := 13) (args := #[.int .i64 t60, .slice Ap0 a0.length cp0]) (by kernel_rfl) (by kernel_rfl) (scrimlaw8_Bytes.calls k t60 Ap0 a0.length cp0 a0 t62 _ (hr0.mono hM.below) ht62) (by rintro _ _ ⟨_, _, _, rfl, hM_⟩; exact hS.below hM_.below) ?_
                  rintro _ W61 ⟨A63, n64, c65, rfl, hM_⟩
                  obtain rfl : t62.length = n64 := by have h_ := (hM_.rd 0 rfl).1; simpa [nums_length, bools_length, strs_length] using h_
                  replace hS := hS.below hM_.below
                  replace hM : Mem w W61 (Gs [⟨.slice A63 t62.length c65, 5, 1, nums .u8 t62⟩, ⟨.slice A52 t51.length c54, 3, 1, nums .i64 t51⟩] [Fq46, Fq41, Fq40, Fq39]) := (Mem.callG (hM.as (H' := Gs [⟨.slice A52 t51.length c54, 3, 1, nums .i64 t51⟩] [Fq46, Fq41, Fq40, Fq39]) rfl) hM_.grp).as rfl
                  clear hM_ ht62
                  refine RunAny.rebase hS ?_
                  replace hS := Still.refl W61 []
                  obtain ⟨t68, ht68, h⟩ := Option.bind_eq_some_iff.mp h
                  refine RunAny.call 8 (d := some 39) (g := 14) (args := #[.int .i64 (rd t51 x8_0), .slice A63 t62.length c65]) (by kernel_rfl) (by kernel_rfl) (small_New.calls k (rd t51 x8_0) A63 t62.length c65 t62 t68 _ (hM.rd 0 rfl) ht68) (by rintro _ _ ⟨_, _, rfl, _, hM_⟩; exact hS.below hM_.below) ?_
                  rintro _ W67 ⟨vt68_0, Ft68_0, rfl, hRt68_0, hM_⟩
                  replace hS := hS.below hM_.below
                  replace hM : Mem w W67 (Gs [⟨.slice A63 t62.length c65, 5, 1, nums .u8 t62⟩, ⟨.slice A52 t51.length c54, 3, 1, nums .i64 t51⟩] [Ft68_0, Fq46, Fq41, Fq40, Fq39]) := (Mem.callG (hM.as (H' := Gs [⟨.slice A63 t62.length c65, 5, 1, nums .u8 t62⟩, ⟨.slice A52 t51.length c54, 3, 1, nums .i64 t51⟩] [Fq46, Fq41, Fq40, Fq39]) rfl) hM_).as rfl
                  clear hM_ ht68
                  refine RunAny.rebase hS ?_
                  replace hS := Still.refl W67 []
                  refine RunAny.y 9 (by kernel_rfl) (yl_pure (d := some 30) (v := .tuple #[vt68_0, .int .i64 t68.2]) (k2 := [.inRegion (opsOf (pl Go.Proofs.Try.f3 [1, 1, 1, 0, 1, 0, 0, 1, 0, 0, 0])) []]) fun w => by kernel_rfl) (fun _ _ => trivial) hS ?_
                  refine RunAny.y 10 (by kernel_rfl) (yl_pure (d := some 40) (v := vt68_0) (k2 := [.inRegion (opsOf (pl Go.Proofs.Try.f3 [1, 1, 1, 0, 1, 0, 0, 1, 0, 0, 0])) []]) fun w => by kernel_rfl) (fun _ _ => trivial) hS ?_
                  refine RunAny.y 11 (by kernel_rfl) (yl_pure (d := some 41) (v := .int .i64 t68.2) (k2 := [.inRegion (opsOf (pl Go.Proofs.Try.f3 [1, 1, 1, 0, 1, 0, 0, 1, 0, 0, 0])) []]) fun w => by kernel_rfl) (fun _ _ => trivial) hS ?_
                  refine RunAny.y 12 (by kernel_rfl) (yl_pure (d := some 9) (v := vt68_0) (k2 := [.inRegion (opsOf (pl Go.Proofs.Try.f3 [1, 1, 1, 0, 1, 0, 0, 1, 0, 0, 0])) []]) fun w => by kernel_rfl) (fun _ _ => trivial) hS ?_
                  refine RunAny.y 13 (by kernel_rfl) (yl_pure (d := some 10) (v := .int .i64 t68.2) (k2 := [.inRegion (opsOf (pl Go.Proofs.Try.f3 [1, 1, 1, 0, 1, 0, 0, 1, 0, 0, 0])) []]) fun w => by kernel_rfl) (fun _ _ => trivial) hS ?_
                  refine RunAny.done (by kernel_rfl) ?_
                  clear hS
                  refine RunF.go 1 [0, 7, 8, 9] (k' := (pl Go.Proofs.Try.f3 [1, 1, 1, 0, 1, 0, 0, 1, 0, 0, 1, 0])) (L' := [(0, .slice Ap0 a0.length cp0), (7, .slice (some ⟨g43, 0, none⟩) 3 3), (8, .int .i64 x8_0), (9, vt68_0)]) (w' := W67) (by kernel_rfl) ?_
                  refine RunF.draw (Still ({ W67 with drawn := W67.drawn + 1 } : World) []) (by kernel_rfl) (by kernel_rfl) ?_
                  have hMd70 := hM.drew
                  have hS := Still.refl ({ W67 with drawn := W67.drawn + 1 } : World) []
                  generalize ({ W67 with drawn := W67.drawn + 1 } : World) = W69 at hMd70 hS ⊢
                  replace hM := hMd70
                  refine RunAny.y 1 (by kernel_rfl) (yl_pure (d := some 44) (v := .int .i64 x8_0) (k2 := [.inRegion (opsOf (pl Go.Proofs.Try.f3 [1, 1, 1, 0, 1, 0, 0, 1, 0, 0, 1, 0])) []]) fun w => by kernel_rfl) (fun _ _ => trivial) hS ?_
                  refine RunAny.y 4 (by kernel_rfl) (yl_pure (d := some 47) (v := .int .i64 x8_0) (k2 := [.inRegion (opsOf (pl Go.Proofs.Try.f3 [1, 1, 1, 0, 1, 0, 0, 1, 0, 0, 1, 0])) []]) fun w => by kernel_rfl) (fun _ _ => trivial) hS ?_
                  refine RunAny.y 6 (by kernel_rfl) (yl_pure (d := some 49) (v := .slice Ap0 a0.length cp0) (k2 := [.inRegion (opsOf (pl Go.Proofs.Try.f3 [1, 1, 1, 0, 1, 0, 0, 1, 0, 0, 1, 0])) []]) fun w => by kernel_rfl) (fun _ _ => trivial) hS ?_
                  obtain ⟨t72, ht72, h⟩ := Option.bind_eq_some_iff.mp h
                  refine RunAny.call 0 (d := some 43) (g := 15) (args := #[]) (by kernel_rfl) (by kernel_rfl) (scrimlaw8_tags.calls k t72 _ ht72) (by rintro _ _ ⟨_, _, _, rfl, hM_⟩; exact hS.below hM_.below) ?_
                  rintro _ W71 ⟨A73, n74, c75, rfl, hM_⟩
                  obtain rfl : t72.length = n74 := by have h_ := (hM_.rd 0 rfl).1; simpa [nums_length, bools_length, strs_length] using h_
                  replace hS := hS.below hM_.below
                  replace hM : Mem w W71 (Gs [⟨.slice A73 t72.length c75, 3, 1, nums .i64 t72⟩, ⟨.slice A63 t62.length c65, 5, 1, nums .u8 t62⟩, ⟨.slice A52 t51.length c54, 3, 1, nums .i64 t51⟩] [Ft68_0, Fq46, Fq41, Fq40, Fq39]) := (Mem.callG (hM.as (H' := Gs [⟨.slice A63 t62.length c65, 5, 1, nums .u8 t62⟩, ⟨.slice A52 t51.length c54, 3, 1, nums .i64 t51⟩] [Ft68_0, Fq46, Fq41, Fq40, Fq39]) rfl) hM_.grp).as rfl
                  clear hM_ ht72
                  refine RunAny.rebase hS ?_
                  replace hS := Still.refl W71 []
                  rcases two (decide (0 ≤ x8_0)) with c78 | c78
                  · replace h := of_true h c78
                    rcases two (decide (x8_0 < (t72.length : Int))) with c79 | c79
                    · replace h := of_true h c79
                      obtain ⟨q77, hAq77, hcq77, hfq77, hlq77⟩ := hM.num_at 0 rfl (i := x8_0) (of_decide_eq_true c78) (by have h_ := of_decide_eq_true c79; omega)
                      refine RunAny.y 2 (by kernel_rfl) (idx_own (d := some 45) (A := A73) (m := t72.length) (i := x8_0) (k2 := [.inRegion (opsOf (pl Go.Proofs.Try.f3 [1, 1, 1, 0, 1, 0, 0, 1, 0, 0, 1, 0])) []]) (by kernel_rfl) (of_decide_eq_true c78) (by have h_ := of_decide_eq_true c79; omega) hAq77) (fun _ _ => trivial) hS ?_
                      refine RunAny.y 3 (by kernel_rfl) (ld_y (d := some 46) (p := ⟨q77, (x8_0 : Int).toNat, none⟩) (k2 := [.inRegion (opsOf (pl Go.Proofs.Try.f3 [1, 1, 1, 0, 1, 0, 0, 1, 0, 0, 1, 0])) []]) (.int .i64 (rd t72 x8_0)) (by kernel_rfl)) (fun _ hs => hs.cell hcq77 (by simp)) hS ?_
                      obtain ⟨t81, ht81, h⟩ := Option.bind_eq_some_iff.mp h
                      refine RunAny.call 5 (d := some 48) (g := 16) (args := #[.int .i64 x8_0]) (by kernel_rfl) (by kernel_rfl) (scrimlaw8_size.calls k x8_0 t81 _ ht81) (by rintro _ _ ⟨rfl, hM_⟩; exact hS.below hM_.below) ?_
                      rintro _ W80 ⟨rfl, hM_⟩
                      replace hS := hS.below hM_.below
                      replace hM : Mem w W80 (Gs [⟨.slice A73 t72.length c75, 3, 1, nums .i64 t72⟩, ⟨.slice A63 t62.length c65, 5, 1, nums .u8 t62⟩, ⟨.slice A52 t51.length c54, 3, 1, nums .i64 t51⟩] [Ft68_0, Fq46, Fq41, Fq40, Fq39]) := (Mem.callG (hM.as (H' := Gs [⟨.slice A73 t72.length c75, 3, 1, nums .i64 t72⟩, ⟨.slice A63 t62.length c65, 5, 1, nums .u8 t62⟩, ⟨.slice A52 t51.length c54, 3, 1, nums .i64 t51⟩] [Ft68_0, Fq46, Fq41, Fq40, Fq39]) rfl) hM_.grp).as rfl
                      clear hM_ ht81
                      refine RunAny.rebase hS ?_
                      replace hS := Still.refl W80 []
                      obtain ⟨t83, ht83, h⟩ := Option.bind_eq_some_iff.mp h
                      refine RunAny.call 7 (d := some 50) (g := 13) (args := #[.int .i64 t81, .slice Ap0 a0.length cp0]) (by kernel_rfl) (by kernel_rfl) (scrimlaw8_Bytes.calls k t81 Ap0 a0.length cp0 a0 t83 _ (hr0.mono hM.below) ht83) (by rintro _ _ ⟨_, _, _, rfl, hM_⟩; exact hS.below hM_.below) ?_
                      rintro _ W82 ⟨A84, n85, c86, rfl, hM_⟩
                      obtain rfl : t83.length = n85 := by have h_ := (hM_.rd 0 rfl).1; simpa [nums_length, bools_length, strs_length] using h_
                      replace hS := hS.below hM_.below
                      replace hM : Mem w W82 (Gs [⟨.slice A84 t83.length c86, 5, 1, nums .u8 t83⟩, ⟨.slice A73 t72.length c75, 3, 1, nums .i64 t72⟩, ⟨.slice A63 t62.length c65, 5, 1, nums .u8 t62⟩, ⟨.slice A52 t51.length c54, 3, 1, nums .i64 t51⟩] [Ft68_0, Fq46, Fq41, Fq40, Fq39]) := (Mem.callG (hM.as (H' := Gs [⟨.slice A73 t72.length c75, 3, 1, nums .i64 t72⟩, ⟨.slice A63 t62.length c65, 5, 1, nums .u8 t62⟩, ⟨.slice A52 t51.length c54, 3, 1, nums .i64 t51⟩] [Ft68_0, Fq46, Fq41, Fq40, Fq39]) rfl) hM_.grp).as rfl
                      clear hM_ ht83
                      refine RunAny.rebase hS ?_
                      replace hS := Still.refl W82 []
                      obtain ⟨t89, ht89, h⟩ := Option.bind_eq_some_iff.mp h
                      refine RunAny.call 8 (d := some 51) (g := 17) (args := #[.int .i64 (rd t72 x8_0), .slice A84 t83.length c86]) (by kernel_rfl) (by kernel_rfl) (scrimref8_New.calls k (rd t72 x8_0) A84 t83.length c86 t83 t89 _ (hM.rd 0 rfl) ht89) (by rintro _ _ ⟨_, _, rfl, _, hM_⟩; exact hS.below hM_.below) ?_
                      rintro _ W88 ⟨vt89_0, Ft89_0, rfl, hRt89_0, hM_⟩
                      replace hS := hS.below hM_.below
                      replace hM : Mem w W88 (Gs [⟨.slice A84 t83.length c86, 5, 1, nums .u8 t83⟩, ⟨.slice A73 t72.length c75, 3, 1, nums .i64 t72⟩, ⟨.slice A63 t62.length c65, 5, 1, nums .u8 t62⟩, ⟨.slice A52 t51.length c54, 3, 1, nums .i64 t51⟩] [Ft89_0, Ft68_0, Fq46, Fq41, Fq40, Fq39]) := (Mem.callG (hM.as (H' := Gs [⟨.slice A84 t83.length c86, 5, 1, nums .u8 t83⟩, ⟨.slice A73 t72.length c75, 3, 1, nums .i64 t72⟩, ⟨.slice A63 t62.length c65, 5, 1, nums .u8 t62⟩, ⟨.slice A52 t51.length c54, 3, 1, nums .i64 t51⟩] [Ft68_0, Fq46, Fq41, Fq40, Fq39]) rfl) hM_).as rfl
                      clear hM_ ht89
                      refine RunAny.rebase hS ?_
                      replace hS := Still.refl W88 []
                      refine RunAny.y 9 (by kernel_rfl) (yl_pure (d := some 42) (v := .tuple #[vt89_0, .int .i64 t89.2]) (k2 := [.inRegion (opsOf (pl Go.Proofs.Try.f3 [1, 1, 1, 0, 1, 0, 0, 1, 0, 0, 1, 0])) []]) fun w => by kernel_rfl) (fun _ _ => trivial) hS ?_
                      refine RunAny.y 10 (by kernel_rfl) (yl_pure (d := some 52) (v := vt89_0) (k2 := [.inRegion (opsOf (pl Go.Proofs.Try.f3 [1, 1, 1, 0, 1, 0, 0, 1, 0, 0, 1, 0])) []]) fun w => by kernel_rfl) (fun _ _ => trivial) hS ?_
                      refine RunAny.y 11 (by kernel_rfl) (yl_pure (d := some 53) (v := .int .i64 t89.2) (k2 := [.inRegion (opsOf (pl Go.Proofs.Try.f3 [1, 1, 1, 0, 1, 0, 0, 1, 0, 0, 1, 0])) []]) fun w => by kernel_rfl) (fun _ _ => trivial) hS ?_
                      refine RunAny.y 12 (by kernel_rfl) (yl_pure (d := some 11) (v := vt89_0) (k2 := [.inRegion (opsOf (pl Go.Proofs.Try.f3 [1, 1, 1, 0, 1, 0, 0, 1, 0, 0, 1, 0])) []]) fun w => by kernel_rfl) (fun _ _ => trivial) hS ?_
                      refine RunAny.y 13 (by kernel_rfl) (yl_pure (d := some 12) (v := .int .i64 t89.2) (k2 := [.inRegion (opsOf (pl Go.Proofs.Try.f3 [1, 1, 1, 0, 1, 0, 0, 1, 0, 0, 1, 0])) []]) fun w => by kernel_rfl) (fun _ _ => trivial) hS ?_
                      refine RunAny.done (by kernel_rfl) ?_
                      clear hS
                      refine RunF.go 4 [0, 7, 8, 9, 11, 54] (k' := (pin Go.Proofs.Try.f3 [1, 1, 1, 0, 1, 0, 0, 1, 0, 0, 1, 1, 0, 0] 1)) (L' := [(0, .slice Ap0 a0.length cp0), (7, .slice (some ⟨g43, 0, none⟩) 3 3), (8, .int .i64 x8_0), (9, vt68_0), (11, vt89_0), (54, vt68_0)]) (w' := W88) (by kernel_rfl) ?_
                      rcases two (t68.1.isSome) with c90 | c90
                      · replace h := of_true h c90
                        obtain ⟨s91, hx_, h⟩ := Option.bind_eq_some_iff.mp h
                        have hps91 := rOpt.some hRt68_0 hx_
                        obtain ⟨g92, _, rfl, hco93, _, _, rfl, ⟨Ao93_0, co93_0, rfl, ho93_0⟩, rfl⟩ := id hps91
                        refine RunF.go 3 [0, 7, 8, 9, 11, 56, 57] (k' := (pin Go.Proofs.Try.f3 [1, 1, 1, 0, 1, 0, 0, 1, 0, 0, 1, 1, 0, 0] 4)) (L' := [(0, .slice Ap0 a0.length cp0), (7, .slice (some ⟨g43, 0, none⟩) 3 3), (8, .int .i64 x8_0), (9, .pointer (some ⟨g92, 0, none⟩)), (11, vt89_0), (56, .bool false), (57, vt89_0)]) (w' := W88) (by kernel_rfl) ?_
                        rcases two (t89.1.isSome) with c94 | c94
                        · replace h := of_true h c94
                          obtain ⟨s95, hx_, h⟩ := Option.bind_eq_some_iff.mp h
                          have hps95 := rOpt.some hRt89_0 hx_
                          obtain ⟨g96, _, rfl, hco97, _, _, rfl, rfl, ⟨Ao97_1, co97_1, rfl, ho97_1⟩⟩ := id hps95
                          refine RunF.go 11 [0, 7, 8, 9, 11, 13] (k' := (pl Go.Proofs.Try.f3 [1, 1, 1, 0, 1, 0, 0, 1, 0, 0, 1, 1, 1, 1, 0, 0])) (L' := [(0, .slice Ap0 a0.length cp0), (7, .slice (some ⟨g43, 0, none⟩) 3 3), (8, .int .i64 x8_0), (9, .pointer (some ⟨g92, 0, none⟩)), (11, .pointer (some ⟨g96, 0, none⟩)), (13, .int .i64 0)]) (w' := W88) (by kernel_rfl) ?_
                          have l1 : ∀ (k_ : Nat), k_ ≤ k → ∀ (x13_1 : Int) (W : World) (hM : Mem w W (Gs [] [Ft89_0, Ft68_0, Fq46, Fq41, Fq40, Fq39])) (h : scrimlaw8_SmallBlocks.l1 k_ a0 s91 s95 t15 t6 x8_0 x13_1 = some r), RunF Go.Proofs.Try.prog (Ret fun v w' => v = .bool r ∧ Mem w w' []) 3 (pl Go.Proofs.Try.f3 [1, 1, 1, 0, 1, 0, 0, 1, 0, 0, 1, 1, 1, 1, 0, 0]) 100 [(0, .slice Ap0 a0.length cp0), (7, .slice (some ⟨g43, 0, none⟩) 3 3), (8, .int .i64 x8_0), (9, .pointer (some ⟨g92, 0, none⟩)), (11, .pointer (some ⟨g96, 0, none⟩)), (13, .int .i64 x13_1)] W := by
                            intro k_
                            induction k_ using Nat.strongRecOn with
                            | _ k_ ih1 =>
                              intro hk x13_1 W hM h
                              cases k_ with
                              | zero => exact absurd h (by simp [scrimlaw8_SmallBlocks.l1])
                              | succ k =>
                                simp only [scrimlaw8_SmallBlocks.l1] at h
                                replace ih1 : ∀ m, m ≤ k → _ := fun m hm => ih1 m (by omega) (by omega)
                                replace ih0 : ∀ m, m ≤ k → _ := fun m hm => ih0 m (by omega)
                                refine RunF.go 6 [0, 7, 8, 9, 11, 13, 61] (k' := (pl Go.Proofs.Try.f3 [1, 1, 1, 0, 1, 0, 0, 1, 0, 0, 1, 1, 1, 1, 0, 0, 0, 1])) (L' := [(0, .slice Ap0 a0.length cp0), (7, .slice (some ⟨g43, 0, none⟩) 3 3), (8, .int .i64 x8_0), (9, .pointer (some ⟨g92, 0, none⟩)), (11, .pointer (some ⟨g96, 0, none⟩)), (13, .int .i64 x13_1), (61, .bool (decide (x13_1 < 6)))]) (w' := W) (by kernel_rfl) ?_
                                rcases two (decide (x13_1 < 6)) with c98 | c98
                                · replace h := of_true h c98
                                  refine RunF.know 61 (b := true) (by kernel_rfl) c98 ?_
                                  refine RunF.go 10 [0, 7, 8, 9, 11, 13, 65, 66, 68] (k' := (pin Go.Proofs.Try.f3 [1, 1, 1, 0, 1, 0, 0, 1, 0, 0, 1, 1, 1, 1, 0, 0, 1, 0, 0, 0] 4)) (L' := [(0, .slice Ap0 a0.length cp0), (7, .slice (some ⟨g43, 0, none⟩) 3 3), (8, .int .i64 x8_0), (9, .pointer (some ⟨g92, 0, none⟩)), (11, .pointer (some ⟨g96, 0, none⟩)), (13, .int .i64 x13_1), (65, .pointer (some ⟨g92, 0, none⟩)), (66, .slice (some ⟨g43, 0, none⟩) 3 3), (68, .int .i64 (I64 (Int.tdiv x13_1 2)))]) (w' := W) (by kernel_rfl) ?_
                                  rcases two (decide (0 ≤ (I64 (Int.tdiv x13_1 2)))) with c100 | c100
                                  · replace h := of_true h c100
                                    rcases two (decide ((I64 (Int.tdiv x13_1 2)) < (3 : Int))) with c101 | c101
                                    · replace h := of_true h c101
                                      obtain ⟨uq99, huq99, hvq99⟩ := Each2.at hqq42 ([] : List Int) (i := I64 (Int.tdiv x13_1 2)) (of_decide_eq_true c100) (by have h_ : (I64 (Int.tdiv x13_1 2)) < (3 : Int) := (of_decide_eq_true c101); first | exact h_ | (simpa using h_))
                                      obtain ⟨Aq99, cq99, rfl, hq99⟩ := hvq99
                                      obtain ⟨q99, hAq99, hcq99⟩ := RdF.elem hfq46 (Mem.oks (hM.as (H' := Gs [] [Ft89_0, Ft68_0, Fq46, Fq41, Fq40, Fq39]) rfl) 2 rfl) huq99
                                      refine RunF.y (idx_y (d := some 69) (A := (some ⟨g43, 0, none⟩)) (m := 3) (i := I64 (Int.tdiv x13_1 2)) (k2 := (pin Go.Proofs.Try.f3 [1, 1, 1, 0, 1, 0, 0, 1, 0, 0, 1, 1, 1, 1, 0, 0, 1, 0, 0, 0] 5)) (by kernel_rfl) (of_decide_eq_true c100) (of_decide_eq_true c101) hAq99) trivial ?_
                                      refine RunF.y (ld_y (d := some 70) (p := (q99.add (I64 (Int.tdiv x13_1 2) : Int).toNat)) (k2 := (pin Go.Proofs.Try.f3 [1, 1, 1, 0, 1, 0, 0, 1, 0, 0, 1, 1, 1, 1, 0, 0, 1, 0, 0, 0] 6)) (.slice Aq99 ((rdr ([] : List Int) ([t6, t15, (List.replicate 8 (0 : Int))] : List (List Int)) (I64 (Int.tdiv x13_1 2))).length) cq99) (by kernel_rfl)) hcq99 ?_
                                      refine RunF.go 3 [0, 7, 8, 9, 11, 13, 65, 70, 73] (k' := (pin Go.Proofs.Try.f3 [1, 1, 1, 0, 1, 0, 0, 1, 0, 0, 1, 1, 1, 1, 0, 0, 1, 0, 0, 0] 9)) (L' := [(0, .slice Ap0 a0.length cp0), (7, .slice (some ⟨g43, 0, none⟩) 3 3), (8, .int .i64 x8_0), (9, .pointer (some ⟨g92, 0, none⟩)), (11, .pointer (some ⟨g96, 0, none⟩)), (13, .int .i64 x13_1), (65, .pointer (some ⟨g92, 0, none⟩)), (70, .slice Aq99 ((rdr ([] : List Int) ([t6, t15, (List.replicate 8 (0 : Int))] : List (List Int)) (I64 (Int.tdiv x13_1 2))).length) cq99), (73, .bool ((Int.tmod x13_1 2) == 1))]) (w' := W) (by kernel_rfl) ?_
                                      obtain ⟨t103, ht103, h⟩ := Option.bind_eq_some_iff.mp h
                                      refine RunF.call (d := some 74) (g := 18) (args := #[.pointer (some ⟨g92, 0, none⟩), .slice Aq99 ((rdr ([] : List Int) ([t6, t15, (List.replicate 8 (0 : Int))] : List (List Int)) (I64 (Int.tdiv x13_1 2))).length) cq99, .bool ((Int.tmod x13_1 2) == 1)]) (k2 := (pin Go.Proofs.Try.f3 [1, 1, 1, 0, 1, 0, 0, 1, 0, 0, 1, 1, 1, 1, 0, 0, 1, 0, 0, 0] 10)) (by kernel_rfl) (small_Small_Block.calls k (.pointer (some ⟨g92, 0, none⟩)) (Oks Ft68_0) s91 Aq99 ((rdr ([] : List Int) ([t6, t15, (List.replicate 8 (0 : Int))] : List (List Int)) (I64 (Int.tdiv x13_1 2))).length) cq99 (rdr ([] : List Int) ([t6, t15, (List.replicate 8 (0 : Int))] : List (List Int)) (I64 (Int.tdiv x13_1 2))) ((Int.tmod x13_1 2) == 1) t103 _ (hq99 _ (And.intro (Mem.oks (hM.as (H' := Gs [] [Ft89_0, Ft68_0, Fq46, Fq41, Fq40, Fq39]) rfl) 5 rfl) (And.intro (Mem.oks (hM.as (H' := Gs [] [Ft89_0, Ft68_0, Fq46, Fq41, Fq40, Fq39]) rfl) 4 rfl) (Mem.oks (hM.as (H' := Gs [] [Ft89_0, Ft68_0, Fq46, Fq41, Fq40, Fq39]) rfl) 3 rfl)))) hps91 (fun _ hb_ => ((Mem.oks (hM.as (H' := Gs [] [Ft89_0, Ft68_0, Fq46, Fq41, Fq40, Fq39]) rfl) 1 rfl).kept hb_)) ht103) ?_
                                      rintro _ W102 ⟨A104, n105, c106, rfl, hM_⟩
                                      obtain rfl : t103.1.length = n105 := by have h_ := (hM_.rd 0 rfl).1; simpa [nums_length, bools_length, strs_length] using h_
                                      replace hM : Mem w W102 (Gs [⟨.slice A104 t103.1.length c106, 5, 1, nums .u8 t103.1⟩] [Ft89_0, Ft68_0, Fq46, Fq41, Fq40, Fq39]) := (Mem.callG (hM.as (H' := Gs [] [Ft89_0, Ft68_0, Fq46, Fq41, Fq40, Fq39]) rfl) hM_.grp).as rfl
                                      clear hM_ ht103
                                      refine RunF.go 12 [0, 7, 8, 9, 11, 13, 14, 15, 78, 79, 81] (k' := (pin Go.Proofs.Try.f3 [1, 1, 1, 0, 1, 0, 0, 1, 0, 0, 1, 1, 1, 1, 0, 0, 1, 0, 0, 1, 0] 4)) (L' := [(0, .slice Ap0 a0.length cp0), (7, .slice (some ⟨g43, 0, none⟩) 3 3), (8, .int .i64 x8_0), (9, .pointer (some ⟨g92, 0, none⟩)), (11, .pointer (some ⟨g96, 0, none⟩)), (13, .int .i64 x13_1), (14, .slice A104 t103.1.length c106), (15, .int .i64 t103.2), (78, .pointer (some ⟨g96, 0, none⟩)), (79, .slice (some ⟨g43, 0, none⟩) 3 3), (81, .int .i64 (I64 (Int.tdiv x13_1 2)))]) (w' := W102) (by kernel_rfl) ?_
                                      rcases two (decide (0 ≤ (I64 (Int.tdiv x13_1 2)))) with c109 | c109
                                      · replace h := of_true h c109
                                        rcases two (decide ((I64 (Int.tdiv x13_1 2)) < (3 : Int))) with c110 | c110
                                        · replace h := of_true h c110
                                          obtain ⟨uq108, huq108, hvq108⟩ := Each2.at hqq42 ([] : List Int) (i := I64 (Int.tdiv x13_1 2)) (of_decide_eq_true c109) (by have h_ : (I64 (Int.tdiv x13_1 2)) < (3 : Int) := (of_decide_eq_true c110); first | exact h_ | (simpa using h_))
                                          obtain ⟨Aq108, cq108, rfl, hq108⟩ := hvq108
                                          obtain ⟨q108, hAq108, hcq108⟩ := RdF.elem hfq46 (Mem.oks (hM.as (H' := Gs [⟨.slice A104 t103.1.length c106, 5, 1, nums .u8 t103.1⟩] [Ft89_0, Ft68_0, Fq46, Fq41, Fq40, Fq39]) rfl) 2 rfl) huq108
                                          refine RunF.y (idx_y (d := some 82) (A := (some ⟨g43, 0, none⟩)) (m := 3) (i := I64 (Int.tdiv x13_1 2)) (k2 := (pin Go.Proofs.Try.f3 [1, 1, 1, 0, 1, 0, 0, 1, 0, 0, 1, 1, 1, 1, 0, 0, 1, 0, 0, 1, 0] 5)) (by kernel_rfl) (of_decide_eq_true c109) (of_decide_eq_true c110) hAq108) trivial ?_
                                          refine RunF.y (ld_y (d := some 83) (p := (q108.add (I64 (Int.tdiv x13_1 2) : Int).toNat)) (k2 := (pin Go.Proofs.Try.f3 [1, 1, 1, 0, 1, 0, 0, 1, 0, 0, 1, 1, 1, 1, 0, 0, 1, 0, 0, 1, 0] 6)) (.slice Aq108 ((rdr ([] : List Int) ([t6, t15, (List.replicate 8 (0 : Int))] : List (List Int)) (I64 (Int.tdiv x13_1 2))).length) cq108) (by kernel_rfl)) hcq108 ?_
                                          refine RunF.go 3 [0, 7, 8, 9, 11, 13, 14, 15, 78, 83, 86] (k' := (pin Go.Proofs.Try.f3 [1, 1, 1, 0, 1, 0, 0, 1, 0, 0, 1, 1, 1, 1, 0, 0, 1, 0, 0, 1, 0] 9)) (L' := [(0, .slice Ap0 a0.length cp0), (7, .slice (some ⟨g43, 0, none⟩) 3 3), (8, .int .i64 x8_0), (9, .pointer (some ⟨g92, 0, none⟩)), (11, .pointer (some ⟨g96, 0, none⟩)), (13, .int .i64 x13_1), (14, .slice A104 t103.1.length c106), (15, .int .i64 t103.2), (78, .pointer (some ⟨g96, 0, none⟩)), (83, .slice Aq108 ((rdr ([] : List Int) ([t6, t15, (List.replicate 8 (0 : Int))] : List (List Int)) (I64 (Int.tdiv x13_1 2))).length) cq108), (86, .bool ((Int.tmod x13_1 2) == 1))]) (w' := W102) (by kernel_rfl) ?_
                                          obtain ⟨t112, ht112, h⟩ := Option.bind_eq_some_iff.mp h
                                          refine RunF.call (d := some 87) (g := 19) (args := #[.pointer (some ⟨g96, 0, none⟩), .slice Aq108 ((rdr ([] : List Int) ([t6, t15, (List.replicate 8 (0 : Int))] : List (List Int)) (I64 (Int.tdiv x13_1 2))).length) cq108, .bool ((Int.tmod x13_1 2) == 1)]) (k2 := (pin Go.Proofs.Try.f3 [1, 1, 1, 0, 1, 0, 0, 1, 0, 0, 1, 1, 1, 1, 0, 0, 1, 0, 0, 1, 0] 10)) (by kernel_rfl) (scrimref8_Small_Block.calls k (.pointer (some ⟨g96, 0, none⟩)) (Oks Ft89_0) s95 Aq108 ((rdr ([] : List Int) ([t6, t15, (List.replicate 8 (0 : Int))] : List (List Int)) (I64 (Int.tdiv x13_1 2))).length) cq108 (rdr ([] : List Int) ([t6, t15, (List.replicate 8 (0 : Int))] : List (List Int)) (I64 (Int.tdiv x13_1 2))) ((Int.tmod x13_1 2) == 1) t112 _ (hq108 _ (And.intro (Mem.oks (hM.as (H' := Gs [⟨.slice A104 t103.1.length c106, 5, 1, nums .u8 t103.1⟩] [Ft89_0, Ft68_0, Fq46, Fq41, Fq40, Fq39]) rfl) 5 rfl) (And.intro (Mem.oks (hM.as (H' := Gs [⟨.slice A104 t103.1.length c106, 5, 1, nums .u8 t103.1⟩] [Ft89_0, Ft68_0, Fq46, Fq41, Fq40, Fq39]) rfl) 4 rfl) (Mem.oks (hM.as (H' := Gs [⟨.slice A104 t103.1.length c106, 5, 1, nums .u8 t103.1⟩] [Ft89_0, Ft68_0, Fq46, Fq41, Fq40, Fq39]) rfl) 3 rfl)))) hps95 (fun _ hb_ => ((Mem.oks (hM.as (H' := Gs [⟨.slice A104 t103.1.length c106, 5, 1, nums .u8 t103.1⟩] [Ft89_0, Ft68_0, Fq46, Fq41, Fq40, Fq39]) rfl) 0 rfl).kept hb_)) ht112) ?_
                                          rintro _ W111 ⟨A113, n114, c115, rfl, hM_⟩
                                          obtain rfl : t112.1.length = n114 := by have h_ := (hM_.rd 0 rfl).1; simpa [nums_length, bools_length, strs_length] using h_
                                          replace hM : Mem w W111 (Gs [⟨.slice A113 t112.1.length c115, 5, 1, nums .u8 t112.1⟩, ⟨.slice A104 t103.1.length c106, 5, 1, nums .u8 t103.1⟩] [Ft89_0, Ft68_0, Fq46, Fq41, Fq40, Fq39]) := (Mem.callG (hM.as (H' := Gs [⟨.slice A104 t103.1.length c106, 5, 1, nums .u8 t103.1⟩] [Ft89_0, Ft68_0, Fq46, Fq41, Fq40, Fq39]) rfl) hM_.grp).as rfl
                                          clear hM_ ht112
                                          refine RunF.go 12 [0, 7, 8, 9, 11, 13, 14, 16, 93] (k' := (pin Go.Proofs.Try.f3 [1, 1, 1, 0, 1, 0, 0, 1, 0, 0, 1, 1, 1, 1, 0, 0, 1, 0, 0, 1, 1, 0] 4)) (L' := [(0, .slice Ap0 a0.length cp0), (7, .slice (some ⟨g43, 0, none⟩) 3 3), (8, .int .i64 x8_0), (9, .pointer (some ⟨g92, 0, none⟩)), (11, .pointer (some ⟨g96, 0, none⟩)), (13, .int .i64 x13_1), (14, .slice A104 t103.1.length c106), (16, .slice A113 t112.1.length c115), (93, .bool (t103.2 != t112.2))]) (w' := W111) (by kernel_rfl) ?_
                                          rcases two ((t103.2 != t112.2)) with c117 | c117
                                          · replace h := of_true h c117
                                            refine RunF.know 93 (b := true) (by kernel_rfl) c117 ?_
                                            refine RunF.go 12 [6] (k' := (pl Go.Proofs.Try.f3 [1, 1, 1, 0, 1, 0, 0, 1, 0, 0, 1, 1, 1, 1, 0, 0, 1, 0, 0, 1, 1, 1, 0, 1])) (L' := [(6, .bool false)]) (w' := W111) (by kernel_rfl) ?_
                                            obtain rfl := Option.some.inj h
                                            exact RunF.ret1 6 (.bool false) (fn := Go.Proofs.Try.f3) Go.Proofs.Try.func3 (by kernel_rfl) (by kernel_rfl) (by kernel_rfl) ⟨_, rfl, rfl, (Mem.pickF (hM.as (H' := Gs [⟨.slice A113 t112.1.length c115, 5, 1, nums .u8 t112.1⟩, ⟨.slice A104 t103.1.length c106, 5, 1, nums .u8 t103.1⟩] [Ft89_0, Ft68_0, Fq46, Fq41, Fq40, Fq39]) rfl) [] rfl rfl rfl).ungrp⟩
                                          · replace h := of_false h c117
                                            refine RunF.know 93 (b := false) (by kernel_rfl) c117 ?_
                                            refine RunF.go 1 [0, 7, 8, 9, 11, 13, 16, 93, 94] (k' := (pin Go.Proofs.Try.f3 [1, 1, 1, 0, 1, 0, 0, 1, 0, 0, 1, 1, 1, 1, 0, 0, 1, 0, 0, 1, 1, 0] 5)) (L' := [(0, .slice Ap0 a0.length cp0), (7, .slice (some ⟨g43, 0, none⟩) 3 3), (8, .int .i64 x8_0), (9, .pointer (some ⟨g92, 0, none⟩)), (11, .pointer (some ⟨g96, 0, none⟩)), (13, .int .i64 x13_1), (16, .slice A113 t112.1.length c115), (93, .bool false), (94, .slice A104 t103.1.length c106)]) (w' := W111) (by kernel_rfl) ?_
                                            refine RunF.y (str_y (d := some 95) (A := A104) (m := t103.1.length) (c := c106) (k2 := (pin Go.Proofs.Try.f3 [1, 1, 1, 0, 1, 0, 0, 1, 0, 0, 1, 1, 1, 1, 0, 0, 1, 0, 0, 1, 1, 0] 6)) t103.1 (by kernel_rfl)) (hM.rd 1 rfl) ?_
                                            refine RunF.go 1 [0, 7, 8, 9, 11, 13, 93, 95, 96] (k' := (pin Go.Proofs.Try.f3 [1, 1, 1, 0, 1, 0, 0, 1, 0, 0, 1, 1, 1, 1, 0, 0, 1, 0, 0, 1, 1, 0] 7)) (L' := [(0, .slice Ap0 a0.length cp0), (7, .slice (some ⟨g43, 0, none⟩) 3 3), (8, .int .i64 x8_0), (9, .pointer (some ⟨g92, 0, none⟩)), (11, .pointer (some ⟨g96, 0, none⟩)), (13, .int .i64 x13_1), (93, .bool false), (95, .string (strOf t103.1)), (96, .slice A113 t112.1.length c115)]) (w' := W111) (by kernel_rfl) ?_
                                            refine RunF.y (str_y (d := some 97) (A := A113) (m := t112.1.length) (c := c115) (k2 := (pin Go.Proofs.Try.f3 [1, 1, 1, 0, 1, 0, 0, 1, 0, 0, 1, 1, 1, 1, 0, 0, 1, 0, 0, 1, 1, 0] 8)) t112.1 (by kernel_rfl)) (hM.rd 0 rfl) ?_
                                            refine RunF.go 3 [0, 7, 8, 9, 11, 13, 99] (k' := (pl Go.Proofs.Try.f3 [1, 1, 1, 0, 1, 0, 0, 1, 0, 0, 1, 1, 1, 1, 0, 0, 1, 0, 0, 1, 1, 1])) (L' := [(0, .slice Ap0 a0.length cp0), (7, .slice (some ⟨g43, 0, none⟩) 3 3), (8, .int .i64 x8_0), (9, .pointer (some ⟨g92, 0, none⟩)), (11, .pointer (some ⟨g96, 0, none⟩)), (13, .int .i64 x13_1), (99, .bool (!((strOf t103.1).toList == (strOf t112.1).toList)))]) (w' := W111) (by kernel_rfl) ?_
                                            obtain ⟨y118, hy, h⟩ := Option.bind_eq_some_iff.mp h
                                            rw [show (!((strOf t103.1).toList == (strOf t112.1).toList)) = y118 from Option.some.inj hy]
                                            clear hy
                                            rcases two (y118) with c119 | c119
                                            · replace h := of_true h c119
                                              refine RunF.know 99 (b := true) (by kernel_rfl) c119 ?_
                                              refine RunF.go 5 [6] (k' := (pl Go.Proofs.Try.f3 [1, 1, 1, 0, 1, 0, 0, 1, 0, 0, 1, 1, 1, 1, 0, 0, 1, 0, 0, 1, 1, 1, 0, 1])) (L' := [(6, .bool false)]) (w' := W111) (by kernel_rfl) ?_
                                              obtain rfl := Option.some.inj h
                                              exact RunF.ret1 6 (.bool false) (fn := Go.Proofs.Try.f3) Go.Proofs.Try.func3 (by kernel_rfl) (by kernel_rfl) (by kernel_rfl) ⟨_, rfl, rfl, (Mem.pickF (hM.as (H' := Gs [⟨.slice A113 t112.1.length c115, 5, 1, nums .u8 t112.1⟩, ⟨.slice A104 t103.1.length c106, 5, 1, nums .u8 t103.1⟩] [Ft89_0, Ft68_0, Fq46, Fq41, Fq40, Fq39]) rfl) [] rfl rfl rfl).ungrp⟩
                                            · replace h := of_false h c119
                                              refine RunF.know 99 (b := false) (by kernel_rfl) c119 ?_
                                              refine RunF.go 9 [0, 7, 8, 9, 11, 13] (k' := (pl Go.Proofs.Try.f3 [1, 1, 1, 0, 1, 0, 0, 1, 0, 0, 1, 1, 1, 1, 0, 0])) (L' := [(0, .slice Ap0 a0.length cp0), (7, .slice (some ⟨g43, 0, none⟩) 3 3), (8, .int .i64 x8_0), (9, .pointer (some ⟨g92, 0, none⟩)), (11, .pointer (some ⟨g96, 0, none⟩)), (13, .int .i64 (I64 (x13_1 + 1)))]) (w' := W111) (by kernel_rfl) ?_
                                              exact ih1 k (by omega) (I64 (x13_1 + 1)) _ (Mem.pickF (hM.as (H' := Gs [⟨.slice A113 t112.1.length c115, 5, 1, nums .u8 t112.1⟩, ⟨.slice A104 t103.1.length c106, 5, 1, nums .u8 t103.1⟩] [Ft89_0, Ft68_0, Fq46, Fq41, Fq40, Fq39]) rfl) [2, 3, 4, 5, 6, 7] rfl rfl rfl) h
                                        · replace h := of_false h c110
                                          cases h
                                      · replace h := of_false h c109
                                        cases h
                                    · replace h := of_false h c101
                                      cases h
                                  · replace h := of_false h c100
                                    cases h
                                · replace h := of_false h c98
                                  refine RunF.know 61 (b := false) (by kernel_rfl) c98 ?_
                                  refine RunF.go 9 [0, 7, 8] (k' := (pl Go.Proofs.Try.f3 [1, 1, 1, 0, 1, 0, 0])) (L' := [(0, .slice Ap0 a0.length cp0), (7, .slice (some ⟨g43, 0, none⟩) 3 3), (8, .int .i64 (I64 (x8_0 + 1)))]) (w' := W) (by kernel_rfl) ?_
                                  exact ih0 k (by omega) (I64 (x8_0 + 1)) _ (Mem.pickF (hM.as (H' := Gs [] [Ft89_0, Ft68_0, Fq46, Fq41, Fq40, Fq39]) rfl) [2, 3, 4, 5] rfl rfl rfl) h
                          exact l1 k (Nat.le_refl _) 0 _ (Mem.pickF (hM.as (H' := Gs [⟨.slice A84 t83.length c86, 5, 1, nums .u8 t83⟩, ⟨.slice A73 t72.length c75, 3, 1, nums .i64 t72⟩, ⟨.slice A63 t62.length c65, 5, 1, nums .u8 t62⟩, ⟨.slice A52 t51.length c54, 3, 1, nums .i64 t51⟩] [Ft89_0, Ft68_0, Fq46, Fq41, Fq40, Fq39]) rfl) [4, 5, 6, 7, 8, 9] rfl rfl rfl) h
                        · replace h := of_false h c94
                          obtain rfl := rOpt.none hRt89_0 c94
                          refine RunF.go 8 [6] (k' := (pl Go.Proofs.Try.f3 [1, 1, 1, 0, 1, 0, 0, 1, 0, 0, 1, 1, 0, 1, 0, 1])) (L' := [(6, .bool false)]) (w' := W88) (by kernel_rfl) ?_
                          obtain rfl := Option.some.inj h
                          exact RunF.ret1 6 (.bool false) (fn := Go.Proofs.Try.f3) Go.Proofs.Try.func3 (by kernel_rfl) (by kernel_rfl) (by kernel_rfl) ⟨_, rfl, rfl, (Mem.pickF (hM.as (H' := Gs [⟨.slice A84 t83.length c86, 5, 1, nums .u8 t83⟩, ⟨.slice A73 t72.length c75, 3, 1, nums .i64 t72⟩, ⟨.slice A63 t62.length c65, 5, 1, nums .u8 t62⟩, ⟨.slice A52 t51.length c54, 3, 1, nums .i64 t51⟩] [Ft89_0, Ft68_0, Fq46, Fq41, Fq40, Fq39]) rfl) [] rfl rfl rfl).ungrp⟩
                      · replace h := of_false h c90
                        obtain rfl := rOpt.none hRt68_0 c90
                        refine RunF.go 11 [6] (k' := (pl Go.Proofs.Try.f3 [1, 1, 1, 0, 1, 0, 0, 1, 0, 0, 1, 1, 0, 1, 0, 1])) (L' := [(6, .bool false)]) (w' := W88) (by kernel_rfl) ?_
                        obtain rfl := Option.some.inj h
                        exact RunF.ret1 6 (.bool false) (fn := Go.Proofs.Try.f3) Go.Proofs.Try.func3 (by kernel_rfl) (by kernel_rfl) (by kernel_rfl) ⟨_, rfl, rfl, (Mem.pickF (hM.as (H' := Gs [⟨.slice A84 t83.length c86, 5, 1, nums .u8 t83⟩, ⟨.slice A73 t72.length c75, 3, 1, nums .i64 t72⟩, ⟨.slice A63 t62.length c65, 5, 1, nums .u8 t62⟩, ⟨.slice A52 t51.length c54, 3, 1, nums .i64 t51⟩] [Ft89_0, Ft68_0, Fq46, Fq41, Fq40, Fq39]) rfl) [] rfl rfl rfl).ungrp⟩
                    · replace h := of_false h c79
                      cases h
                  · replace h := of_false h c78
                    cases h
                · replace h := of_false h c58
                  cases h
              · replace h := of_false h c57
                cases h
            · replace h := of_false h c47
              refine RunF.know 27 (b := false) (by kernel_rfl) c47 ?_
              refine RunF.go 6 [6] (k' := (pl Go.Proofs.Try.f3 [1, 1, 1, 1, 1])) (L' := [(6, .bool true)]) (w' := W) (by kernel_rfl) ?_
              obtain rfl := Option.some.inj h
              exact RunF.ret1 6 (.bool true) (fn := Go.Proofs.Try.f3) Go.Proofs.Try.func3 (by kernel_rfl) (by kernel_rfl) (by kernel_rfl) ⟨_, rfl, rfl, (Mem.pickF (hM.as (H' := Gs [] [Fq46, Fq41, Fq40, Fq39]) rfl) [] rfl rfl rfl).ungrp⟩
      exact l0 k (Nat.le_refl _) 0 _ (Mem.pickF (hM.as (H' := Gs [] [Fq46, Fq41, Fq40, Fq39]) rfl) [0, 1, 2, 3] rfl rfl rfl) h
    have J120 : ∀ (A8 : Option Addr) (c10 : Nat) (g22 : Nat) (W121 : World) (hS : Still W121 [] W121) (hM : Mem w W121 [⟨.slice A8 t6.length c10, 5, 1, nums .u8 t6⟩, ⟨.slice (some ⟨g22, 0, none⟩) 8 8, 5, 1, nums .u8 (List.replicate 8 (0 : Int))⟩]) , RunAny Go.Proofs.Try.prog (Ret fun v w' => v = .bool r ∧ Mem w w' []) 3 (rest1 (pl Go.Proofs.Try.f3 [1, 1, 0])) 100 (opsOf (pl Go.Proofs.Try.f3 [1, 1, 0])) (Still W121 []) 3 [0, 2, 1, 4] [(0, .slice Ap0 a0.length cp0), (1, .slice Ap1 a1.length cp1), (2, .slice Ap2 a2.length cp2), (20, .slice Ap1 a1.length cp1), (21, .slice A8 t6.length c10), (22, .slice Ap2 a2.length cp2), (24, .slice (some ⟨g22, 0, none⟩) 8 8)] W121 := by
      intro A8 c10 g22 W121 hS hM 
      refine RunAny.call 3 (d := some 23) (g := 13) (args := #[.int .i64 8, .slice Ap2 a2.length cp2]) (by kernel_rfl) (by kernel_rfl) (scrimlaw8_Bytes.calls k 8 Ap2 a2.length cp2 a2 t15 _ (hr2.mono hM.below) ht15) (by rintro _ _ ⟨_, _, _, rfl, hM_⟩; exact hS.below hM_.below) ?_
      rintro _ W122 ⟨A123, n124, c125, rfl, hM_⟩
      obtain rfl : t15.length = n124 := by have h_ := (hM_.rd 0 rfl).1; simpa [nums_length, bools_length, strs_length] using h_
      replace hS := hS.below hM_.below
      replace hM := hM.call hM_
      clear hM_ ht15
      refine RunAny.rebase hS ?_
      replace hS := Still.refl W122 []
      exact RunAny.same [0, 2, 1, 3, 4] (by kernel_rfl) [0, 1, 2, 20, 21, 22, 23, 24] (by kernel_rfl) (J37 A8 c10 A123 c125 g22 _ hS (hM.pick [1, 0, 2] rfl rfl))
    have J127 : ∀ (A8 : Option Addr) (c10 : Nat) (A17 : Option Addr) (c19 : Nat) (W128 : World) (hS : Still W128 [] W128) (hM : Mem w W128 [⟨.slice A8 t6.length c10, 5, 1, nums .u8 t6⟩, ⟨.slice A17 t15.length c19, 5, 1, nums .u8 t15⟩]) , RunAny Go.Proofs.Try.prog (Ret fun v w' => v = .bool r ∧ Mem w w' []) 3 (rest1 (pl Go.Proofs.Try.f3 [1, 1, 0])) 100 (opsOf (pl Go.Proofs.Try.f3 [1, 1, 0])) (Still W128 []) 3 [0, 2, 1, 3] [(0, .slice Ap0 a0.length cp0), (1, .slice Ap1 a1.length cp1), (2, .slice Ap2 a2.length cp2), (20, .slice Ap1 a1.length cp1), (21, .slice A8 t6.length c10), (22, .slice Ap2 a2.length cp2), (23, .slice A17 t15.length c19)] W128 := by
      intro A8 c10 A17 c19 W128 hS hM 
      obtain ⟨W129, hD, hM', hB_⟩ := mk_does (P := Go.Proofs.Try.prog) (n := 100) (k := (one (opsOf (pl Go.Proofs.Try.f3 [1, 1, 0])) 4)) (L := [(0, .slice Ap0 a0.length cp0), (1, .slice Ap1 a1.length cp1), (2, .slice Ap2 a2.length cp2), (20, .slice Ap1 a1.length cp1), (21, .slice A8 t6.length c10), (22, .slice Ap2 a2.length cp2), (23, .slice A17 t15.length c19)]) (d := some 24) (e := 5) (z := .int .u8 0) (l := 8) (c := 8) (k2 := [.inRegion (opsOf (pl Go.Proofs.Try.f3 [1, 1, 0])) []]) (by kernel_rfl) (by omega) (by omega) (by omega) hM
      rw [rep_nums] at hM'
      refine RunAny.does 4 (by kernel_rfl) hD (hS.below hB_) ?_
      replace hS := hS.below hB_; clear hB_
      replace hM := hM'; clear hD hM'
      generalize W128.heap.size = g130 at hM ⊢
      refine RunAny.rebase hS ?_
      replace hS := Still.refl W129 []
      exact RunAny.same [0, 2, 1, 3, 4] (by kernel_rfl) [0, 1, 2, 20, 21, 22, 23, 24] (by kernel_rfl) (J37 A8 c10 A17 c19 g130 _ hS (hM.pick [1, 2, 0] rfl rfl))
    have J132 : ∀ (g13 : Nat) (W133 : World) (hS : Still W133 [] W133) (hM : Mem w W133 [⟨.slice (some ⟨g13, 0, none⟩) 8 8, 5, 1, nums .u8 (List.replicate 8 (0 : Int))⟩]) , RunAny Go.Proofs.Try.prog (Ret fun v w' => v = .bool r ∧ Mem w w' []) 3 (rest1 (pl Go.Proofs.Try.f3 [1, 1, 0])) 100 (opsOf (pl Go.Proofs.Try.f3 [1, 1, 0])) (Still W133 []) 4 [0, 2, 4] [(0, .slice Ap0 a0.length cp0), (1, .slice Ap1 a1.length cp1), (2, .slice Ap2 a2.length cp2), (20, .slice Ap1 a1.length cp1), (22, .slice Ap2 a2.length cp2), (24, .slice (some ⟨g13, 0, none⟩) 8 8)] W133 := by
      intro g13 W133 hS hM 
      refine RunAny.call 1 (d := some 21) (g := 13) (args := #[.int .i64 8, .slice Ap1 a1.length cp1]) (by kernel_rfl) (by kernel_rfl) (scrimlaw8_Bytes.calls k 8 Ap1 a1.length cp1 a1 t6 _ (hr1.mono hM.below) ht6) (by rintro _ _ ⟨_, _, _, rfl, hM_⟩; exact hS.below hM_.below) ?_
      rintro _ W134 ⟨A135, n136, c137, rfl, hM_⟩
      obtain rfl : t6.length = n136 := by have h_ := (hM_.rd 0 rfl).1; simpa [nums_length, bools_length, strs_length] using h_
      replace hS := hS.below hM_.below
      replace hM := hM.call hM_
      clear hM_ ht6
      refine RunAny.rebase hS ?_
      replace hS := Still.refl W134 []
      exact RunAny.same [0, 2, 1, 4] (by kernel_rfl) [0, 1, 2, 20, 21, 22, 24] (by kernel_rfl) (J120 A135 c137 g13 _ hS (hM.pick [0, 1] rfl rfl))
    have J139 : ∀ (A8 : Option Addr) (c10 : Nat) (W140 : World) (hS : Still W140 [] W140) (hM : Mem w W140 [⟨.slice A8 t6.length c10, 5, 1, nums .u8 t6⟩]) , RunAny Go.Proofs.Try.prog (Ret fun v w' => v = .bool r ∧ Mem w w' []) 3 (rest1 (pl Go.Proofs.Try.f3 [1, 1, 0])) 100 (opsOf (pl Go.Proofs.Try.f3 [1, 1, 0])) (Still W140 []) 4 [0, 2, 1] [(0, .slice Ap0 a0.length cp0), (1, .slice Ap1 a1.length cp1), (2, .slice Ap2 a2.length cp2), (20, .slice Ap1 a1.length cp1), (21, .slice A8 t6.length c10), (22, .slice Ap2 a2.length cp2)] W140 := by
      intro A8 c10 W140 hS hM 
      refine RunAny.all [3, 4] (by kernel_rfl) (by simp) ?_
      refine ⟨?_, ?_, trivial⟩
      · refine Stepped.call 3 (d := some 23) (g := 13) (args := #[.int .i64 8, .slice Ap2 a2.length cp2]) (by kernel_rfl) (scrimlaw8_Bytes.calls k 8 Ap2 a2.length cp2 a2 t15 _ (hr2.mono hM.below) ht15) (by rintro _ _ ⟨_, _, _, rfl, hM_⟩; exact hS.below hM_.below) ?_
        rintro _ W141 ⟨A142, n143, c144, rfl, hM_⟩
        obtain rfl : t15.length = n143 := by have h_ := (hM_.rd 0 rfl).1; simpa [nums_length, bools_length, strs_length] using h_
        replace hS := hS.below hM_.below
        replace hM := hM.call hM_
        clear hM_ ht15
        refine RunAny.rebase hS ?_
        replace hS := Still.refl W141 []
        exact RunAny.same [0, 2, 1, 3] (by kernel_rfl) [0, 1, 2, 20, 21, 22, 23] (by kernel_rfl) (J127 A8 c10 A142 c144 _ hS (hM.pick [1, 0] rfl rfl))
      · obtain ⟨W146, hD, hM', hB_⟩ := mk_does (P := Go.Proofs.Try.prog) (n := 100) (k := (one (opsOf (pl Go.Proofs.Try.f3 [1, 1, 0])) 4)) (L := [(0, .slice Ap0 a0.length cp0), (1, .slice Ap1 a1.length cp1), (2, .slice Ap2 a2.length cp2), (20, .slice Ap1 a1.length cp1), (21, .slice A8 t6.length c10), (22, .slice Ap2 a2.length cp2)]) (d := some 24) (e := 5) (z := .int .u8 0) (l := 8) (c := 8) (k2 := [.inRegion (opsOf (pl Go.Proofs.Try.f3 [1, 1, 0])) []]) (by kernel_rfl) (by omega) (by omega) (by omega) hM
        rw [rep_nums] at hM'
        refine Stepped.does 4 hD (hS.below hB_) ?_
        replace hS := hS.below hB_; clear hB_
        replace hM := hM'; clear hD hM'
        generalize W140.heap.size = g147 at hM ⊢
        refine RunAny.rebase hS ?_
        replace hS := Still.refl W146 []
        exact RunAny.same [0, 2, 1, 4] (by kernel_rfl) [0, 1, 2, 20, 21, 22, 24] (by kernel_rfl) (J120 A8 c10 g147 _ hS (hM.pick [1, 0] rfl rfl))
    refine RunAny.all [1, 4] (by kernel_rfl) (by simp) ?_
    refine ⟨?_, ?_, trivial⟩
    · refine Stepped.call 1 (d := some 21) (g := 13) (args := #[.int .i64 8, .slice Ap1 a1.length cp1]) (by kernel_rfl) (scrimlaw8_Bytes.calls k 8 Ap1 a1.length cp1 a1 t6 _ (hr1.mono hM.below) ht6) (by rintro _ _ ⟨_, _, _, rfl, hM_⟩; exact hS.below hM_.below) ?_
      rintro _ W149 ⟨A150, n151, c152, rfl, hM_⟩
      obtain rfl : t6.length = n151 := by have h_ := (hM_.rd 0 rfl).1; simpa [nums_length, bools_length, strs_length] using h_
      replace hS := hS.below hM_.below
      replace hM := hM.call hM_
      clear hM_ ht6
      refine RunAny.rebase hS ?_
      replace hS := Still.refl W149 []
      exact RunAny.same [0, 2, 1] (by kernel_rfl) [0, 1, 2, 20, 21, 22] (by kernel_rfl) (J139 A150 c152 _ hS (hM.pick [0] rfl rfl))
    · obtain ⟨W154, hD, hM', hB_⟩ := mk_does (P := Go.Proofs.Try.prog) (n := 100) (k := (one (opsOf (pl Go.Proofs.Try.f3 [1, 1, 0])) 4)) (L := (upd (upd [(0, .slice Ap0 a0.length cp0), (1, .slice Ap1 a1.length cp1), (2, .slice Ap2 a2.length cp2)] (some 20) (.slice Ap1 a1.length cp1)) (some 22) (.slice Ap2 a2.length cp2))) (d := some 24) (e := 5) (z := .int .u8 0) (l := 8) (c := 8) (k2 := [.inRegion (opsOf (pl Go.Proofs.Try.f3 [1, 1, 0])) []]) (by kernel_rfl) (by omega) (by omega) (by omega) hM
      rw [rep_nums] at hM'
      refine Stepped.does 4 hD (hS.below hB_) ?_
      replace hS := hS.below hB_; clear hB_
      replace hM := hM'; clear hD hM'
      generalize W4.heap.size = g155 at hM ⊢
      refine RunAny.rebase hS ?_
      replace hS := Still.refl W154 []
      exact RunAny.same [0, 2, 4] (by kernel_rfl) [0, 1, 2, 20, 22, 24] (by kernel_rfl) (J132 g155 _ hS (hM.pick [0] rfl rfl))


end Go.Scr.S
