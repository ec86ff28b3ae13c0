/- The functions that the law SmallApart reaches, as plain functions, and that each call answers so. -/
import Derived.Test.YtahfhogifkkoeaaProg
import Derived.Test.YtahfhogifkkoeaaFnSmallApart1
set_option linter.unusedVariables false
set_option linter.unusedSimpArgs false
set_option linter.unnecessarySimpa false
namespace Go.Scr.S
open Go.RowKit (Below)
/-! ### (*scrim/scrimref8.Small).magma: function 38 -/
def scrimref8_Small_magma.l0 : Nat → (Int × (List Int)) → Bool → Int → Int → Int → Option (Int × Int)
  | 0, _, _, _, _, _ => none
  | k + 1, a0, a3, x1_0, x2_0, x10_0 => if (decide (x10_0 < 32)) = true then (if a3 = true then (if (decide ((I64 (31 - x10_0)) ≥ 24)) = true then (if (decide (0 ≤ (I64 (31 - (I64 (31 - x10_0)))))) = true then (if (decide ((I64 (31 - (I64 (31 - x10_0)))) < (a0.2.length : Int))) = true then ((scrimref8_G.f k x2_0 (rd a0.2 (I64 (31 - (I64 (31 - x10_0)))))).bind fun t9 => (scrimref8_Small_magma.l0 k a0 a3 x2_0 (bxor .u32 x1_0 t9) (I64 (x10_0 + 1)))) else (none)) else (none)) else (if (decide (0 ≤ (Int.tmod (I64 (31 - x10_0)) 8))) = true then (if (decide ((Int.tmod (I64 (31 - x10_0)) 8) < (a0.2.length : Int))) = true then ((scrimref8_G.f k x2_0 (rd a0.2 (Int.tmod (I64 (31 - x10_0)) 8))).bind fun t14 => (scrimref8_Small_magma.l0 k a0 a3 x2_0 (bxor .u32 x1_0 t14) (I64 (x10_0 + 1)))) else (none)) else (none))) else (if (decide (x10_0 ≥ 24)) = true then (if (decide (0 ≤ (I64 (31 - x10_0)))) = true then (if (decide ((I64 (31 - x10_0)) < (a0.2.length : Int))) = true then ((scrimref8_G.f k x2_0 (rd a0.2 (I64 (31 - x10_0)))).bind fun t20 => (scrimref8_Small_magma.l0 k a0 a3 x2_0 (bxor .u32 x1_0 t20) (I64 (x10_0 + 1)))) else (none)) else (none)) else (if (decide (0 ≤ (Int.tmod x10_0 8))) = true then (if (decide ((Int.tmod x10_0 8) < (a0.2.length : Int))) = true then ((scrimref8_G.f k x2_0 (rd a0.2 (Int.tmod x10_0 8))).bind fun t25 => (scrimref8_Small_magma.l0 k a0 a3 x2_0 (bxor .u32 x1_0 t25) (I64 (x10_0 + 1)))) else (none)) else (none)))) else (some (x2_0, x1_0))
def scrimref8_Small_magma.f (k : Nat) (a0 : (Int × (List Int))) (a1 : Int) (a2 : Int) (a3 : Bool) : Option (Int × Int) := scrimref8_Small_magma.l0 k a0 a3 a1 a2 0
set_option maxRecDepth 100000 in
theorem scrimref8_Small_magma.calls (k : Nat) (vp0 : Value) (Zp0 : Zp) (a0 : (Int × (List Int))) (a1 : Int) (a2 : Int) (a3 : Bool) (r : Int × Int) (w : World) (hp0 : (rPtr Rs_scrimref8_Small) Zp0 vp0 a0) (hZp0 : ∀ W, Kept w W → Zp0 W) (h : scrimref8_Small_magma.f k a0 a1 a2 a3 = some r) :
    Calls Go.Proofs.Try.prog 38 #[vp0, .int .u32 a1, .int .u32 a2, .bool a3] w (Ret fun v w' => v = .tuple #[.int .u32 r.1, .int .u32 r.2] ∧ Mem w w' []) := by
  obtain ⟨gp0, _, rfl, hco1, _, _, rfl, rfl, ⟨Ao1_1, co1_1, rfl, ho1_1⟩⟩ := id hp0
  unfold scrimref8_Small_magma.f at h
  refine calls_of [.pointer (some ⟨gp0, 0, none⟩), .int .u32 a1, .int .u32 a2, .bool a3] (fn := Go.Proofs.Try.f38) Go.Proofs.Try.func38 (by kernel_rfl) (by kernel_rfl) ?_
  have hM := Mem.refl w
  refine RunF.go 12 [0, 1, 2, 3, 10] (k' := (pl Go.Proofs.Try.f38 [1, 0, 1, 0, 0])) (L' := [(0, .pointer (some ⟨gp0, 0, none⟩)), (1, .int .u32 a1), (2, .int .u32 a2), (3, .bool a3), (10, .int .i64 0)]) (w' := w) (by kernel_rfl) ?_
  have l0 : ∀ (k_ : Nat), k_ ≤ k → ∀ (x1_0 : Int) (x2_0 : Int) (x10_0 : Int) (W : World) (hM : Mem w W []) (h : scrimref8_Small_magma.l0 k_ a0 a3 x1_0 x2_0 x10_0 = some r), RunF Go.Proofs.Try.prog (Ret fun v w' => v = .tuple #[.int .u32 r.1, .int .u32 r.2] ∧ Mem w w' []) 38 (pl Go.Proofs.Try.f38 [1, 0, 1, 0, 0]) 41 [(0, .pointer (some ⟨gp0, 0, none⟩)), (1, .int .u32 x1_0), (2, .int .u32 x2_0), (3, .bool a3), (10, .int .i64 x10_0)] W := by
    intro k_
    induction k_ using Nat.strongRecOn with
    | _ k_ ih0 =>
      intro hk x1_0 x2_0 x10_0 W hM h
      cases k_ with
      | zero => exact absurd h (by simp [scrimref8_Small_magma.l0])
      | succ k =>
        simp only [scrimref8_Small_magma.l0] at h
        replace ih0 : ∀ m, m ≤ k → _ := fun m hm => ih0 m (by omega) (by omega)
        refine RunF.go 6 [0, 1, 2, 3, 10, 14] (k' := (pl Go.Proofs.Try.f38 [1, 0, 1, 0, 0, 0, 1])) (L' := [(0, .pointer (some ⟨gp0, 0, none⟩)), (1, .int .u32 x1_0), (2, .int .u32 x2_0), (3, .bool a3), (10, .int .i64 x10_0), (14, .bool (decide (x10_0 < 32)))]) (w' := W) (by kernel_rfl) ?_
        rcases two (decide (x10_0 < 32)) with c2 | c2
        · replace h := of_true h c2
          refine RunF.know 14 (b := true) (by kernel_rfl) c2 ?_
          refine RunF.go 14 [0, 1, 2, 3, 10, 11, 18] (k' := (pl Go.Proofs.Try.f38 [1, 0, 1, 0, 0, 1, 0, 0, 1, 0, 1])) (L' := [(0, .pointer (some ⟨gp0, 0, none⟩)), (1, .int .u32 x1_0), (2, .int .u32 x2_0), (3, .bool a3), (10, .int .i64 x10_0), (11, .int .i64 x10_0), (18, .bool a3)]) (w' := W) (by kernel_rfl) ?_
          rcases two (a3) with c3 | c3
          · replace h := of_true h c3
            refine RunF.know 18 (b := true) (by kernel_rfl) c3 ?_
            refine RunF.go 18 [0, 1, 2, 3, 10, 11, 12, 24] (k' := (pl Go.Proofs.Try.f38 [1, 0, 1, 0, 0, 1, 0, 0, 1, 1, 1, 0, 1])) (L' := [(0, .pointer (some ⟨gp0, 0, none⟩)), (1, .int .u32 x1_0), (2, .int .u32 x2_0), (3, .bool a3), (10, .int .i64 x10_0), (11, .int .i64 (I64 (31 - x10_0))), (12, .int .i64 (Int.tmod (I64 (31 - x10_0)) 8)), (24, .bool (decide ((I64 (31 - x10_0)) ≥ 24)))]) (w' := W) (by kernel_rfl) ?_
            rcases two (decide ((I64 (31 - x10_0)) ≥ 24)) with c4 | c4
            · replace h := of_true h c4
              refine RunF.know 24 (b := true) (by kernel_rfl) c4 ?_
              refine RunF.go 13 [0, 3, 10, 12, 27, 28, 29, 32] (k' := (pin Go.Proofs.Try.f38 [1, 0, 1, 0, 0, 1, 0, 0, 1, 1, 1, 1] 6)) (L' := [(0, .pointer (some ⟨gp0, 0, none⟩)), (3, .bool a3), (10, .int .i64 x10_0), (12, .int .i64 (I64 (31 - (I64 (31 - x10_0))))), (27, .int .u32 x2_0), (28, .int .u32 x1_0), (29, .int .u32 x2_0), (32, .pointer (some ⟨gp0, 1, none⟩))]) (w' := W) (by kernel_rfl) ?_
              refine RunF.y (ld_y (d := some 33) (p := ⟨gp0, 1, none⟩) (k2 := (pin Go.Proofs.Try.f38 [1, 0, 1, 0, 0, 1, 0, 0, 1, 1, 1, 1] 7)) (.slice Ao1_1 a0.2.length co1_1) (by kernel_rfl)) (hco1 _ (hZp0 _ hM.kept) 1 _ rfl) ?_
              refine RunF.go 1 [0, 3, 10, 27, 28, 29, 33, 34] (k' := (pin Go.Proofs.Try.f38 [1, 0, 1, 0, 0, 1, 0, 0, 1, 1, 1, 1] 8)) (L' := [(0, .pointer (some ⟨gp0, 0, none⟩)), (3, .bool a3), (10, .int .i64 x10_0), (27, .int .u32 x2_0), (28, .int .u32 x1_0), (29, .int .u32 x2_0), (33, .slice Ao1_1 a0.2.length co1_1), (34, .int .i64 (I64 (31 - (I64 (31 - x10_0)))))]) (w' := W) (by kernel_rfl) ?_
              rcases two (decide (0 ≤ (I64 (31 - (I64 (31 - x10_0)))))) with c6 | c6
              · replace h := of_true h c6
                rcases two (decide ((I64 (31 - (I64 (31 - x10_0)))) < (a0.2.length : Int))) with c7 | c7
                · replace h := of_true h c7
                  obtain ⟨q5, hAq5, hcq5⟩ := Rd.num (ho1_1 _ (hZp0 _ hM.kept)) (i := I64 (31 - (I64 (31 - x10_0)))) (of_decide_eq_true c6) (by have h_ := of_decide_eq_true c7; omega)
                  refine RunF.y (idx_y (d := some 35) (A := Ao1_1) (m := a0.2.length) (i := I64 (31 - (I64 (31 - x10_0)))) (k2 := (pin Go.Proofs.Try.f38 [1, 0, 1, 0, 0, 1, 0, 0, 1, 1, 1, 1] 9)) (by kernel_rfl) (of_decide_eq_true c6) (by have h_ := of_decide_eq_true c7; omega) hAq5) trivial ?_
                  refine RunF.y (ld_y (d := some 36) (p := (q5.add (I64 (31 - (I64 (31 - x10_0))) : Int).toNat)) (k2 := (pin Go.Proofs.Try.f38 [1, 0, 1, 0, 0, 1, 0, 0, 1, 1, 1, 1] 10)) (.int .u32 (rd a0.2 (I64 (31 - (I64 (31 - x10_0)))))) (by kernel_rfl)) hcq5 ?_
                  obtain ⟨t9, ht9, h⟩ := Option.bind_eq_some_iff.mp h
                  refine RunF.call (d := some 37) (g := 22) (args := #[.int .u32 x2_0, .int .u32 (rd a0.2 (I64 (31 - (I64 (31 - x10_0)))))]) (k2 := (pin Go.Proofs.Try.f38 [1, 0, 1, 0, 0, 1, 0, 0, 1, 1, 1, 1] 11)) (by kernel_rfl) (scrimref8_G.calls k x2_0 (rd a0.2 (I64 (31 - (I64 (31 - x10_0))))) t9 _ ht9) ?_
                  rintro _ W8 ⟨rfl, hM_⟩
                  replace hM := hM.call hM_
                  clear hM_ ht9
                  refine RunF.go 11 [0, 1, 2, 3, 10] (k' := (pl Go.Proofs.Try.f38 [1, 0, 1, 0, 0])) (L' := [(0, .pointer (some ⟨gp0, 0, none⟩)), (1, .int .u32 x2_0), (2, .int .u32 (bxor .u32 x1_0 t9)), (3, .bool a3), (10, .int .i64 (I64 (x10_0 + 1)))]) (w' := W8) (by kernel_rfl) ?_
                  exact ih0 k (by omega) x2_0 (bxor .u32 x1_0 t9) (I64 (x10_0 + 1)) _ (hM.pick [] rfl rfl) h
                · replace h := of_false h c7
                  cases h
              · replace h := of_false h c6
                cases h
            · replace h := of_false h c4
              refine RunF.know 24 (b := false) (by kernel_rfl) c4 ?_
              refine RunF.go 9 [0, 3, 10, 12, 27, 28, 29, 32] (k' := (pin Go.Proofs.Try.f38 [1, 0, 1, 0, 0, 1, 0, 0, 1, 1, 1, 1] 6)) (L' := [(0, .pointer (some ⟨gp0, 0, none⟩)), (3, .bool a3), (10, .int .i64 x10_0), (12, .int .i64 (Int.tmod (I64 (31 - x10_0)) 8)), (27, .int .u32 x2_0), (28, .int .u32 x1_0), (29, .int .u32 x2_0), (32, .pointer (some ⟨gp0, 1, none⟩))]) (w' := W) (by kernel_rfl) ?_
              refine RunF.y (ld_y (d := some 33) (p := ⟨gp0, 1, none⟩) (k2 := (pin Go.Proofs.Try.f38 [1, 0, 1, 0, 0, 1, 0, 0, 1, 1, 1, 1] 7)) (.slice Ao1_1 a0.2.length co1_1) (by kernel_rfl)) (hco1 _ (hZp0 _ hM.kept) 1 _ rfl) ?_
              refine RunF.go 1 [0, 3, 10, 27, 28, 29, 33, 34] (k' := (pin Go.Proofs.Try.f38 [1, 0, 1, 0, 0, 1, 0, 0, 1, 1, 1, 1] 8)) (L' := [(0, .pointer (some ⟨gp0, 0, none⟩)), (3, .bool a3), (10, .int .i64 x10_0), (27, .int .u32 x2_0), (28, .int .u32 x1_0), (29, .int .u32 x2_0), (33, .slice Ao1_1 a0.2.length co1_1), (34, .int .i64 (Int.tmod (I64 (31 - x10_0)) 8))]) (w' := W) (by kernel_rfl) ?_
              rcases two (decide (0 ≤ (Int.tmod (I64 (31 - x10_0)) 8))) with c11 | c11
              · replace h := of_true h c11
                rcases two (decide ((Int.tmod (I64 (31 - x10_0)) 8) < (a0.2.length : Int))) with c12 | c12
                · replace h := of_true h c12
                  obtain ⟨q10, hAq10, hcq10⟩ := Rd.num (ho1_1 _ (hZp0 _ hM.kept)) (i := Int.tmod (I64 (31 - x10_0)) 8) (of_decide_eq_true c11) (by have h_ := of_decide_eq_true c12; omega)
                  refine RunF.y (idx_y (d := some 35) (A := Ao1_1) (m := a0.2.length) (i := Int.tmod (I64 (31 - x10_0)) 8) (k2 := (pin Go.Proofs.Try.f38 [1, 0, 1, 0, 0, 1, 0, 0, 1, 1, 1, 1] 9)) (by kernel_rfl) (of_decide_eq_true c11) (by have h_ := of_decide_eq_true c12; omega) hAq10) trivial ?_
                  refine RunF.y (ld_y (d := some 36) (p := (q10.add (Int.tmod (I64 (31 - x10_0)) 8 : Int).toNat)) (k2 := (pin Go.Proofs.Try.f38 [1, 0, 1, 0, 0, 1, 0, 0, 1, 1, 1, 1] 10)) (.int .u32 (rd a0.2 (Int.tmod (I64 (31 - x10_0)) 8))) (by kernel_rfl)) hcq10 ?_
                  obtain ⟨t14, ht14, h⟩ := Option.bind_eq_some_iff.mp h
                  refine RunF.call (d := some 37) (g := 22) (args := #[.int .u32 x2_0, .int .u32 (rd a0.2 (Int.tmod (I64 (31 - x10_0)) 8))]) (k2 := (pin Go.Proofs.Try.f38 [1, 0, 1, 0, 0, 1, 0, 0, 1, 1, 1, 1] 11)) (by kernel_rfl) (scrimref8_G.calls k x2_0 (rd a0.2 (Int.tmod (I64 (31 - x10_0)) 8)) t14 _ ht14) ?_
                  rintro _ W13 ⟨rfl, hM_⟩
                  replace hM := hM.call hM_
                  clear hM_ ht14
                  refine RunF.go 11 [0, 1, 2, 3, 10] (k' := (pl Go.Proofs.Try.f38 [1, 0, 1, 0, 0])) (L' := [(0, .pointer (some ⟨gp0, 0, none⟩)), (1, .int .u32 x2_0), (2, .int .u32 (bxor .u32 x1_0 t14)), (3, .bool a3), (10, .int .i64 (I64 (x10_0 + 1)))]) (w' := W13) (by kernel_rfl) ?_
                  exact ih0 k (by omega) x2_0 (bxor .u32 x1_0 t14) (I64 (x10_0 + 1)) _ (hM.pick [] rfl rfl) h
                · replace h := of_false h c12
                  cases h
              · replace h := of_false h c11
                cases h
          · replace h := of_false h c3
            refine RunF.know 18 (b := false) (by kernel_rfl) c3 ?_
            refine RunF.go 14 [0, 1, 2, 3, 10, 11, 12, 24] (k' := (pl Go.Proofs.Try.f38 [1, 0, 1, 0, 0, 1, 0, 0, 1, 1, 1, 0, 1])) (L' := [(0, .pointer (some ⟨gp0, 0, none⟩)), (1, .int .u32 x1_0), (2, .int .u32 x2_0), (3, .bool a3), (10, .int .i64 x10_0), (11, .int .i64 x10_0), (12, .int .i64 (Int.tmod x10_0 8)), (24, .bool (decide (x10_0 ≥ 24)))]) (w' := W) (by kernel_rfl) ?_
            rcases two (decide (x10_0 ≥ 24)) with c15 | c15
            · replace h := of_true h c15
              refine RunF.know 24 (b := true) (by kernel_rfl) c15 ?_
              refine RunF.go 13 [0, 3, 10, 12, 27, 28, 29, 32] (k' := (pin Go.Proofs.Try.f38 [1, 0, 1, 0, 0, 1, 0, 0, 1, 1, 1, 1] 6)) (L' := [(0, .pointer (some ⟨gp0, 0, none⟩)), (3, .bool a3), (10, .int .i64 x10_0), (12, .int .i64 (I64 (31 - x10_0))), (27, .int .u32 x2_0), (28, .int .u32 x1_0), (29, .int .u32 x2_0), (32, .pointer (some ⟨gp0, 1, none⟩))]) (w' := W) (by kernel_rfl) ?_
              refine RunF.y (ld_y (d := some 33) (p := ⟨gp0, 1, none⟩) (k2 := (pin Go.Proofs.Try.f38 [1, 0, 1, 0, 0, 1, 0, 0, 1, 1, 1, 1] 7)) (.slice Ao1_1 a0.2.length co1_1) (by kernel_rfl)) (hco1 _ (hZp0 _ hM.kept) 1 _ rfl) ?_
              refine RunF.go 1 [0, 3, 10, 27, 28, 29, 33, 34] (k' := (pin Go.Proofs.Try.f38 [1, 0, 1, 0, 0, 1, 0, 0, 1, 1, 1, 1] 8)) (L' := [(0, .pointer (some ⟨gp0, 0, none⟩)), (3, .bool a3), (10, .int .i64 x10_0), (27, .int .u32 x2_0), (28, .int .u32 x1_0), (29, .int .u32 x2_0), (33, .slice Ao1_1 a0.2.length co1_1), (34, .int .i64 (I64 (31 - x10_0)))]) (w' := W) (by kernel_rfl) ?_
              rcases two (decide (0 ≤ (I64 (31 - x10_0)))) with c17 | c17
              · replace h := of_true h c17
                rcases two (decide ((I64 (31 - x10_0)) < (a0.2.length : Int))) with c18 | c18
                · replace h := of_true h c18
                  obtain ⟨q16, hAq16, hcq16⟩ := Rd.num (ho1_1 _ (hZp0 _ hM.kept)) (i := I64 (31 - x10_0)) (of_decide_eq_true c17) (by have h_ := of_decide_eq_true c18; omega)
                  refine RunF.y (idx_y (d := some 35) (A := Ao1_1) (m := a0.2.length) (i := I64 (31 - x10_0)) (k2 := (pin Go.Proofs.Try.f38 [1, 0, 1, 0, 0, 1, 0, 0, 1, 1, 1, 1] 9)) (by kernel_rfl) (of_decide_eq_true c17) (by have h_ := of_decide_eq_true c18; omega) hAq16) trivial ?_
                  refine RunF.y (ld_y (d := some 36) (p := (q16.add (I64 (31 - x10_0) : Int).toNat)) (k2 := (pin Go.Proofs.Try.f38 [1, 0, 1, 0, 0, 1, 0, 0, 1, 1, 1, 1] 10)) (.int .u32 (rd a0.2 (I64 (31 - x10_0)))) (by kernel_rfl)) hcq16 ?_
                  obtain ⟨t20, ht20, h⟩ := Option.bind_eq_some_iff.mp h
                  refine RunF.call (d := some 37) (g := 22) (args := #[.int .u32 x2_0, .int .u32 (rd a0.2 (I64 (31 - x10_0)))]) (k2 := (pin Go.Proofs.Try.f38 [1, 0, 1, 0, 0, 1, 0, 0, 1, 1, 1, 1] 11)) (by kernel_rfl) (scrimref8_G.calls k x2_0 (rd a0.2 (I64 (31 - x10_0))) t20 _ ht20) ?_
                  rintro _ W19 ⟨rfl, hM_⟩
                  replace hM := hM.call hM_
                  clear hM_ ht20
                  refine RunF.go 11 [0, 1, 2, 3, 10] (k' := (pl Go.Proofs.Try.f38 [1, 0, 1, 0, 0])) (L' := [(0, .pointer (some ⟨gp0, 0, none⟩)), (1, .int .u32 x2_0), (2, .int .u32 (bxor .u32 x1_0 t20)), (3, .bool a3), (10, .int .i64 (I64 (x10_0 + 1)))]) (w' := W19) (by kernel_rfl) ?_
                  exact ih0 k (by omega) x2_0 (bxor .u32 x1_0 t20) (I64 (x10_0 + 1)) _ (hM.pick [] rfl rfl) h
                · replace h := of_false h c18
                  cases h
              · replace h := of_false h c17
                cases h
            · replace h := of_false h c15
              refine RunF.know 24 (b := false) (by kernel_rfl) c15 ?_
              refine RunF.go 9 [0, 3, 10, 12, 27, 28, 29, 32] (k' := (pin Go.Proofs.Try.f38 [1, 0, 1, 0, 0, 1, 0, 0, 1, 1, 1, 1] 6)) (L' := [(0, .pointer (some ⟨gp0, 0, none⟩)), (3, .bool a3), (10, .int .i64 x10_0), (12, .int .i64 (Int.tmod x10_0 8)), (27, .int .u32 x2_0), (28, .int .u32 x1_0), (29, .int .u32 x2_0), (32, .pointer (some ⟨gp0, 1, none⟩))]) (w' := W) (by kernel_rfl) ?_
              refine RunF.y (ld_y (d := some 33) (p := ⟨gp0, 1, none⟩) (k2 := (pin Go.Proofs.Try.f38 [1, 0, 1, 0, 0, 1, 0, 0, 1, 1, 1, 1] 7)) (.slice Ao1_1 a0.2.length co1_1) (by kernel_rfl)) (hco1 _ (hZp0 _ hM.kept) 1 _ rfl) ?_
              refine RunF.go 1 [0, 3, 10, 27, 28, 29, 33, 34] (k' := (pin Go.Proofs.Try.f38 [1, 0, 1, 0, 0, 1, 0, 0, 1, 1, 1, 1] 8)) (L' := [(0, .pointer (some ⟨gp0, 0, none⟩)), (3, .bool a3), (10, .int .i64 x10_0), (27, .int .u32 x2_0), (28, .int .u32 x1_0), (29, .int .u32 x2_0), (33, .slice Ao1_1 a0.2.length co1_1), (34, .int .i64 (Int.tmod x10_0 8))]) (w' := W) (by kernel_rfl) ?_
              rcases two (decide (0 ≤ (Int.tmod x10_0 8))) with c22 | c22
              · replace h := of_true h c22
                rcases two (decide ((Int.tmod x10_0 8) < (a0.2.length : Int))) with c23 | c23
                · replace h := of_true h c23
                  obtain ⟨q21, hAq21, hcq21⟩ := Rd.num (ho1_1 _ (hZp0 _ hM.kept)) (i := Int.tmod x10_0 8) (of_decide_eq_true c22) (by have h_ := of_decide_eq_true c23; omega)
                  refine RunF.y (idx_y (d := some 35) (A := Ao1_1) (m := a0.2.length) (i := Int.tmod x10_0 8) (k2 := (pin Go.Proofs.Try.f38 [1, 0, 1, 0, 0, 1, 0, 0, 1, 1, 1, 1] 9)) (by kernel_rfl) (of_decide_eq_true c22) (by have h_ := of_decide_eq_true c23; omega) hAq21) trivial ?_
                  refine RunF.y (ld_y (d := some 36) (p := (q21.add (Int.tmod x10_0 8 : Int).toNat)) (k2 := (pin Go.Proofs.Try.f38 [1, 0, 1, 0, 0, 1, 0, 0, 1, 1, 1, 1] 10)) (.int .u32 (rd a0.2 (Int.tmod x10_0 8))) (by kernel_rfl)) hcq21 ?_
                  obtain ⟨t25, ht25, h⟩ := Option.bind_eq_some_iff.mp h
                  refine RunF.call (d := some 37) (g := 22) (args := #[.int .u32 x2_0, .int .u32 (rd a0.2 (Int.tmod x10_0 8))]) (k2 := (pin Go.Proofs.Try.f38 [1, 0, 1, 0, 0, 1, 0, 0, 1, 1, 1, 1] 11)) (by kernel_rfl) (scrimref8_G.calls k x2_0 (rd a0.2 (Int.tmod x10_0 8)) t25 _ ht25) ?_
                  rintro _ W24 ⟨rfl, hM_⟩
                  replace hM := hM.call hM_
                  clear hM_ ht25
                  refine RunF.go 11 [0, 1, 2, 3, 10] (k' := (pl Go.Proofs.Try.f38 [1, 0, 1, 0, 0])) (L' := [(0, .pointer (some ⟨gp0, 0, none⟩)), (1, .int .u32 x2_0), (2, .int .u32 (bxor .u32 x1_0 t25)), (3, .bool a3), (10, .int .i64 (I64 (x10_0 + 1)))]) (w' := W24) (by kernel_rfl) ?_
                  exact ih0 k (by omega) x2_0 (bxor .u32 x1_0 t25) (I64 (x10_0 + 1)) _ (hM.pick [] rfl rfl) h
                · replace h := of_false h c23
                  cases h
              · replace h := of_false h c22
                cases h
        · replace h := of_false h c2
          refine RunF.know 14 (b := false) (by kernel_rfl) c2 ?_
          refine RunF.go 9 [8, 9] (k' := (pl Go.Proofs.Try.f38 [1, 1, 1])) (L' := [(8, .int .u32 x2_0), (9, .int .u32 x1_0)]) (w' := W) (by kernel_rfl) ?_
          obtain rfl := Option.some.inj h
          exact RunF.ret2 8 9 (.int .u32 x2_0) (.int .u32 x1_0) (fn := Go.Proofs.Try.f38) Go.Proofs.Try.func38 (by kernel_rfl) (by kernel_rfl) (by kernel_rfl) (by kernel_rfl) ⟨_, rfl, rfl, (hM.pick [] rfl rfl)⟩
  exact l0 k (Nat.le_refl _) a1 a2 0 _ (hM.pick [] rfl rfl) h

/-! ### (*scrim/scrimref8.Small).Block: function 19 -/
def scrimref8_Small_Block.f (k : Nat) (a0 : (Int × (List Int))) (a1 : List Int) (a2 : Bool) : Option (List Int × Int) := if ((a1.length : Int) != 8) = true then (some (([] : List Int), 1)) else (if (a0.1 == 8) = true then ((scrimref8_little.f k a1).bind fun t6 => (if (decide (0 < (t6.length : Int))) = true then (if (decide (1 < (t6.length : Int))) = true then ((scrimref8_Small_rc5.f k a0 (rd t6 0) (rd t6 1) a2).bind fun t18 => ((scrimref1_PutLe32.f k t18.1).bind fun t20 => ((scrimref1_PutLe32.f k t18.2).bind fun t26 => (if (decide (t20.length + t26.length ≤ 1000000000)) = true then (some ((t20 ++ t26), 0)) else (none))))) else (none)) else (none))) else ((scrimref8_big.f k a1).bind fun t38 => (if (decide (0 < (t38.length : Int))) = true then (if (decide (1 < (t38.length : Int))) = true then (if (a0.1 == 4) = true then ((scrimref8_Small_xtea.f k a0 (rd t38 0) (rd t38 1) a2).bind fun t51 => ((scrimref1_PutBe32.f k t51.1).bind fun t53 => ((scrimref1_PutBe32.f k t51.2).bind fun t59 => (if (decide (t53.length + t59.length ≤ 1000000000)) = true then (some ((t53 ++ t59), 0)) else (none))))) else ((scrimref8_Small_magma.f k a0 (rd t38 0) (rd t38 1) a2).bind fun t71 => ((scrimref1_PutBe32.f k t71.1).bind fun t73 => ((scrimref1_PutBe32.f k t71.2).bind fun t79 => (if (decide (t73.length + t79.length ≤ 1000000000)) = true then (some ((t73 ++ t79), 0)) else (none)))))) else (none)) else (none))))
set_option maxRecDepth 100000 in
set_option maxHeartbeats 8000000 in
theorem scrimref8_Small_Block.calls (k : Nat) (vp0 : Value) (Zp0 : Zp) (a0 : (Int × (List Int))) (Ap1 : Option Addr) (np1 cp1 : Nat) (a1 : List Int) (a2 : Bool) (r : List Int × Int) (w : World) (hr1 : Rd w (.slice Ap1 np1 cp1) (nums .u8 a1)) (hp0 : (rPtr Rs_scrimref8_Small) Zp0 vp0 a0) (hZp0 : ∀ W, Kept w W → Zp0 W) (h : scrimref8_Small_Block.f k a0 a1 a2 = some r) :
    Calls Go.Proofs.Try.prog 19 #[vp0, (.slice Ap1 np1 cp1), .bool a2] w (Ret fun v w' => ∃ A0' n0' c0', v = .tuple #[.slice A0' n0' c0', .int .i64 r.2] ∧ Mem w w' [⟨.slice A0' n0' c0', 5, 1, nums .u8 r.1⟩]) := by
  obtain rfl : a1.length = np1 := by have h_ := hr1.1; simpa [nums_length, bools_length, strs_length] using h_
  obtain ⟨gp0, _, rfl, hco1, _, _, rfl, rfl, ⟨Ao1_1, co1_1, rfl, ho1_1⟩⟩ := id hp0
  unfold scrimref8_Small_Block.f at h
  refine calls_of [.pointer (some ⟨gp0, 0, none⟩), .slice Ap1 a1.length cp1, .bool a2] (fn := Go.Proofs.Try.f19) Go.Proofs.Try.func19 (by kernel_rfl) (by kernel_rfl) ?_
  have hM := Mem.refl w
  refine RunF.go 12 [0, 1, 2, 16] (k' := (pl Go.Proofs.Try.f19 [1, 0, 1])) (L' := [(0, .pointer (some ⟨gp0, 0, none⟩)), (1, .slice Ap1 a1.length cp1), (2, .bool a2), (16, .bool ((a1.length : Int) != 8))]) (w' := w) (by kernel_rfl) ?_
  rcases two (((a1.length : Int) != 8)) with c2 | c2
  · replace h := of_true h c2
    refine RunF.know 16 (b := true) (by kernel_rfl) c2 ?_
    refine RunF.go 6 [6, 7] (k' := (pl Go.Proofs.Try.f19 [1, 0, 1, 0, 1])) (L' := [(6, .slice none 0 0), (7, .int .i64 1)]) (w' := w) (by kernel_rfl) ?_
    replace hM := hM.nil 5
    obtain rfl := Option.some.inj h
    exact RunF.ret2 6 7 (.slice none 0 0) (.int .i64 1) (fn := Go.Proofs.Try.f19) Go.Proofs.Try.func19 (by kernel_rfl) (by kernel_rfl) (by kernel_rfl) (by kernel_rfl) ⟨_, rfl, none, 0, 0, rfl, (hM.pick [0] rfl rfl)⟩
  · replace h := of_false h c2
    refine RunF.know 16 (b := false) (by kernel_rfl) c2 ?_
    refine RunF.go 8 [0, 1, 2, 19] (k' := (pin Go.Proofs.Try.f19 [1, 1, 0, 0] 3)) (L' := [(0, .pointer (some ⟨gp0, 0, none⟩)), (1, .slice Ap1 a1.length cp1), (2, .bool a2), (19, .pointer (some ⟨gp0, 0, none⟩))]) (w' := w) (by kernel_rfl) ?_
    refine RunF.y (ld_y (d := some 20) (p := ⟨gp0, 0, none⟩) (k2 := (pin Go.Proofs.Try.f19 [1, 1, 0, 0] 4)) (.int .i64 a0.1) (by kernel_rfl)) (hco1 _ (hZp0 _ hM.kept) 0 _ rfl) ?_
    refine RunF.go 2 [0, 1, 2, 21] (k' := (pl Go.Proofs.Try.f19 [1, 1, 0, 1])) (L' := [(0, .pointer (some ⟨gp0, 0, none⟩)), (1, .slice Ap1 a1.length cp1), (2, .bool a2), (21, .bool (a0.1 == 8))]) (w' := w) (by kernel_rfl) ?_
    rcases two ((a0.1 == 8)) with c4 | c4
    · replace h := of_true h c4
      refine RunF.know 21 (b := true) (by kernel_rfl) c4 ?_
      refine RunF.go 4 [0, 2, 22] (k' := (pin Go.Proofs.Try.f19 [1, 1, 0, 1, 0, 0] 1)) (L' := [(0, .pointer (some ⟨gp0, 0, none⟩)), (2, .bool a2), (22, .slice Ap1 a1.length cp1)]) (w' := w) (by kernel_rfl) ?_
      obtain ⟨t6, ht6, h⟩ := Option.bind_eq_some_iff.mp h
      refine RunF.call (d := some 23) (g := 34) (args := #[.slice Ap1 a1.length cp1]) (k2 := (pin Go.Proofs.Try.f19 [1, 1, 0, 1, 0, 0] 2)) (by kernel_rfl) (scrimref8_little.calls k Ap1 a1.length cp1 a1 t6 _ (hr1.mono hM.below) ht6) ?_
      rintro _ W5 ⟨A7, n8, c9, rfl, hM_⟩
      obtain rfl : t6.length = n8 := by have h_ := (hM_.rd 0 rfl).1; simpa [nums_length, bools_length, strs_length] using h_
      replace hM := hM.call hM_
      clear hM_ ht6
      refine RunF.go 3 [0, 2, 8] (k' := (pl Go.Proofs.Try.f19 [1, 1, 0, 1, 0, 1, 0])) (L' := [(0, .pointer (some ⟨gp0, 0, none⟩)), (2, .bool a2), (8, .slice A7 t6.length c9)]) (w' := W5) (by kernel_rfl) ?_
      refine RunF.draw (Still ({ W5 with drawn := W5.drawn + 1 } : World) []) (by kernel_rfl) (by kernel_rfl) ?_
      have hMd12 := hM.drew
      have hS := Still.refl ({ W5 with drawn := W5.drawn + 1 } : World) []
      generalize ({ W5 with drawn := W5.drawn + 1 } : World) = W11 at hMd12 hS ⊢
      replace hM := hMd12
      refine RunAny.y 0 (by kernel_rfl) (yl_pure (d := some 25) (v := .pointer (some ⟨gp0, 0, none⟩)) (k2 := [.inRegion (opsOf (pl Go.Proofs.Try.f19 [1, 1, 0, 1, 0, 1, 0])) []]) fun w => by kernel_rfl) (fun _ _ => trivial) hS ?_
      refine RunAny.y 1 (by kernel_rfl) (yl_pure (d := some 26) (v := .slice A7 t6.length c9) (k2 := [.inRegion (opsOf (pl Go.Proofs.Try.f19 [1, 1, 0, 1, 0, 1, 0])) []]) fun w => by kernel_rfl) (fun _ _ => trivial) hS ?_
      rcases two (decide (0 < (t6.length : Int))) with c14 | c14
      · replace h := of_true h c14
        obtain ⟨q13, hAq13, hcq13, hfq13, hlq13⟩ := hM.num_at 0 rfl (i := 0) (by omega) (by have h_ := of_decide_eq_true c14; omega)
        refine RunAny.y 2 (by kernel_rfl) (idx_own (d := some 27) (A := A7) (m := t6.length) (i := 0) (k2 := [.inRegion (opsOf (pl Go.Proofs.Try.f19 [1, 1, 0, 1, 0, 1, 0])) []]) (by kernel_rfl) (by omega) (by have h_ := of_decide_eq_true c14; omega) hAq13) (fun _ _ => trivial) hS ?_
        refine RunAny.y 3 (by kernel_rfl) (ld_y (d := some 28) (p := ⟨q13, (0 : Int).toNat, none⟩) (k2 := [.inRegion (opsOf (pl Go.Proofs.Try.f19 [1, 1, 0, 1, 0, 1, 0])) []]) (.int .u32 (rd t6 0)) (by kernel_rfl)) (fun _ hs => hs.cell hcq13 (by simp)) hS ?_
        refine RunAny.y 4 (by kernel_rfl) (yl_pure (d := some 29) (v := .slice A7 t6.length c9) (k2 := [.inRegion (opsOf (pl Go.Proofs.Try.f19 [1, 1, 0, 1, 0, 1, 0])) []]) fun w => by kernel_rfl) (fun _ _ => trivial) hS ?_
        rcases two (decide (1 < (t6.length : Int))) with c16 | c16
        · replace h := of_true h c16
          obtain ⟨q15, hAq15, hcq15, hfq15, hlq15⟩ := hM.num_at 0 rfl (i := 1) (by omega) (by have h_ := of_decide_eq_true c16; omega)
          refine RunAny.y 5 (by kernel_rfl) (idx_own (d := some 30) (A := A7) (m := t6.length) (i := 1) (k2 := [.inRegion (opsOf (pl Go.Proofs.Try.f19 [1, 1, 0, 1, 0, 1, 0])) []]) (by kernel_rfl) (by omega) (by have h_ := of_decide_eq_true c16; omega) hAq15) (fun _ _ => trivial) hS ?_
          refine RunAny.y 6 (by kernel_rfl) (ld_y (d := some 31) (p := ⟨q15, (1 : Int).toNat, none⟩) (k2 := [.inRegion (opsOf (pl Go.Proofs.Try.f19 [1, 1, 0, 1, 0, 1, 0])) []]) (.int .u32 (rd t6 1)) (by kernel_rfl)) (fun _ hs => hs.cell hcq15 (by simp)) hS ?_
          refine RunAny.y 7 (by kernel_rfl) (yl_pure (d := some 32) (v := .bool a2) (k2 := [.inRegion (opsOf (pl Go.Proofs.Try.f19 [1, 1, 0, 1, 0, 1, 0])) []]) fun w => by kernel_rfl) (fun _ _ => trivial) hS ?_
          obtain ⟨t18, ht18, h⟩ := Option.bind_eq_some_iff.mp h
          refine RunAny.call 8 (d := some 33) (g := 35) (args := #[.pointer (some ⟨gp0, 0, none⟩), .int .u32 (rd t6 0), .int .u32 (rd t6 1), .bool a2]) (by kernel_rfl) (by kernel_rfl) (scrimref8_Small_rc5.calls k (.pointer (some ⟨gp0, 0, none⟩)) Zp0 a0 (rd t6 0) (rd t6 1) a2 t18 _ hp0 (fun _ hb_ => (hZp0 _ (hM.kept.trans hb_))) ht18) (by rintro _ _ ⟨rfl, hM_⟩; exact hS.below hM_.below) ?_
          rintro _ W17 ⟨rfl, hM_⟩
          replace hS := hS.below hM_.below
          replace hM := hM.call hM_
          clear hM_ ht18
          refine RunAny.rebase hS ?_
          replace hS := Still.refl W17 []
          refine RunAny.y 9 (by kernel_rfl) (yl_pure (d := some 24) (v := .tuple #[.int .u32 t18.1, .int .u32 t18.2]) (k2 := [.inRegion (opsOf (pl Go.Proofs.Try.f19 [1, 1, 0, 1, 0, 1, 0])) []]) fun w => by kernel_rfl) (fun _ _ => trivial) hS ?_
          refine RunAny.y 10 (by kernel_rfl) (yl_pure (d := some 34) (v := .int .u32 t18.1) (k2 := [.inRegion (opsOf (pl Go.Proofs.Try.f19 [1, 1, 0, 1, 0, 1, 0])) []]) fun w => by kernel_rfl) (fun _ _ => trivial) hS ?_
          refine RunAny.y 11 (by kernel_rfl) (yl_pure (d := some 35) (v := .int .u32 t18.2) (k2 := [.inRegion (opsOf (pl Go.Proofs.Try.f19 [1, 1, 0, 1, 0, 1, 0])) []]) fun w => by kernel_rfl) (fun _ _ => trivial) hS ?_
          refine RunAny.y 12 (by kernel_rfl) (yl_pure (d := some 9) (v := .int .u32 t18.1) (k2 := [.inRegion (opsOf (pl Go.Proofs.Try.f19 [1, 1, 0, 1, 0, 1, 0])) []]) fun w => by kernel_rfl) (fun _ _ => trivial) hS ?_
          refine RunAny.y 13 (by kernel_rfl) (yl_pure (d := some 10) (v := .int .u32 t18.2) (k2 := [.inRegion (opsOf (pl Go.Proofs.Try.f19 [1, 1, 0, 1, 0, 1, 0])) []]) fun w => by kernel_rfl) (fun _ _ => trivial) hS ?_
          refine RunAny.done (by kernel_rfl) ?_
          clear hS
          refine RunF.go 3 [10, 36] (k' := (pin Go.Proofs.Try.f19 [1, 1, 0, 1, 0, 1, 1, 0] 1)) (L' := [(10, .int .u32 t18.2), (36, .int .u32 t18.1)]) (w' := W17) (by kernel_rfl) ?_
          obtain ⟨t20, ht20, h⟩ := Option.bind_eq_some_iff.mp h
          refine RunF.call (d := some 37) (g := 36) (args := #[.int .u32 t18.1]) (k2 := (pin Go.Proofs.Try.f19 [1, 1, 0, 1, 0, 1, 1, 0] 2)) (by kernel_rfl) (scrimref1_PutLe32.calls k t18.1 t20 _ ht20) ?_
          rintro _ W19 ⟨A21, n22, c23, rfl, hM_⟩
          obtain rfl : t20.length = n22 := by have h_ := (hM_.rd 0 rfl).1; simpa [nums_length, bools_length, strs_length] using h_
          replace hM := hM.call hM_
          clear hM_ ht20
          refine RunF.go 1 [37, 38] (k' := (pin Go.Proofs.Try.f19 [1, 1, 0, 1, 0, 1, 1, 0] 3)) (L' := [(37, .slice A21 t20.length c23), (38, .int .u32 t18.2)]) (w' := W19) (by kernel_rfl) ?_
          obtain ⟨t26, ht26, h⟩ := Option.bind_eq_some_iff.mp h
          refine RunF.call (d := some 39) (g := 36) (args := #[.int .u32 t18.2]) (k2 := (pin Go.Proofs.Try.f19 [1, 1, 0, 1, 0, 1, 1, 0] 4)) (by kernel_rfl) (scrimref1_PutLe32.calls k t18.2 t26 _ ht26) ?_
          rintro _ W25 ⟨A27, n28, c29, rfl, hM_⟩
          obtain rfl : t26.length = n28 := by have h_ := (hM_.rd 0 rfl).1; simpa [nums_length, bools_length, strs_length] using h_
          replace hM := hM.call hM_
          clear hM_ ht26
          rcases two (decide (t20.length + t26.length ≤ 1000000000)) with c35 | c35
          · replace h := of_true h c35
            have h_ := of_decide_eq_true c35
            obtain ⟨A31, n32, c33, W34, hD, hM', hS_⟩ := app_does (P := Go.Proofs.Try.prog) (n := 75) (k := (pin Go.Proofs.Try.f19 [1, 1, 0, 1, 0, 1, 1, 0] 4)) (L := (upd [(37, .slice A21 t20.length c23), (38, .int .u32 t18.2)] (some 39) (.slice A27 t26.length c29))) (d := some 40) (e := 5) (A := A21) (m := t20.length) (c := c23) (A2 := A27) (m2 := t26.length) (c2 := c29) (cs := nums .u8 t20) (ys := nums .u8 t26) (k2 := (pin Go.Proofs.Try.f19 [1, 1, 0, 1, 0, 1, 1, 0] 5)) [⟨.slice A27 t26.length c29, 5, 1, nums .u8 t26⟩] [⟨.slice A7 t6.length c9, 43, 1, nums .u32 t6⟩] (by kernel_rfl) (hM.pick [0, 1, 2] rfl rfl) (hM.rd 0 rfl) (one_nums _ _) (by omega)
            rw [nums_append] at hM'
            replace hM := hM'; clear h_ hM'
            obtain rfl : (t20 ++ t26).length = n32 := by have h_ := (hM.rd 1 rfl).1; simpa only [nums_length, bools_length, strs_length] using h_
            refine RunF.does hD ?_
            clear hD hS_
            refine RunF.go 3 [6, 7] (k' := (pl Go.Proofs.Try.f19 [1, 1, 0, 1, 0, 1, 1, 1])) (L' := [(6, .slice A31 ((t20 ++ t26).length) c33), (7, .int .i64 0)]) (w' := W34) (by kernel_rfl) ?_
            obtain rfl := Option.some.inj h
            exact RunF.ret2 6 7 (.slice A31 ((t20 ++ t26).length) c33) (.int .i64 0) (fn := Go.Proofs.Try.f19) Go.Proofs.Try.func19 (by kernel_rfl) (by kernel_rfl) (by kernel_rfl) (by kernel_rfl) ⟨_, rfl, A31, (t20 ++ t26).length, c33, rfl, (hM.pick [1] rfl rfl)⟩
          · replace h := of_false h c35
            cases h
        · replace h := of_false h c16
          cases h
      · replace h := of_false h c14
        cases h
    · replace h := of_false h c4
      refine RunF.know 21 (b := false) (by kernel_rfl) c4 ?_
      refine RunF.go 5 [0, 2, 41] (k' := (pin Go.Proofs.Try.f19 [1, 1, 1, 0] 1)) (L' := [(0, .pointer (some ⟨gp0, 0, none⟩)), (2, .bool a2), (41, .slice Ap1 a1.length cp1)]) (w' := w) (by kernel_rfl) ?_
      obtain ⟨t38, ht38, h⟩ := Option.bind_eq_some_iff.mp h
      refine RunF.call (d := some 42) (g := 29) (args := #[.slice Ap1 a1.length cp1]) (k2 := (pin Go.Proofs.Try.f19 [1, 1, 1, 0] 2)) (by kernel_rfl) (scrimref8_big.calls k Ap1 a1.length cp1 a1 t38 _ (hr1.mono hM.below) ht38) ?_
      rintro _ W37 ⟨A39, n40, c41, rfl, hM_⟩
      obtain rfl : t38.length = n40 := by have h_ := (hM_.rd 0 rfl).1; simpa [nums_length, bools_length, strs_length] using h_
      replace hM := hM.call hM_
      clear hM_ ht38
      refine RunF.go 3 [0, 2, 11] (k' := (pl Go.Proofs.Try.f19 [1, 1, 1, 1, 0])) (L' := [(0, .pointer (some ⟨gp0, 0, none⟩)), (2, .bool a2), (11, .slice A39 t38.length c41)]) (w' := W37) (by kernel_rfl) ?_
      refine RunF.draw (Still ({ W37 with drawn := W37.drawn + 1 } : World) []) (by kernel_rfl) (by kernel_rfl) ?_
      have hMd44 := hM.drew
      have hS := Still.refl ({ W37 with drawn := W37.drawn + 1 } : World) []
      generalize ({ W37 with drawn := W37.drawn + 1 } : World) = W43 at hMd44 hS ⊢
      replace hM := hMd44
      refine RunAny.y 0 (by kernel_rfl) (yl_pure (d := some 43) (v := .slice A39 t38.length c41) (k2 := [.inRegion (opsOf (pl Go.Proofs.Try.f19 [1, 1, 1, 1, 0])) []]) fun w => by kernel_rfl) (fun _ _ => trivial) hS ?_
      rcases two (decide (0 < (t38.length : Int))) with c46 | c46
      · replace h := of_true h c46
        obtain ⟨q45, hAq45, hcq45, hfq45, hlq45⟩ := hM.num_at 0 rfl (i := 0) (by omega) (by have h_ := of_decide_eq_true c46; omega)
        refine RunAny.y 1 (by kernel_rfl) (idx_own (d := some 44) (A := A39) (m := t38.length) (i := 0) (k2 := [.inRegion (opsOf (pl Go.Proofs.Try.f19 [1, 1, 1, 1, 0])) []]) (by kernel_rfl) (by omega) (by have h_ := of_decide_eq_true c46; omega) hAq45) (fun _ _ => trivial) hS ?_
        refine RunAny.y 2 (by kernel_rfl) (ld_y (d := some 45) (p := ⟨q45, (0 : Int).toNat, none⟩) (k2 := [.inRegion (opsOf (pl Go.Proofs.Try.f19 [1, 1, 1, 1, 0])) []]) (.int .u32 (rd t38 0)) (by kernel_rfl)) (fun _ hs => hs.cell hcq45 (by simp)) hS ?_
        refine RunAny.y 3 (by kernel_rfl) (yl_pure (d := some 46) (v := .slice A39 t38.length c41) (k2 := [.inRegion (opsOf (pl Go.Proofs.Try.f19 [1, 1, 1, 1, 0])) []]) fun w => by kernel_rfl) (fun _ _ => trivial) hS ?_
        rcases two (decide (1 < (t38.length : Int))) with c48 | c48
        · replace h := of_true h c48
          obtain ⟨q47, hAq47, hcq47, hfq47, hlq47⟩ := hM.num_at 0 rfl (i := 1) (by omega) (by have h_ := of_decide_eq_true c48; omega)
          refine RunAny.y 4 (by kernel_rfl) (idx_own (d := some 47) (A := A39) (m := t38.length) (i := 1) (k2 := [.inRegion (opsOf (pl Go.Proofs.Try.f19 [1, 1, 1, 1, 0])) []]) (by kernel_rfl) (by omega) (by have h_ := of_decide_eq_true c48; omega) hAq47) (fun _ _ => trivial) hS ?_
          refine RunAny.y 5 (by kernel_rfl) (ld_y (d := some 48) (p := ⟨q47, (1 : Int).toNat, none⟩) (k2 := [.inRegion (opsOf (pl Go.Proofs.Try.f19 [1, 1, 1, 1, 0])) []]) (.int .u32 (rd t38 1)) (by kernel_rfl)) (fun _ hs => hs.cell hcq47 (by simp)) hS ?_
          refine RunAny.y 6 (by kernel_rfl) (yl_pure (d := some 12) (v := .int .u32 (rd t38 0)) (k2 := [.inRegion (opsOf (pl Go.Proofs.Try.f19 [1, 1, 1, 1, 0])) []]) fun w => by kernel_rfl) (fun _ _ => trivial) hS ?_
          refine RunAny.y 7 (by kernel_rfl) (yl_pure (d := some 13) (v := .int .u32 (rd t38 1)) (k2 := [.inRegion (opsOf (pl Go.Proofs.Try.f19 [1, 1, 1, 1, 0])) []]) fun w => by kernel_rfl) (fun _ _ => trivial) hS ?_
          refine RunAny.done (by kernel_rfl) ?_
          clear hS
          refine RunF.go 6 [0, 2, 12, 13, 51] (k' := (pin Go.Proofs.Try.f19 [1, 1, 1, 1, 1, 0, 0] 3)) (L' := [(0, .pointer (some ⟨gp0, 0, none⟩)), (2, .bool a2), (12, .int .u32 (rd t38 0)), (13, .int .u32 (rd t38 1)), (51, .pointer (some ⟨gp0, 0, none⟩))]) (w' := W43) (by kernel_rfl) ?_
          refine RunF.y (ld_y (d := some 52) (p := ⟨gp0, 0, none⟩) (k2 := (pin Go.Proofs.Try.f19 [1, 1, 1, 1, 1, 0, 0] 4)) (.int .i64 a0.1) (by kernel_rfl)) (hco1 _ (hZp0 _ hM.kept) 0 _ rfl) ?_
          refine RunF.go 2 [0, 2, 12, 13, 53] (k' := (pl Go.Proofs.Try.f19 [1, 1, 1, 1, 1, 0, 1])) (L' := [(0, .pointer (some ⟨gp0, 0, none⟩)), (2, .bool a2), (12, .int .u32 (rd t38 0)), (13, .int .u32 (rd t38 1)), (53, .bool (a0.1 == 4))]) (w' := W43) (by kernel_rfl) ?_
          rcases two ((a0.1 == 4)) with c49 | c49
          · replace h := of_true h c49
            refine RunF.know 53 (b := true) (by kernel_rfl) c49 ?_
            refine RunF.go 6 [55, 56, 57, 58] (k' := (pin Go.Proofs.Try.f19 [1, 1, 1, 1, 1, 0, 1, 0] 4)) (L' := [(55, .pointer (some ⟨gp0, 0, none⟩)), (56, .int .u32 (rd t38 0)), (57, .int .u32 (rd t38 1)), (58, .bool a2)]) (w' := W43) (by kernel_rfl) ?_
            obtain ⟨t51, ht51, h⟩ := Option.bind_eq_some_iff.mp h
            refine RunF.call (d := some 59) (g := 37) (args := #[.pointer (some ⟨gp0, 0, none⟩), .int .u32 (rd t38 0), .int .u32 (rd t38 1), .bool a2]) (k2 := (pin Go.Proofs.Try.f19 [1, 1, 1, 1, 1, 0, 1, 0] 5)) (by kernel_rfl) (scrimref8_Small_xtea.calls k (.pointer (some ⟨gp0, 0, none⟩)) Zp0 a0 (rd t38 0) (rd t38 1) a2 t51 _ hp0 (fun _ hb_ => (hZp0 _ (hM.kept.trans hb_))) ht51) ?_
            rintro _ W50 ⟨rfl, hM_⟩
            replace hM := hM.call hM_
            clear hM_ ht51
            refine RunF.go 9 [13, 70] (k' := (pin Go.Proofs.Try.f19 [1, 1, 1, 1, 1, 1, 0] 1)) (L' := [(13, .int .u32 t51.2), (70, .int .u32 t51.1)]) (w' := W50) (by kernel_rfl) ?_
            obtain ⟨t53, ht53, h⟩ := Option.bind_eq_some_iff.mp h
            refine RunF.call (d := some 71) (g := 24) (args := #[.int .u32 t51.1]) (k2 := (pin Go.Proofs.Try.f19 [1, 1, 1, 1, 1, 1, 0] 2)) (by kernel_rfl) (scrimref1_PutBe32.calls k t51.1 t53 _ ht53) ?_
            rintro _ W52 ⟨A54, n55, c56, rfl, hM_⟩
            obtain rfl : t53.length = n55 := by have h_ := (hM_.rd 0 rfl).1; simpa [nums_length, bools_length, strs_length] using h_
            replace hM := hM.call hM_
            clear hM_ ht53
            refine RunF.go 1 [71, 72] (k' := (pin Go.Proofs.Try.f19 [1, 1, 1, 1, 1, 1, 0] 3)) (L' := [(71, .slice A54 t53.length c56), (72, .int .u32 t51.2)]) (w' := W52) (by kernel_rfl) ?_
            obtain ⟨t59, ht59, h⟩ := Option.bind_eq_some_iff.mp h
            refine RunF.call (d := some 73) (g := 24) (args := #[.int .u32 t51.2]) (k2 := (pin Go.Proofs.Try.f19 [1, 1, 1, 1, 1, 1, 0] 4)) (by kernel_rfl) (scrimref1_PutBe32.calls k t51.2 t59 _ ht59) ?_
            rintro _ W58 ⟨A60, n61, c62, rfl, hM_⟩
            obtain rfl : t59.length = n61 := by have h_ := (hM_.rd 0 rfl).1; simpa [nums_length, bools_length, strs_length] using h_
            replace hM := hM.call hM_
            clear hM_ ht59
            rcases two (decide (t53.length + t59.length ≤ 1000000000)) with c68 | c68
            · replace h := of_true h c68
              have h_ := of_decide_eq_true c68
              obtain ⟨A64, n65, c66, W67, hD, hM', hS_⟩ := app_does (P := Go.Proofs.Try.prog) (n := 75) (k := (pin Go.Proofs.Try.f19 [1, 1, 1, 1, 1, 1, 0] 4)) (L := (upd [(71, .slice A54 t53.length c56), (72, .int .u32 t51.2)] (some 73) (.slice A60 t59.length c62))) (d := some 74) (e := 5) (A := A54) (m := t53.length) (c := c56) (A2 := A60) (m2 := t59.length) (c2 := c62) (cs := nums .u8 t53) (ys := nums .u8 t59) (k2 := (pin Go.Proofs.Try.f19 [1, 1, 1, 1, 1, 1, 0] 5)) [⟨.slice A60 t59.length c62, 5, 1, nums .u8 t59⟩] [⟨.slice A39 t38.length c41, 43, 1, nums .u32 t38⟩] (by kernel_rfl) (hM.pick [0, 1, 2] rfl rfl) (hM.rd 0 rfl) (one_nums _ _) (by omega)
              rw [nums_append] at hM'
              replace hM := hM'; clear h_ hM'
              obtain rfl : (t53 ++ t59).length = n65 := by have h_ := (hM.rd 1 rfl).1; simpa only [nums_length, bools_length, strs_length] using h_
              refine RunF.does hD ?_
              clear hD hS_
              refine RunF.go 3 [6, 7] (k' := (pl Go.Proofs.Try.f19 [1, 1, 1, 1, 1, 1, 1])) (L' := [(6, .slice A64 ((t53 ++ t59).length) c66), (7, .int .i64 0)]) (w' := W67) (by kernel_rfl) ?_
              obtain rfl := Option.some.inj h
              exact RunF.ret2 6 7 (.slice A64 ((t53 ++ t59).length) c66) (.int .i64 0) (fn := Go.Proofs.Try.f19) Go.Proofs.Try.func19 (by kernel_rfl) (by kernel_rfl) (by kernel_rfl) (by kernel_rfl) ⟨_, rfl, A64, (t53 ++ t59).length, c66, rfl, (hM.pick [1] rfl rfl)⟩
            · replace h := of_false h c68
              cases h
          · replace h := of_false h c49
            refine RunF.know 53 (b := false) (by kernel_rfl) c49 ?_
            refine RunF.go 6 [63, 64, 65, 66] (k' := (pin Go.Proofs.Try.f19 [1, 1, 1, 1, 1, 0, 1, 1] 4)) (L' := [(63, .pointer (some ⟨gp0, 0, none⟩)), (64, .int .u32 (rd t38 0)), (65, .int .u32 (rd t38 1)), (66, .bool a2)]) (w' := W43) (by kernel_rfl) ?_
            obtain ⟨t71, ht71, h⟩ := Option.bind_eq_some_iff.mp h
            refine RunF.call (d := some 67) (g := 38) (args := #[.pointer (some ⟨gp0, 0, none⟩), .int .u32 (rd t38 0), .int .u32 (rd t38 1), .bool a2]) (k2 := (pin Go.Proofs.Try.f19 [1, 1, 1, 1, 1, 0, 1, 1] 5)) (by kernel_rfl) (scrimref8_Small_magma.calls k (.pointer (some ⟨gp0, 0, none⟩)) Zp0 a0 (rd t38 0) (rd t38 1) a2 t71 _ hp0 (fun _ hb_ => (hZp0 _ (hM.kept.trans hb_))) ht71) ?_
            rintro _ W70 ⟨rfl, hM_⟩
            replace hM := hM.call hM_
            clear hM_ ht71
            refine RunF.go 9 [13, 70] (k' := (pin Go.Proofs.Try.f19 [1, 1, 1, 1, 1, 1, 0] 1)) (L' := [(13, .int .u32 t71.2), (70, .int .u32 t71.1)]) (w' := W70) (by kernel_rfl) ?_
            obtain ⟨t73, ht73, h⟩ := Option.bind_eq_some_iff.mp h
            refine RunF.call (d := some 71) (g := 24) (args := #[.int .u32 t71.1]) (k2 := (pin Go.Proofs.Try.f19 [1, 1, 1, 1, 1, 1, 0] 2)) (by kernel_rfl) (scrimref1_PutBe32.calls k t71.1 t73 _ ht73) ?_
            rintro _ W72 ⟨A74, n75, c76, rfl, hM_⟩
            obtain rfl : t73.length = n75 := by have h_ := (hM_.rd 0 rfl).1; simpa [nums_length, bools_length, strs_length] using h_
            replace hM := hM.call hM_
            clear hM_ ht73
            refine RunF.go 1 [71, 72] (k' := (pin Go.Proofs.Try.f19 [1, 1, 1, 1, 1, 1, 0] 3)) (L' := [(71, .slice A74 t73.length c76), (72, .int .u32 t71.2)]) (w' := W72) (by kernel_rfl) ?_
            obtain ⟨t79, ht79, h⟩ := Option.bind_eq_some_iff.mp h
            refine RunF.call (d := some 73) (g := 24) (args := #[.int .u32 t71.2]) (k2 := (pin Go.Proofs.Try.f19 [1, 1, 1, 1, 1, 1, 0] 4)) (by kernel_rfl) (scrimref1_PutBe32.calls k t71.2 t79 _ ht79) ?_
            rintro _ W78 ⟨A80, n81, c82, rfl, hM_⟩
            obtain rfl : t79.length = n81 := by have h_ := (hM_.rd 0 rfl).1; simpa [nums_length, bools_length, strs_length] using h_
            replace hM := hM.call hM_
            clear hM_ ht79
            rcases two (decide (t73.length + t79.length ≤ 1000000000)) with c88 | c88
            · replace h := of_true h c88
              have h_ := of_decide_eq_true c88
              obtain ⟨A84, n85, c86, W87, hD, hM', hS_⟩ := app_does (P := Go.Proofs.Try.prog) (n := 75) (k := (pin Go.Proofs.Try.f19 [1, 1, 1, 1, 1, 1, 0] 4)) (L := (upd [(71, .slice A74 t73.length c76), (72, .int .u32 t71.2)] (some 73) (.slice A80 t79.length c82))) (d := some 74) (e := 5) (A := A74) (m := t73.length) (c := c76) (A2 := A80) (m2 := t79.length) (c2 := c82) (cs := nums .u8 t73) (ys := nums .u8 t79) (k2 := (pin Go.Proofs.Try.f19 [1, 1, 1, 1, 1, 1, 0] 5)) [⟨.slice A80 t79.length c82, 5, 1, nums .u8 t79⟩] [⟨.slice A39 t38.length c41, 43, 1, nums .u32 t38⟩] (by kernel_rfl) (hM.pick [0, 1, 2] rfl rfl) (hM.rd 0 rfl) (one_nums _ _) (by omega)
              rw [nums_append] at hM'
              replace hM := hM'; clear h_ hM'
              obtain rfl : (t73 ++ t79).length = n85 := by have h_ := (hM.rd 1 rfl).1; simpa only [nums_length, bools_length, strs_length] using h_
              refine RunF.does hD ?_
              clear hD hS_
              refine RunF.go 3 [6, 7] (k' := (pl Go.Proofs.Try.f19 [1, 1, 1, 1, 1, 1, 1])) (L' := [(6, .slice A84 ((t73 ++ t79).length) c86), (7, .int .i64 0)]) (w' := W87) (by kernel_rfl) ?_
              obtain rfl := Option.some.inj h
              exact RunF.ret2 6 7 (.slice A84 ((t73 ++ t79).length) c86) (.int .i64 0) (fn := Go.Proofs.Try.f19) Go.Proofs.Try.func19 (by kernel_rfl) (by kernel_rfl) (by kernel_rfl) (by kernel_rfl) ⟨_, rfl, A84, (t73 ++ t79).length, c86, rfl, (hM.pick [1] rfl rfl)⟩
            · replace h := of_false h c88
              cases h
        · replace h := of_false h c48
          cases h
      · replace h := of_false h c46
        cases h

/-! ### scrim/scrimlaw8.SmallApart: function 8 -/
def scrimlaw8_SmallApart.l0 : Nat → (List Int) → (List Int) → (List ByteArray) → Int → Option (Bool)
  | 0, _, _, _, _ => none
  | k + 1, a0, a1, x5_0, x6_0 => if (decide (x6_0 < 3)) = true then ((scrimlaw8_tags.f k).bind fun t11 => (if (decide (0 ≤ x6_0)) = true then (if (decide (x6_0 < (t11.length : Int))) = true then ((scrimlaw8_size.f k x6_0).bind fun t20 => ((scrimlaw8_Bytes.f k t20 a0).bind fun t22 => ((small_New.f k (rd t11 x6_0) t22).bind fun t28 => ((scrimlaw8_tags.f k).bind fun t32 => (if (decide (0 ≤ x6_0)) = true then (if (decide (x6_0 < (t32.length : Int))) = true then ((scrimlaw8_size.f k x6_0).bind fun t41 => ((scrimlaw8_Bytes.f k t41 a0).bind fun t43 => ((scrimref8_New.f k (rd t32 x6_0) t43).bind fun t49 => (if t28.1.isSome = true then ((t28.1).bind fun s51 => (if t49.1.isSome = true then ((t49.1).bind fun s55 => ((scrimlaw8_Bytes.f k 8 a1).bind fun t59 => ((small_Small_Block.f k s51 t59 false).bind fun t65 => ((scrimlaw8_Bytes.f k 8 a1).bind fun t71 => ((scrimref8_Small_Block.f k s55 t71 false).bind fun t77 => (if (decide (0 ≤ x6_0)) = true then (if (decide (x6_0 < (3 : Int))) = true then ((some (!((strOf t65.1).toList == (strOf t77.1).toList) : Bool)).bind fun y86 => (if y86 = true then (some false) else (if ((t65.1.length : Int) != 8) = true then (some false) else (scrimlaw8_SmallApart.l0 k a0 a1 (x5_0.set (x6_0 : Int).toNat (strOf t65.1)) (I64 (x6_0 + 1)))))) else (none)) else (none))))))) else (some false))) else (some false))))) else (none)) else (none)))))) else (none)) else (none))) else (if (decide ((rds x5_0 0).size + (rds x5_0 1).size ≤ 1000000000)) = true then (if (decide (((rds x5_0 0) ++ (rds x5_0 1)).size + (rds x5_0 2).size ≤ 1000000000)) = true then (some (((((rds x5_0 0) ++ (rds x5_0 1)) ++ (rds x5_0 2)).size : Int) == 24)) else (none)) else (none))
def scrimlaw8_SmallApart.f (k : Nat) (a0 : List Int) (a1 : List Int) : Option (Bool) := (scrimlaw8_known.f k).bind fun t2 => (if (!t2) = true then (some false) else (scrimlaw8_SmallApart.l0 k a0 a1 (List.replicate 3 ByteArray.empty) 0))
set_option maxRecDepth 100000 in
set_option maxHeartbeats 8000000 in
theorem scrimlaw8_SmallApart.calls (k : Nat) (Ap0 : Option Addr) (np0 cp0 : Nat) (a0 : List Int) (Ap1 : Option Addr) (np1 cp1 : Nat) (a1 : List Int) (r : Bool) (w : World) (hr0 : Rd w (.slice Ap0 np0 cp0) (nums .u8 a0)) (hr1 : Rd w (.slice Ap1 np1 cp1) (nums .u8 a1)) (h : scrimlaw8_SmallApart.f k a0 a1 = some r) :
    Calls Go.Proofs.Try.prog 8 #[(.slice Ap0 np0 cp0), (.slice Ap1 np1 cp1)] w (Ret fun v w' => v = .bool r ∧ Mem w w' []) := by
  obtain rfl : a0.length = np0 := by have h_ := hr0.1; simpa [nums_length, bools_length, strs_length] using h_
  obtain rfl : a1.length = np1 := by have h_ := hr1.1; simpa [nums_length, bools_length, strs_length] using h_
  unfold scrimlaw8_SmallApart.f at h
  refine calls_of [.slice Ap0 a0.length cp0, .slice Ap1 a1.length cp1] (fn := Go.Proofs.Try.f8) Go.Proofs.Try.func8 (by kernel_rfl) (by kernel_rfl) ?_
  have hM := Mem.refl w
  refine RunF.go 7 [0, 1] (k' := (pin Go.Proofs.Try.f8 [1, 0, 0] 0)) (L' := [(0, .slice Ap0 a0.length cp0), (1, .slice Ap1 a1.length cp1)]) (w' := w) (by kernel_rfl) ?_
  obtain ⟨t2, ht2, h⟩ := Option.bind_eq_some_iff.mp h
  refine RunF.call (d := some 15) (g := 12) (args := #[]) (k2 := (pin Go.Proofs.Try.f8 [1, 0, 0] 1)) (by kernel_rfl) (scrimlaw8_known.calls k t2 _ ht2) ?_
  rintro _ W1 ⟨rfl, hM_⟩
  replace hM := hM.call hM_
  clear hM_ ht2
  refine RunF.go 2 [0, 1, 16] (k' := (pl Go.Proofs.Try.f8 [1, 0, 1])) (L' := [(0, .slice Ap0 a0.length cp0), (1, .slice Ap1 a1.length cp1), (16, .bool (!t2))]) (w' := W1) (by kernel_rfl) ?_
  rcases two (!t2) with c3 | c3
  · replace h := of_true h c3
    refine RunF.know 16 (b := true) (by kernel_rfl) c3 ?_
    refine RunF.go 5 [4] (k' := (pl Go.Proofs.Try.f8 [1, 0, 1, 0, 1])) (L' := [(4, .bool false)]) (w' := W1) (by kernel_rfl) ?_
    obtain rfl := Option.some.inj h
    exact RunF.ret1 4 (.bool false) (fn := Go.Proofs.Try.f8) Go.Proofs.Try.func8 (by kernel_rfl) (by kernel_rfl) (by kernel_rfl) ⟨_, rfl, rfl, (hM.pick [] rfl rfl)⟩
  · replace h := of_false h c3
    refine RunF.know 16 (b := false) (by kernel_rfl) c3 ?_
    refine RunF.go 4 [0, 1] (k' := (pin Go.Proofs.Try.f8 [1, 1, 0] 0)) (L' := [(0, .slice Ap0 a0.length cp0), (1, .slice Ap1 a1.length cp1)]) (w' := W1) (by kernel_rfl) ?_
    refine RunF.newVar 48 (strs (List.replicate 3 ByteArray.empty)) (d := some 5) (k2 := (pin Go.Proofs.Try.f8 [1, 1, 0] 1)) hM (by kernel_rfl) ?_
    intro g4 W5 hM
    refine RunF.go 8 [0, 1, 5, 6] (k' := (pl Go.Proofs.Try.f8 [1, 1, 1, 0, 1, 0, 0])) (L' := [(0, .slice Ap0 a0.length cp0), (1, .slice Ap1 a1.length cp1), (5, .pointer (some ⟨g4, 0, none⟩)), (6, .int .i64 0)]) (w' := W5) (by kernel_rfl) ?_
    have l0 : ∀ (k_ : Nat), k_ ≤ k → ∀ (x5_0 : List ByteArray) (x6_0 : Int) (W : World) (hM : Mem w W [⟨.pointer (some ⟨g4, 0, none⟩), 48, 0, strs x5_0⟩]) (hlx5_0 : x5_0.length = 3) (h : scrimlaw8_SmallApart.l0 k_ a0 a1 x5_0 x6_0 = some r), RunF Go.Proofs.Try.prog (Ret fun v w' => v = .bool r ∧ Mem w w' []) 8 (pl Go.Proofs.Try.f8 [1, 1, 1, 0, 1, 0, 0]) 89 [(0, .slice Ap0 a0.length cp0), (1, .slice Ap1 a1.length cp1), (5, .pointer (some ⟨g4, 0, none⟩)), (6, .int .i64 x6_0)] W := by
      intro k_
      induction k_ using Nat.strongRecOn with
      | _ k_ ih0 =>
        intro hk x5_0 x6_0 W hM hlx5_0 h
        cases k_ with
        | zero => exact absurd h (by simp [scrimlaw8_SmallApart.l0])
        | succ k =>
          simp only [scrimlaw8_SmallApart.l0] at h
          replace ih0 : ∀ m, m ≤ k → _ := fun m hm => ih0 m (by omega) (by omega)
          refine RunF.go 6 [0, 1, 5, 6, 18] (k' := (pl Go.Proofs.Try.f8 [1, 1, 1, 0, 1, 0, 0, 0, 1])) (L' := [(0, .slice Ap0 a0.length cp0), (1, .slice Ap1 a1.length cp1), (5, .pointer (some ⟨g4, 0, none⟩)), (6, .int .i64 x6_0), (18, .bool (decide (x6_0 < 3)))]) (w' := W) (by kernel_rfl) ?_
          rcases two (decide (x6_0 < 3)) with c7 | c7
          · replace h := of_true h c7
            refine RunF.know 18 (b := true) (by kernel_rfl) c7 ?_
            refine RunF.go 5 [0, 1, 5, 6] (k' := (pl Go.Proofs.Try.f8 [1, 1, 1, 0, 1, 0, 0, 1, 0, 0, 0])) (L' := [(0, .slice Ap0 a0.length cp0), (1, .slice Ap1 a1.length cp1), (5, .pointer (some ⟨g4, 0, none⟩)), (6, .int .i64 x6_0)]) (w' := W) (by kernel_rfl) ?_
            refine RunF.draw (Still ({ W with drawn := W.drawn + 1 } : World) []) (by kernel_rfl) (by kernel_rfl) ?_
            have hMd9 := hM.drew
            have hS := Still.refl ({ W with drawn := W.drawn + 1 } : World) []
            generalize ({ W with drawn := W.drawn + 1 } : World) = W8 at hMd9 hS ⊢
            replace hM := hMd9
            refine RunAny.y 1 (by kernel_rfl) (yl_pure (d := some 23) (v := .int .i64 x6_0) (k2 := [.inRegion (opsOf (pl Go.Proofs.Try.f8 [1, 1, 1, 0, 1, 0, 0, 1, 0, 0, 0])) []]) fun w => by kernel_rfl) (fun _ _ => trivial) hS ?_
            refine RunAny.y 4 (by kernel_rfl) (yl_pure (d := some 26) (v := .int .i64 x6_0) (k2 := [.inRegion (opsOf (pl Go.Proofs.Try.f8 [1, 1, 1, 0, 1, 0, 0, 1, 0, 0, 0])) []]) fun w => by kernel_rfl) (fun _ _ => trivial) hS ?_
            refine RunAny.y 6 (by kernel_rfl) (yl_pure (d := some 28) (v := .slice Ap0 a0.length cp0) (k2 := [.inRegion (opsOf (pl Go.Proofs.Try.f8 [1, 1, 1, 0, 1, 0, 0, 1, 0, 0, 0])) []]) fun w => by kernel_rfl) (fun _ _ => trivial) hS ?_
            obtain ⟨t11, ht11, h⟩ := Option.bind_eq_some_iff.mp h
            refine RunAny.call 0 (d := some 22) (g := 15) (args := #[]) (by kernel_rfl) (by kernel_rfl) (scrimlaw8_tags.calls k t11 _ ht11) (by rintro _ _ ⟨_, _, _, rfl, hM_⟩; exact hS.below hM_.below) ?_
            rintro _ W10 ⟨A12, n13, c14, rfl, hM_⟩
            obtain rfl : t11.length = n13 := by have h_ := (hM_.rd 0 rfl).1; simpa [nums_length, bools_length, strs_length] using h_
            replace hS := hS.below hM_.below
            replace hM := hM.call hM_
            clear hM_ ht11
            refine RunAny.rebase hS ?_
            replace hS := Still.refl W10 []
            rcases two (decide (0 ≤ x6_0)) with c17 | c17
            · replace h := of_true h c17
              rcases two (decide (x6_0 < (t11.length : Int))) with c18 | c18
              · replace h := of_true h c18
                obtain ⟨q16, hAq16, hcq16, hfq16, hlq16⟩ := hM.num_at 0 rfl (i := x6_0) (of_decide_eq_true c17) (by have h_ := of_decide_eq_true c18; omega)
                refine RunAny.y 2 (by kernel_rfl) (idx_own (d := some 24) (A := A12) (m := t11.length) (i := x6_0) (k2 := [.inRegion (opsOf (pl Go.Proofs.Try.f8 [1, 1, 1, 0, 1, 0, 0, 1, 0, 0, 0])) []]) (by kernel_rfl) (of_decide_eq_true c17) (by have h_ := of_decide_eq_true c18; omega) hAq16) (fun _ _ => trivial) hS ?_
                refine RunAny.y 3 (by kernel_rfl) (ld_y (d := some 25) (p := ⟨q16, (x6_0 : Int).toNat, none⟩) (k2 := [.inRegion (opsOf (pl Go.Proofs.Try.f8 [1, 1, 1, 0, 1, 0, 0, 1, 0, 0, 0])) []]) (.int .i64 (rd t11 x6_0)) (by kernel_rfl)) (fun _ hs => hs.cell hcq16 (by simp)) hS ?_
                obtain ⟨t20, ht20, h⟩ := Option.bind_eq_some_iff.mp h
                refine RunAny.call 5 (d := some 27) (g := 16) (args := #[.int .i64 x6_0]) (by kernel_rfl) (by kernel_rfl) (scrimlaw8_size.calls k x6_0 t20 _ ht20) (by rintro _ _ ⟨rfl, hM_⟩; exact hS.below hM_.below) ?_
                rintro _ W19 ⟨rfl, hM_⟩
                replace hS := hS.below hM_.below
                replace hM := hM.call hM_
                clear hM_ ht20
                refine RunAny.rebase hS ?_
                replace hS := Still.refl W19 []
                obtain ⟨t22, ht22, h⟩ := Option.bind_eq_some_iff.mp h
                refine RunAny.call 7 (d := some 29) (g := 13) (args := #[.int .i64 t20, .slice Ap0 a0.length cp0]) (by kernel_rfl) (by kernel_rfl) (scrimlaw8_Bytes.calls k t20 Ap0 a0.length cp0 a0 t22 _ (hr0.mono hM.below) ht22) (by rintro _ _ ⟨_, _, _, rfl, hM_⟩; exact hS.below hM_.below) ?_
                rintro _ W21 ⟨A23, n24, c25, rfl, hM_⟩
                obtain rfl : t22.length = n24 := by have h_ := (hM_.rd 0 rfl).1; simpa [nums_length, bools_length, strs_length] using h_
                replace hS := hS.below hM_.below
                replace hM := hM.call hM_
                clear hM_ ht22
                refine RunAny.rebase hS ?_
                replace hS := Still.refl W21 []
                obtain ⟨t28, ht28, h⟩ := Option.bind_eq_some_iff.mp h
                refine RunAny.call 8 (d := some 30) (g := 14) (args := #[.int .i64 (rd t11 x6_0), .slice A23 t22.length c25]) (by kernel_rfl) (by kernel_rfl) (small_New.calls k (rd t11 x6_0) A23 t22.length c25 t22 t28 _ (hM.rd 0 rfl) ht28) (by rintro _ _ ⟨_, _, rfl, _, hM_⟩; exact hS.below hM_.below) ?_
                rintro _ W27 ⟨vt28_0, Ft28_0, rfl, hRt28_0, hM_⟩
                replace hS := hS.below hM_.below
                replace hM : Mem w W27 (Gs [⟨.slice A23 t22.length c25, 5, 1, nums .u8 t22⟩, ⟨.slice A12 t11.length c14, 3, 1, nums .i64 t11⟩, ⟨.pointer (some ⟨g4, 0, none⟩), 48, 0, strs x5_0⟩] [Ft28_0]) := (Mem.callG (hM.as (H' := Gs [⟨.slice A23 t22.length c25, 5, 1, nums .u8 t22⟩, ⟨.slice A12 t11.length c14, 3, 1, nums .i64 t11⟩, ⟨.pointer (some ⟨g4, 0, none⟩), 48, 0, strs x5_0⟩] []) rfl) hM_).as rfl
                clear hM_ ht28
                refine RunAny.rebase hS ?_
                replace hS := Still.refl W27 []
                refine RunAny.y 9 (by kernel_rfl) (yl_pure (d := some 21) (v := .tuple #[vt28_0, .int .i64 t28.2]) (k2 := [.inRegion (opsOf (pl Go.Proofs.Try.f8 [1, 1, 1, 0, 1, 0, 0, 1, 0, 0, 0])) []]) fun w => by kernel_rfl) (fun _ _ => trivial) hS ?_
                refine RunAny.y 10 (by kernel_rfl) (yl_pure (d := some 31) (v := vt28_0) (k2 := [.inRegion (opsOf (pl Go.Proofs.Try.f8 [1, 1, 1, 0, 1, 0, 0, 1, 0, 0, 0])) []]) fun w => by kernel_rfl) (fun _ _ => trivial) hS ?_
                refine RunAny.y 11 (by kernel_rfl) (yl_pure (d := some 32) (v := .int .i64 t28.2) (k2 := [.inRegion (opsOf (pl Go.Proofs.Try.f8 [1, 1, 1, 0, 1, 0, 0, 1, 0, 0, 0])) []]) fun w => by kernel_rfl) (fun _ _ => trivial) hS ?_
                refine RunAny.y 12 (by kernel_rfl) (yl_pure (d := some 7) (v := vt28_0) (k2 := [.inRegion (opsOf (pl Go.Proofs.Try.f8 [1, 1, 1, 0, 1, 0, 0, 1, 0, 0, 0])) []]) fun w => by kernel_rfl) (fun _ _ => trivial) hS ?_
                refine RunAny.y 13 (by kernel_rfl) (yl_pure (d := some 8) (v := .int .i64 t28.2) (k2 := [.inRegion (opsOf (pl Go.Proofs.Try.f8 [1, 1, 1, 0, 1, 0, 0, 1, 0, 0, 0])) []]) fun w => by kernel_rfl) (fun _ _ => trivial) hS ?_
                refine RunAny.done (by kernel_rfl) ?_
                clear hS
                refine RunF.go 1 [0, 1, 5, 6, 7] (k' := (pl Go.Proofs.Try.f8 [1, 1, 1, 0, 1, 0, 0, 1, 0, 0, 1, 0])) (L' := [(0, .slice Ap0 a0.length cp0), (1, .slice Ap1 a1.length cp1), (5, .pointer (some ⟨g4, 0, none⟩)), (6, .int .i64 x6_0), (7, vt28_0)]) (w' := W27) (by kernel_rfl) ?_
                refine RunF.draw (Still ({ W27 with drawn := W27.drawn + 1 } : World) []) (by kernel_rfl) (by kernel_rfl) ?_
                have hMd30 := hM.drew
                have hS := Still.refl ({ W27 with drawn := W27.drawn + 1 } : World) []
                generalize ({ W27 with drawn := W27.drawn + 1 } : World) = W29 at hMd30 hS ⊢
                replace hM := hMd30
                refine RunAny.y 1 (by kernel_rfl) (yl_pure (d := some 35) (v := .int .i64 x6_0) (k2 := [.inRegion (opsOf (pl Go.Proofs.Try.f8 [1, 1, 1, 0, 1, 0, 0, 1, 0, 0, 1, 0])) []]) fun w => by kernel_rfl) (fun _ _ => trivial) hS ?_
                refine RunAny.y 4 (by kernel_rfl) (yl_pure (d := some 38) (v := .int .i64 x6_0) (k2 := [.inRegion (opsOf (pl Go.Proofs.Try.f8 [1, 1, 1, 0, 1, 0, 0, 1, 0, 0, 1, 0])) []]) fun w => by kernel_rfl) (fun _ _ => trivial) hS ?_
                refine RunAny.y 6 (by kernel_rfl) (yl_pure (d := some 40) (v := .slice Ap0 a0.length cp0) (k2 := [.inRegion (opsOf (pl Go.Proofs.Try.f8 [1, 1, 1, 0, 1, 0, 0, 1, 0, 0, 1, 0])) []]) fun w => by kernel_rfl) (fun _ _ => trivial) hS ?_
                obtain ⟨t32, ht32, h⟩ := Option.bind_eq_some_iff.mp h
                refine RunAny.call 0 (d := some 34) (g := 15) (args := #[]) (by kernel_rfl) (by kernel_rfl) (scrimlaw8_tags.calls k t32 _ ht32) (by rintro _ _ ⟨_, _, _, rfl, hM_⟩; exact hS.below hM_.below) ?_
                rintro _ W31 ⟨A33, n34, c35, rfl, hM_⟩
                obtain rfl : t32.length = n34 := by have h_ := (hM_.rd 0 rfl).1; simpa [nums_length, bools_length, strs_length] using h_
                replace hS := hS.below hM_.below
                replace hM : Mem w W31 (Gs [⟨.slice A33 t32.length c35, 3, 1, nums .i64 t32⟩, ⟨.slice A23 t22.length c25, 5, 1, nums .u8 t22⟩, ⟨.slice A12 t11.length c14, 3, 1, nums .i64 t11⟩, ⟨.pointer (some ⟨g4, 0, none⟩), 48, 0, strs x5_0⟩] [Ft28_0]) := (Mem.callG (hM.as (H' := Gs [⟨.slice A23 t22.length c25, 5, 1, nums .u8 t22⟩, ⟨.slice A12 t11.length c14, 3, 1, nums .i64 t11⟩, ⟨.pointer (some ⟨g4, 0, none⟩), 48, 0, strs x5_0⟩] [Ft28_0]) rfl) hM_.grp).as rfl
                clear hM_ ht32
                refine RunAny.rebase hS ?_
                replace hS := Still.refl W31 []
                rcases two (decide (0 ≤ x6_0)) with c38 | c38
                · replace h := of_true h c38
                  rcases two (decide (x6_0 < (t32.length : Int))) with c39 | c39
                  · replace h := of_true h c39
                    obtain ⟨q37, hAq37, hcq37, hfq37, hlq37⟩ := hM.num_at 0 rfl (i := x6_0) (of_decide_eq_true c38) (by have h_ := of_decide_eq_true c39; omega)
                    refine RunAny.y 2 (by kernel_rfl) (idx_own (d := some 36) (A := A33) (m := t32.length) (i := x6_0) (k2 := [.inRegion (opsOf (pl Go.Proofs.Try.f8 [1, 1, 1, 0, 1, 0, 0, 1, 0, 0, 1, 0])) []]) (by kernel_rfl) (of_decide_eq_true c38) (by have h_ := of_decide_eq_true c39; omega) hAq37) (fun _ _ => trivial) hS ?_
                    refine RunAny.y 3 (by kernel_rfl) (ld_y (d := some 37) (p := ⟨q37, (x6_0 : Int).toNat, none⟩) (k2 := [.inRegion (opsOf (pl Go.Proofs.Try.f8 [1, 1, 1, 0, 1, 0, 0, 1, 0, 0, 1, 0])) []]) (.int .i64 (rd t32 x6_0)) (by kernel_rfl)) (fun _ hs => hs.cell hcq37 (by simp)) hS ?_
                    obtain ⟨t41, ht41, h⟩ := Option.bind_eq_some_iff.mp h
                    refine RunAny.call 5 (d := some 39) (g := 16) (args := #[.int .i64 x6_0]) (by kernel_rfl) (by kernel_rfl) (scrimlaw8_size.calls k x6_0 t41 _ ht41) (by rintro _ _ ⟨rfl, hM_⟩; exact hS.below hM_.below) ?_
                    rintro _ W40 ⟨rfl, hM_⟩
                    replace hS := hS.below hM_.below
                    replace hM : Mem w W40 (Gs [⟨.slice A33 t32.length c35, 3, 1, nums .i64 t32⟩, ⟨.slice A23 t22.length c25, 5, 1, nums .u8 t22⟩, ⟨.slice A12 t11.length c14, 3, 1, nums .i64 t11⟩, ⟨.pointer (some ⟨g4, 0, none⟩), 48, 0, strs x5_0⟩] [Ft28_0]) := (Mem.callG (hM.as (H' := Gs [⟨.slice A33 t32.length c35, 3, 1, nums .i64 t32⟩, ⟨.slice A23 t22.length c25, 5, 1, nums .u8 t22⟩, ⟨.slice A12 t11.length c14, 3, 1, nums .i64 t11⟩, ⟨.pointer (some ⟨g4, 0, none⟩), 48, 0, strs x5_0⟩] [Ft28_0]) rfl) hM_.grp).as rfl
                    clear hM_ ht41
                    refine RunAny.rebase hS ?_
                    replace hS := Still.refl W40 []
                    obtain ⟨t43, ht43, h⟩ := Option.bind_eq_some_iff.mp h
                    refine RunAny.call 7 (d := some 41) (g := 13) (args := #[.int .i64 t41, .slice Ap0 a0.length cp0]) (by kernel_rfl) (by kernel_rfl) (scrimlaw8_Bytes.calls k t41 Ap0 a0.length cp0 a0 t43 _ (hr0.mono hM.below) ht43) (by rintro _ _ ⟨_, _, _, rfl, hM_⟩; exact hS.below hM_.below) ?_
                    rintro _ W42 ⟨A44, n45, c46, rfl, hM_⟩
                    obtain rfl : t43.length = n45 := by have h_ := (hM_.rd 0 rfl).1; simpa [nums_length, bools_length, strs_length] using h_
                    replace hS := hS.below hM_.below
                    replace hM : Mem w W42 (Gs [⟨.slice A44 t43.length c46, 5, 1, nums .u8 t43⟩, ⟨.slice A33 t32.length c35, 3, 1, nums .i64 t32⟩, ⟨.slice A23 t22.length c25, 5, 1, nums .u8 t22⟩, ⟨.slice A12 t11.length c14, 3, 1, nums .i64 t11⟩, ⟨.pointer (some ⟨g4, 0, none⟩), 48, 0, strs x5_0⟩] [Ft28_0]) := (Mem.callG (hM.as (H' := Gs [⟨.slice A33 t32.length c35, 3, 1, nums .i64 t32⟩, ⟨.slice A23 t22.length c25, 5, 1, nums .u8 t22⟩, ⟨.slice A12 t11.length c14, 3, 1, nums .i64 t11⟩, ⟨.pointer (some ⟨g4, 0, none⟩), 48, 0, strs x5_0⟩] [Ft28_0]) rfl) hM_.grp).as rfl
                    clear hM_ ht43
                    refine RunAny.rebase hS ?_
                    replace hS := Still.refl W42 []
                    obtain ⟨t49, ht49, h⟩ := Option.bind_eq_some_iff.mp h
                    refine RunAny.call 8 (d := some 42) (g := 17) (args := #[.int .i64 (rd t32 x6_0), .slice A44 t43.length c46]) (by kernel_rfl) (by kernel_rfl) (scrimref8_New.calls k (rd t32 x6_0) A44 t43.length c46 t43 t49 _ (hM.rd 0 rfl) ht49) (by rintro _ _ ⟨_, _, rfl, _, hM_⟩; exact hS.below hM_.below) ?_
                    rintro _ W48 ⟨vt49_0, Ft49_0, rfl, hRt49_0, hM_⟩
                    replace hS := hS.below hM_.below
                    replace hM : Mem w W48 (Gs [⟨.slice A44 t43.length c46, 5, 1, nums .u8 t43⟩, ⟨.slice A33 t32.length c35, 3, 1, nums .i64 t32⟩, ⟨.slice A23 t22.length c25, 5, 1, nums .u8 t22⟩, ⟨.slice A12 t11.length c14, 3, 1, nums .i64 t11⟩, ⟨.pointer (some ⟨g4, 0, none⟩), 48, 0, strs x5_0⟩] [Ft49_0, Ft28_0]) := (Mem.callG (hM.as (H' := Gs [⟨.slice A44 t43.length c46, 5, 1, nums .u8 t43⟩, ⟨.slice A33 t32.length c35, 3, 1, nums .i64 t32⟩, ⟨.slice A23 t22.length c25, 5, 1, nums .u8 t22⟩, ⟨.slice A12 t11.length c14, 3, 1, nums .i64 t11⟩, ⟨.pointer (some ⟨g4, 0, none⟩), 48, 0, strs x5_0⟩] [Ft28_0]) rfl) hM_).as rfl
                    clear hM_ ht49
                    refine RunAny.rebase hS ?_
                    replace hS := Still.refl W48 []
                    refine RunAny.y 9 (by kernel_rfl) (yl_pure (d := some 33) (v := .tuple #[vt49_0, .int .i64 t49.2]) (k2 := [.inRegion (opsOf (pl Go.Proofs.Try.f8 [1, 1, 1, 0, 1, 0, 0, 1, 0, 0, 1, 0])) []]) fun w => by kernel_rfl) (fun _ _ => trivial) hS ?_
                    refine RunAny.y 10 (by kernel_rfl) (yl_pure (d := some 43) (v := vt49_0) (k2 := [.inRegion (opsOf (pl Go.Proofs.Try.f8 [1, 1, 1, 0, 1, 0, 0, 1, 0, 0, 1, 0])) []]) fun w => by kernel_rfl) (fun _ _ => trivial) hS ?_
                    refine RunAny.y 11 (by kernel_rfl) (yl_pure (d := some 44) (v := .int .i64 t49.2) (k2 := [.inRegion (opsOf (pl Go.Proofs.Try.f8 [1, 1, 1, 0, 1, 0, 0, 1, 0, 0, 1, 0])) []]) fun w => by kernel_rfl) (fun _ _ => trivial) hS ?_
                    refine RunAny.y 12 (by kernel_rfl) (yl_pure (d := some 9) (v := vt49_0) (k2 := [.inRegion (opsOf (pl Go.Proofs.Try.f8 [1, 1, 1, 0, 1, 0, 0, 1, 0, 0, 1, 0])) []]) fun w => by kernel_rfl) (fun _ _ => trivial) hS ?_
                    refine RunAny.y 13 (by kernel_rfl) (yl_pure (d := some 10) (v := .int .i64 t49.2) (k2 := [.inRegion (opsOf (pl Go.Proofs.Try.f8 [1, 1, 1, 0, 1, 0, 0, 1, 0, 0, 1, 0])) []]) fun w => by kernel_rfl) (fun _ _ => trivial) hS ?_
                    refine RunAny.done (by kernel_rfl) ?_
                    clear hS
                    refine RunF.go 4 [0, 1, 5, 6, 7, 9, 45] (k' := (pin Go.Proofs.Try.f8 [1, 1, 1, 0, 1, 0, 0, 1, 0, 0, 1, 1, 0, 0] 1)) (L' := [(0, .slice Ap0 a0.length cp0), (1, .slice Ap1 a1.length cp1), (5, .pointer (some ⟨g4, 0, none⟩)), (6, .int .i64 x6_0), (7, vt28_0), (9, vt49_0), (45, vt28_0)]) (w' := W48) (by kernel_rfl) ?_
                    rcases two (t28.1.isSome) with c50 | c50
                    · replace h := of_true h c50
                      obtain ⟨s51, hx_, h⟩ := Option.bind_eq_some_iff.mp h
                      have hps51 := rOpt.some hRt28_0 hx_
                      obtain ⟨g52, _, rfl, hco53, _, _, rfl, ⟨Ao53_0, co53_0, rfl, ho53_0⟩, rfl⟩ := id hps51
                      refine RunF.go 3 [0, 1, 5, 6, 7, 9, 47, 48] (k' := (pin Go.Proofs.Try.f8 [1, 1, 1, 0, 1, 0, 0, 1, 0, 0, 1, 1, 0, 0] 4)) (L' := [(0, .slice Ap0 a0.length cp0), (1, .slice Ap1 a1.length cp1), (5, .pointer (some ⟨g4, 0, none⟩)), (6, .int .i64 x6_0), (7, .pointer (some ⟨g52, 0, none⟩)), (9, vt49_0), (47, .bool false), (48, vt49_0)]) (w' := W48) (by kernel_rfl) ?_
                      rcases two (t49.1.isSome) with c54 | c54
                      · replace h := of_true h c54
                        obtain ⟨s55, hx_, h⟩ := Option.bind_eq_some_iff.mp h
                        have hps55 := rOpt.some hRt49_0 hx_
                        obtain ⟨g56, _, rfl, hco57, _, _, rfl, rfl, ⟨Ao57_1, co57_1, rfl, ho57_1⟩⟩ := id hps55
                        refine RunF.go 9 [0, 1, 5, 6, 9, 52, 53] (k' := (pin Go.Proofs.Try.f8 [1, 1, 1, 0, 1, 0, 0, 1, 0, 0, 1, 1, 1, 0] 2)) (L' := [(0, .slice Ap0 a0.length cp0), (1, .slice Ap1 a1.length cp1), (5, .pointer (some ⟨g4, 0, none⟩)), (6, .int .i64 x6_0), (9, .pointer (some ⟨g56, 0, none⟩)), (52, .pointer (some ⟨g52, 0, none⟩)), (53, .slice Ap1 a1.length cp1)]) (w' := W48) (by kernel_rfl) ?_
                        obtain ⟨t59, ht59, h⟩ := Option.bind_eq_some_iff.mp h
                        refine RunF.call (d := some 54) (g := 13) (args := #[.int .i64 8, .slice Ap1 a1.length cp1]) (k2 := (pin Go.Proofs.Try.f8 [1, 1, 1, 0, 1, 0, 0, 1, 0, 0, 1, 1, 1, 0] 3)) (by kernel_rfl) (scrimlaw8_Bytes.calls k 8 Ap1 a1.length cp1 a1 t59 _ (hr1.mono hM.below) ht59) ?_
                        rintro _ W58 ⟨A60, n61, c62, rfl, hM_⟩
                        obtain rfl : t59.length = n61 := by have h_ := (hM_.rd 0 rfl).1; simpa [nums_length, bools_length, strs_length] using h_
                        replace hM : Mem w W58 (Gs [⟨.slice A60 t59.length c62, 5, 1, nums .u8 t59⟩, ⟨.slice A44 t43.length c46, 5, 1, nums .u8 t43⟩, ⟨.slice A33 t32.length c35, 3, 1, nums .i64 t32⟩, ⟨.slice A23 t22.length c25, 5, 1, nums .u8 t22⟩, ⟨.slice A12 t11.length c14, 3, 1, nums .i64 t11⟩, ⟨.pointer (some ⟨g4, 0, none⟩), 48, 0, strs x5_0⟩] [Ft49_0, Ft28_0]) := (Mem.callG (hM.as (H' := Gs [⟨.slice A44 t43.length c46, 5, 1, nums .u8 t43⟩, ⟨.slice A33 t32.length c35, 3, 1, nums .i64 t32⟩, ⟨.slice A23 t22.length c25, 5, 1, nums .u8 t22⟩, ⟨.slice A12 t11.length c14, 3, 1, nums .i64 t11⟩, ⟨.pointer (some ⟨g4, 0, none⟩), 48, 0, strs x5_0⟩] [Ft49_0, Ft28_0]) rfl) hM_.grp).as rfl
                        clear hM_ ht59
                        obtain ⟨t65, ht65, h⟩ := Option.bind_eq_some_iff.mp h
                        refine RunF.call (d := some 55) (g := 18) (args := #[.pointer (some ⟨g52, 0, none⟩), .slice A60 t59.length c62, .bool false]) (k2 := (pin Go.Proofs.Try.f8 [1, 1, 1, 0, 1, 0, 0, 1, 0, 0, 1, 1, 1, 0] 4)) (by kernel_rfl) (small_Small_Block.calls k (.pointer (some ⟨g52, 0, none⟩)) (Oks Ft28_0) s51 A60 t59.length c62 t59 false t65 _ (hM.rd 0 rfl) hps51 (fun _ hb_ => ((Mem.oks (hM.as (H' := Gs [⟨.slice A60 t59.length c62, 5, 1, nums .u8 t59⟩, ⟨.slice A44 t43.length c46, 5, 1, nums .u8 t43⟩, ⟨.slice A33 t32.length c35, 3, 1, nums .i64 t32⟩, ⟨.slice A23 t22.length c25, 5, 1, nums .u8 t22⟩, ⟨.slice A12 t11.length c14, 3, 1, nums .i64 t11⟩, ⟨.pointer (some ⟨g4, 0, none⟩), 48, 0, strs x5_0⟩] [Ft49_0, Ft28_0]) rfl) 1 rfl).kept hb_)) ht65) ?_
                        rintro _ W64 ⟨A66, n67, c68, rfl, hM_⟩
                        obtain rfl : t65.1.length = n67 := by have h_ := (hM_.rd 0 rfl).1; simpa [nums_length, bools_length, strs_length] using h_
                        replace hM : Mem w W64 (Gs [⟨.slice A66 t65.1.length c68, 5, 1, nums .u8 t65.1⟩, ⟨.slice A60 t59.length c62, 5, 1, nums .u8 t59⟩, ⟨.slice A44 t43.length c46, 5, 1, nums .u8 t43⟩, ⟨.slice A33 t32.length c35, 3, 1, nums .i64 t32⟩, ⟨.slice A23 t22.length c25, 5, 1, nums .u8 t22⟩, ⟨.slice A12 t11.length c14, 3, 1, nums .i64 t11⟩, ⟨.pointer (some ⟨g4, 0, none⟩), 48, 0, strs x5_0⟩] [Ft49_0, Ft28_0]) := (Mem.callG (hM.as (H' := Gs [⟨.slice A60 t59.length c62, 5, 1, nums .u8 t59⟩, ⟨.slice A44 t43.length c46, 5, 1, nums .u8 t43⟩, ⟨.slice A33 t32.length c35, 3, 1, nums .i64 t32⟩, ⟨.slice A23 t22.length c25, 5, 1, nums .u8 t22⟩, ⟨.slice A12 t11.length c14, 3, 1, nums .i64 t11⟩, ⟨.pointer (some ⟨g4, 0, none⟩), 48, 0, strs x5_0⟩] [Ft49_0, Ft28_0]) rfl) hM_.grp).as rfl
                        clear hM_ ht65
                        refine RunF.go 10 [0, 1, 5, 6, 11, 59, 60] (k' := (pin Go.Proofs.Try.f8 [1, 1, 1, 0, 1, 0, 0, 1, 0, 0, 1, 1, 1, 1, 0] 2)) (L' := [(0, .slice Ap0 a0.length cp0), (1, .slice Ap1 a1.length cp1), (5, .pointer (some ⟨g4, 0, none⟩)), (6, .int .i64 x6_0), (11, .slice A66 t65.1.length c68), (59, .pointer (some ⟨g56, 0, none⟩)), (60, .slice Ap1 a1.length cp1)]) (w' := W64) (by kernel_rfl) ?_
                        obtain ⟨t71, ht71, h⟩ := Option.bind_eq_some_iff.mp h
                        refine RunF.call (d := some 61) (g := 13) (args := #[.int .i64 8, .slice Ap1 a1.length cp1]) (k2 := (pin Go.Proofs.Try.f8 [1, 1, 1, 0, 1, 0, 0, 1, 0, 0, 1, 1, 1, 1, 0] 3)) (by kernel_rfl) (scrimlaw8_Bytes.calls k 8 Ap1 a1.length cp1 a1 t71 _ (hr1.mono hM.below) ht71) ?_
                        rintro _ W70 ⟨A72, n73, c74, rfl, hM_⟩
                        obtain rfl : t71.length = n73 := by have h_ := (hM_.rd 0 rfl).1; simpa [nums_length, bools_length, strs_length] using h_
                        replace hM : Mem w W70 (Gs [⟨.slice A72 t71.length c74, 5, 1, nums .u8 t71⟩, ⟨.slice A66 t65.1.length c68, 5, 1, nums .u8 t65.1⟩, ⟨.slice A60 t59.length c62, 5, 1, nums .u8 t59⟩, ⟨.slice A44 t43.length c46, 5, 1, nums .u8 t43⟩, ⟨.slice A33 t32.length c35, 3, 1, nums .i64 t32⟩, ⟨.slice A23 t22.length c25, 5, 1, nums .u8 t22⟩, ⟨.slice A12 t11.length c14, 3, 1, nums .i64 t11⟩, ⟨.pointer (some ⟨g4, 0, none⟩), 48, 0, strs x5_0⟩] [Ft49_0, Ft28_0]) := (Mem.callG (hM.as (H' := Gs [⟨.slice A66 t65.1.length c68, 5, 1, nums .u8 t65.1⟩, ⟨.slice A60 t59.length c62, 5, 1, nums .u8 t59⟩, ⟨.slice A44 t43.length c46, 5, 1, nums .u8 t43⟩, ⟨.slice A33 t32.length c35, 3, 1, nums .i64 t32⟩, ⟨.slice A23 t22.length c25, 5, 1, nums .u8 t22⟩, ⟨.slice A12 t11.length c14, 3, 1, nums .i64 t11⟩, ⟨.pointer (some ⟨g4, 0, none⟩), 48, 0, strs x5_0⟩] [Ft49_0, Ft28_0]) rfl) hM_.grp).as rfl
                        clear hM_ ht71
                        obtain ⟨t77, ht77, h⟩ := Option.bind_eq_some_iff.mp h
                        refine RunF.call (d := some 62) (g := 19) (args := #[.pointer (some ⟨g56, 0, none⟩), .slice A72 t71.length c74, .bool false]) (k2 := (pin Go.Proofs.Try.f8 [1, 1, 1, 0, 1, 0, 0, 1, 0, 0, 1, 1, 1, 1, 0] 4)) (by kernel_rfl) (scrimref8_Small_Block.calls k (.pointer (some ⟨g56, 0, none⟩)) (Oks Ft49_0) s55 A72 t71.length c74 t71 false t77 _ (hM.rd 0 rfl) hps55 (fun _ hb_ => ((Mem.oks (hM.as (H' := Gs [⟨.slice A72 t71.length c74, 5, 1, nums .u8 t71⟩, ⟨.slice A66 t65.1.length c68, 5, 1, nums .u8 t65.1⟩, ⟨.slice A60 t59.length c62, 5, 1, nums .u8 t59⟩, ⟨.slice A44 t43.length c46, 5, 1, nums .u8 t43⟩, ⟨.slice A33 t32.length c35, 3, 1, nums .i64 t32⟩, ⟨.slice A23 t22.length c25, 5, 1, nums .u8 t22⟩, ⟨.slice A12 t11.length c14, 3, 1, nums .i64 t11⟩, ⟨.pointer (some ⟨g4, 0, none⟩), 48, 0, strs x5_0⟩] [Ft49_0, Ft28_0]) rfl) 0 rfl).kept hb_)) ht77) ?_
                        rintro _ W76 ⟨A78, n79, c80, rfl, hM_⟩
                        obtain rfl : t77.1.length = n79 := by have h_ := (hM_.rd 0 rfl).1; simpa [nums_length, bools_length, strs_length] using h_
                        replace hM : Mem w W76 (Gs [⟨.slice A78 t77.1.length c80, 5, 1, nums .u8 t77.1⟩, ⟨.slice A72 t71.length c74, 5, 1, nums .u8 t71⟩, ⟨.slice A66 t65.1.length c68, 5, 1, nums .u8 t65.1⟩, ⟨.slice A60 t59.length c62, 5, 1, nums .u8 t59⟩, ⟨.slice A44 t43.length c46, 5, 1, nums .u8 t43⟩, ⟨.slice A33 t32.length c35, 3, 1, nums .i64 t32⟩, ⟨.slice A23 t22.length c25, 5, 1, nums .u8 t22⟩, ⟨.slice A12 t11.length c14, 3, 1, nums .i64 t11⟩, ⟨.pointer (some ⟨g4, 0, none⟩), 48, 0, strs x5_0⟩] [Ft49_0, Ft28_0]) := (Mem.callG (hM.as (H' := Gs [⟨.slice A72 t71.length c74, 5, 1, nums .u8 t71⟩, ⟨.slice A66 t65.1.length c68, 5, 1, nums .u8 t65.1⟩, ⟨.slice A60 t59.length c62, 5, 1, nums .u8 t59⟩, ⟨.slice A44 t43.length c46, 5, 1, nums .u8 t43⟩, ⟨.slice A33 t32.length c35, 3, 1, nums .i64 t32⟩, ⟨.slice A23 t22.length c25, 5, 1, nums .u8 t22⟩, ⟨.slice A12 t11.length c14, 3, 1, nums .i64 t11⟩, ⟨.pointer (some ⟨g4, 0, none⟩), 48, 0, strs x5_0⟩] [Ft49_0, Ft28_0]) rfl) hM_.grp).as rfl
                        clear hM_ ht77
                        refine RunF.go 10 [0, 1, 5, 6, 11, 13, 65, 66] (k' := (pin Go.Proofs.Try.f8 [1, 1, 1, 0, 1, 0, 0, 1, 0, 0, 1, 1, 1, 1, 1, 0] 2)) (L' := [(0, .slice Ap0 a0.length cp0), (1, .slice Ap1 a1.length cp1), (5, .pointer (some ⟨g4, 0, none⟩)), (6, .int .i64 x6_0), (11, .slice A66 t65.1.length c68), (13, .slice A78 t77.1.length c80), (65, .int .i64 x6_0), (66, .slice A66 t65.1.length c68)]) (w' := W76) (by kernel_rfl) ?_
                        refine RunF.y (str_y (d := some 67) (A := A66) (m := t65.1.length) (c := c68) (k2 := (pin Go.Proofs.Try.f8 [1, 1, 1, 0, 1, 0, 0, 1, 0, 0, 1, 1, 1, 1, 1, 0] 3)) t65.1 (by kernel_rfl)) (hM.rd 2 rfl) ?_
                        rcases two (decide (0 ≤ x6_0)) with c83 | c83
                        · replace h := of_true h c83
                          rcases two (decide (x6_0 < (3 : Int))) with c84 | c84
                          · replace h := of_true h c84
                            obtain ⟨hcq82, hfq82, hlq82⟩ := hM.arr_str 8 rfl (i := x6_0) (of_decide_eq_true c83) (N := 3) hlx5_0 (of_decide_eq_true c84)
                            refine RunF.y (idxArr_own (d := some 68) (g := g4) (len := 3) (i := x6_0) (k2 := (pin Go.Proofs.Try.f8 [1, 1, 1, 0, 1, 0, 0, 1, 0, 0, 1, 1, 1, 1, 1, 0] 4)) (by kernel_rfl) (of_decide_eq_true c83) (of_decide_eq_true c84)) trivial ?_
                            obtain ⟨hc_, hf_, hl_⟩ := hM.arr_str 8 rfl (i := x6_0) (of_decide_eq_true c83) (N := 3) hlx5_0 (of_decide_eq_true c84)
                            refine RunF.doesU (st_u (p := (⟨g4, (x6_0 : Int).toNat, none⟩ : Addr)) (v := .string (strOf t65.1)) (k2 := (pin Go.Proofs.Try.f8 [1, 1, 1, 0, 1, 0, 0, 1, 0, 0, 1, 1, 1, 1, 1, 0] 5)) (by kernel_rfl) hc_ hf_) ?_
                            replace hM : Mem w (W76.setCell (⟨g4, (x6_0 : Int).toNat, none⟩ : Addr) (.string (strOf t65.1))) (Gs [⟨.slice A78 t77.1.length c80, 5, 1, nums .u8 t77.1⟩, ⟨.slice A72 t71.length c74, 5, 1, nums .u8 t71⟩, ⟨.slice A66 t65.1.length c68, 5, 1, nums .u8 t65.1⟩, ⟨.slice A60 t59.length c62, 5, 1, nums .u8 t59⟩, ⟨.slice A44 t43.length c46, 5, 1, nums .u8 t43⟩, ⟨.slice A33 t32.length c35, 3, 1, nums .i64 t32⟩, ⟨.slice A23 t22.length c25, 5, 1, nums .u8 t22⟩, ⟨.slice A12 t11.length c14, 3, 1, nums .i64 t11⟩, ⟨.pointer (some ⟨g4, 0, none⟩), 48, 0, strs (x5_0.set (x6_0 : Int).toNat (strOf t65.1))⟩] [Ft49_0, Ft28_0]) := Mem.arr_put_str [⟨.slice A78 t77.1.length c80, 5, 1, nums .u8 t77.1⟩, ⟨.slice A72 t71.length c74, 5, 1, nums .u8 t71⟩, ⟨.slice A66 t65.1.length c68, 5, 1, nums .u8 t65.1⟩, ⟨.slice A60 t59.length c62, 5, 1, nums .u8 t59⟩, ⟨.slice A44 t43.length c46, 5, 1, nums .u8 t43⟩, ⟨.slice A33 t32.length c35, 3, 1, nums .i64 t32⟩, ⟨.slice A23 t22.length c25, 5, 1, nums .u8 t22⟩, ⟨.slice A12 t11.length c14, 3, 1, nums .i64 t11⟩] (Gs [] [Ft49_0, Ft28_0]) (hM.as rfl) _ hl_ _
                            generalize W76.setCell (⟨g4, (x6_0 : Int).toNat, none⟩ : Addr) (.string (strOf t65.1)) = W85 at hM ⊢
                            clear hc_ hf_ hl_ hcq82 hfq82 hlq82
                            refine RunF.go 4 [0, 1, 5, 6, 11, 13, 69] (k' := (pin Go.Proofs.Try.f8 [1, 1, 1, 0, 1, 0, 0, 1, 0, 0, 1, 1, 1, 1, 1, 1, 0] 1)) (L' := [(0, .slice Ap0 a0.length cp0), (1, .slice Ap1 a1.length cp1), (5, .pointer (some ⟨g4, 0, none⟩)), (6, .int .i64 x6_0), (11, .slice A66 t65.1.length c68), (13, .slice A78 t77.1.length c80), (69, .slice A66 t65.1.length c68)]) (w' := W85) (by kernel_rfl) ?_
                            refine RunF.y (str_y (d := some 70) (A := A66) (m := t65.1.length) (c := c68) (k2 := (pin Go.Proofs.Try.f8 [1, 1, 1, 0, 1, 0, 0, 1, 0, 0, 1, 1, 1, 1, 1, 1, 0] 2)) t65.1 (by kernel_rfl)) (hM.rd 2 rfl) ?_
                            refine RunF.go 1 [0, 1, 5, 6, 11, 70, 71] (k' := (pin Go.Proofs.Try.f8 [1, 1, 1, 0, 1, 0, 0, 1, 0, 0, 1, 1, 1, 1, 1, 1, 0] 3)) (L' := [(0, .slice Ap0 a0.length cp0), (1, .slice Ap1 a1.length cp1), (5, .pointer (some ⟨g4, 0, none⟩)), (6, .int .i64 x6_0), (11, .slice A66 t65.1.length c68), (70, .string (strOf t65.1)), (71, .slice A78 t77.1.length c80)]) (w' := W85) (by kernel_rfl) ?_
                            refine RunF.y (str_y (d := some 72) (A := A78) (m := t77.1.length) (c := c80) (k2 := (pin Go.Proofs.Try.f8 [1, 1, 1, 0, 1, 0, 0, 1, 0, 0, 1, 1, 1, 1, 1, 1, 0] 4)) t77.1 (by kernel_rfl)) (hM.rd 0 rfl) ?_
                            refine RunF.go 2 [0, 1, 5, 6, 11, 74] (k' := (pin Go.Proofs.Try.f8 [1, 1, 1, 0, 1, 0, 0, 1, 0, 0, 1, 1, 1, 1, 1, 1, 0] 6)) (L' := [(0, .slice Ap0 a0.length cp0), (1, .slice Ap1 a1.length cp1), (5, .pointer (some ⟨g4, 0, none⟩)), (6, .int .i64 x6_0), (11, .slice A66 t65.1.length c68), (74, .bool (!((strOf t65.1).toList == (strOf t77.1).toList)))]) (w' := W85) (by kernel_rfl) ?_
                            obtain ⟨y86, hy, h⟩ := Option.bind_eq_some_iff.mp h
                            rw [show (!((strOf t65.1).toList == (strOf t77.1).toList)) = y86 from Option.some.inj hy]
                            clear hy
                            rcases two (y86) with c87 | c87
                            · replace h := of_true h c87
                              refine RunF.know 74 (b := true) (by kernel_rfl) c87 ?_
                              refine RunF.go 10 [4] (k' := (pl Go.Proofs.Try.f8 [1, 1, 1, 0, 1, 0, 0, 1, 0, 0, 1, 1, 1, 1, 1, 1, 1, 0, 1])) (L' := [(4, .bool false)]) (w' := W85) (by kernel_rfl) ?_
                              obtain rfl := Option.some.inj h
                              exact RunF.ret1 4 (.bool false) (fn := Go.Proofs.Try.f8) Go.Proofs.Try.func8 (by kernel_rfl) (by kernel_rfl) (by kernel_rfl) ⟨_, rfl, rfl, (Mem.pickF (hM.as (H' := Gs [⟨.slice A78 t77.1.length c80, 5, 1, nums .u8 t77.1⟩, ⟨.slice A72 t71.length c74, 5, 1, nums .u8 t71⟩, ⟨.slice A66 t65.1.length c68, 5, 1, nums .u8 t65.1⟩, ⟨.slice A60 t59.length c62, 5, 1, nums .u8 t59⟩, ⟨.slice A44 t43.length c46, 5, 1, nums .u8 t43⟩, ⟨.slice A33 t32.length c35, 3, 1, nums .i64 t32⟩, ⟨.slice A23 t22.length c25, 5, 1, nums .u8 t22⟩, ⟨.slice A12 t11.length c14, 3, 1, nums .i64 t11⟩, ⟨.pointer (some ⟨g4, 0, none⟩), 48, 0, strs (x5_0.set (x6_0 : Int).toNat (strOf t65.1))⟩] [Ft49_0, Ft28_0]) rfl) [] rfl rfl rfl).ungrp⟩
                            · replace h := of_false h c87
                              refine RunF.know 74 (b := false) (by kernel_rfl) c87 ?_
                              refine RunF.go 5 [0, 1, 5, 6, 78] (k' := (pl Go.Proofs.Try.f8 [1, 1, 1, 0, 1, 0, 0, 1, 0, 0, 1, 1, 1, 1, 1, 1, 1])) (L' := [(0, .slice Ap0 a0.length cp0), (1, .slice Ap1 a1.length cp1), (5, .pointer (some ⟨g4, 0, none⟩)), (6, .int .i64 x6_0), (78, .bool ((t65.1.length : Int) != 8))]) (w' := W85) (by kernel_rfl) ?_
                              rcases two (((t65.1.length : Int) != 8)) with c88 | c88
                              · replace h := of_true h c88
                                refine RunF.know 78 (b := true) (by kernel_rfl) c88 ?_
                                refine RunF.go 5 [4] (k' := (pl Go.Proofs.Try.f8 [1, 1, 1, 0, 1, 0, 0, 1, 0, 0, 1, 1, 1, 1, 1, 1, 1, 0, 1])) (L' := [(4, .bool false)]) (w' := W85) (by kernel_rfl) ?_
                                obtain rfl := Option.some.inj h
                                exact RunF.ret1 4 (.bool false) (fn := Go.Proofs.Try.f8) Go.Proofs.Try.func8 (by kernel_rfl) (by kernel_rfl) (by kernel_rfl) ⟨_, rfl, rfl, (Mem.pickF (hM.as (H' := Gs [⟨.slice A78 t77.1.length c80, 5, 1, nums .u8 t77.1⟩, ⟨.slice A72 t71.length c74, 5, 1, nums .u8 t71⟩, ⟨.slice A66 t65.1.length c68, 5, 1, nums .u8 t65.1⟩, ⟨.slice A60 t59.length c62, 5, 1, nums .u8 t59⟩, ⟨.slice A44 t43.length c46, 5, 1, nums .u8 t43⟩, ⟨.slice A33 t32.length c35, 3, 1, nums .i64 t32⟩, ⟨.slice A23 t22.length c25, 5, 1, nums .u8 t22⟩, ⟨.slice A12 t11.length c14, 3, 1, nums .i64 t11⟩, ⟨.pointer (some ⟨g4, 0, none⟩), 48, 0, strs (x5_0.set (x6_0 : Int).toNat (strOf t65.1))⟩] [Ft49_0, Ft28_0]) rfl) [] rfl rfl rfl).ungrp⟩
                              · replace h := of_false h c88
                                refine RunF.know 78 (b := false) (by kernel_rfl) c88 ?_
                                refine RunF.go 9 [0, 1, 5, 6] (k' := (pl Go.Proofs.Try.f8 [1, 1, 1, 0, 1, 0, 0])) (L' := [(0, .slice Ap0 a0.length cp0), (1, .slice Ap1 a1.length cp1), (5, .pointer (some ⟨g4, 0, none⟩)), (6, .int .i64 (I64 (x6_0 + 1)))]) (w' := W85) (by kernel_rfl) ?_
                                exact ih0 k (by omega) (x5_0.set (x6_0 : Int).toNat (strOf t65.1)) (I64 (x6_0 + 1)) _ (Mem.pickF (hM.as (H' := Gs [⟨.slice A78 t77.1.length c80, 5, 1, nums .u8 t77.1⟩, ⟨.slice A72 t71.length c74, 5, 1, nums .u8 t71⟩, ⟨.slice A66 t65.1.length c68, 5, 1, nums .u8 t65.1⟩, ⟨.slice A60 t59.length c62, 5, 1, nums .u8 t59⟩, ⟨.slice A44 t43.length c46, 5, 1, nums .u8 t43⟩, ⟨.slice A33 t32.length c35, 3, 1, nums .i64 t32⟩, ⟨.slice A23 t22.length c25, 5, 1, nums .u8 t22⟩, ⟨.slice A12 t11.length c14, 3, 1, nums .i64 t11⟩, ⟨.pointer (some ⟨g4, 0, none⟩), 48, 0, strs (x5_0.set (x6_0 : Int).toNat (strOf t65.1))⟩] [Ft49_0, Ft28_0]) rfl) [8] rfl rfl rfl).ungrp (List.length_set.trans hlx5_0) h
                          · replace h := of_false h c84
                            cases h
                        · replace h := of_false h c83
                          cases h
                      · replace h := of_false h c54
                        obtain rfl := rOpt.none hRt49_0 c54
                        refine RunF.go 8 [4] (k' := (pl Go.Proofs.Try.f8 [1, 1, 1, 0, 1, 0, 0, 1, 0, 0, 1, 1, 0, 1, 0, 1])) (L' := [(4, .bool false)]) (w' := W48) (by kernel_rfl) ?_
                        obtain rfl := Option.some.inj h
                        exact RunF.ret1 4 (.bool false) (fn := Go.Proofs.Try.f8) Go.Proofs.Try.func8 (by kernel_rfl) (by kernel_rfl) (by kernel_rfl) ⟨_, rfl, rfl, (Mem.pickF (hM.as (H' := Gs [⟨.slice A44 t43.length c46, 5, 1, nums .u8 t43⟩, ⟨.slice A33 t32.length c35, 3, 1, nums .i64 t32⟩, ⟨.slice A23 t22.length c25, 5, 1, nums .u8 t22⟩, ⟨.slice A12 t11.length c14, 3, 1, nums .i64 t11⟩, ⟨.pointer (some ⟨g4, 0, none⟩), 48, 0, strs x5_0⟩] [Ft49_0, Ft28_0]) rfl) [] rfl rfl rfl).ungrp⟩
                    · replace h := of_false h c50
                      obtain rfl := rOpt.none hRt28_0 c50
                      refine RunF.go 11 [4] (k' := (pl Go.Proofs.Try.f8 [1, 1, 1, 0, 1, 0, 0, 1, 0, 0, 1, 1, 0, 1, 0, 1])) (L' := [(4, .bool false)]) (w' := W48) (by kernel_rfl) ?_
                      obtain rfl := Option.some.inj h
                      exact RunF.ret1 4 (.bool false) (fn := Go.Proofs.Try.f8) Go.Proofs.Try.func8 (by kernel_rfl) (by kernel_rfl) (by kernel_rfl) ⟨_, rfl, rfl, (Mem.pickF (hM.as (H' := Gs [⟨.slice A44 t43.length c46, 5, 1, nums .u8 t43⟩, ⟨.slice A33 t32.length c35, 3, 1, nums .i64 t32⟩, ⟨.slice A23 t22.length c25, 5, 1, nums .u8 t22⟩, ⟨.slice A12 t11.length c14, 3, 1, nums .i64 t11⟩, ⟨.pointer (some ⟨g4, 0, none⟩), 48, 0, strs x5_0⟩] [Ft49_0, Ft28_0]) rfl) [] rfl rfl rfl).ungrp⟩
                  · replace h := of_false h c39
                    cases h
                · replace h := of_false h c38
                  cases h
              · replace h := of_false h c18
                cases h
            · replace h := of_false h c17
              cases h
          · replace h := of_false h c7
            refine RunF.know 18 (b := false) (by kernel_rfl) c7 ?_
            refine RunF.go 4 [5] (k' := (pin Go.Proofs.Try.f8 [1, 1, 1, 1, 0] 0)) (L' := [(5, .pointer (some ⟨g4, 0, none⟩))]) (w' := W) (by kernel_rfl) ?_
            obtain ⟨hcq89, hfq89, hlq89⟩ := hM.arr_str 0 rfl (i := 0) (by omega) (N := 3) hlx5_0 (by decide)
            refine RunF.y (idxArr_own (d := some 79) (g := g4) (len := 3) (i := 0) (k2 := (pin Go.Proofs.Try.f8 [1, 1, 1, 1, 0] 1)) (by kernel_rfl) (by omega) (by decide)) trivial ?_
            refine RunF.y (ld_y (d := some 80) (p := ⟨g4, (0 : Int).toNat, none⟩) (k2 := (pin Go.Proofs.Try.f8 [1, 1, 1, 1, 0] 2)) (.string (rds x5_0 0)) (by kernel_rfl)) hcq89 ?_
            obtain ⟨hcq90, hfq90, hlq90⟩ := hM.arr_str 0 rfl (i := 1) (by omega) (N := 3) hlx5_0 (by decide)
            refine RunF.y (idxArr_own (d := some 81) (g := g4) (len := 3) (i := 1) (k2 := (pin Go.Proofs.Try.f8 [1, 1, 1, 1, 0] 3)) (by kernel_rfl) (by omega) (by decide)) trivial ?_
            refine RunF.y (ld_y (d := some 82) (p := ⟨g4, (1 : Int).toNat, none⟩) (k2 := (pin Go.Proofs.Try.f8 [1, 1, 1, 1, 0] 4)) (.string (rds x5_0 1)) (by kernel_rfl)) hcq90 ?_
            rcases two (decide ((rds x5_0 0).size + (rds x5_0 1).size ≤ 1000000000)) with c91 | c91
            · replace h := of_true h c91
              refine RunF.y (cat_y (d := some 83) (a := rds x5_0 0) (b := rds x5_0 1) (k2 := (pin Go.Proofs.Try.f8 [1, 1, 1, 1, 0] 5)) (by kernel_rfl) (of_decide_eq_true c91)) trivial ?_
              obtain ⟨hcq92, hfq92, hlq92⟩ := hM.arr_str 0 rfl (i := 2) (by omega) (N := 3) hlx5_0 (by decide)
              refine RunF.y (idxArr_own (d := some 84) (g := g4) (len := 3) (i := 2) (k2 := (pin Go.Proofs.Try.f8 [1, 1, 1, 1, 0] 6)) (by kernel_rfl) (by omega) (by decide)) trivial ?_
              refine RunF.y (ld_y (d := some 85) (p := ⟨g4, (2 : Int).toNat, none⟩) (k2 := (pin Go.Proofs.Try.f8 [1, 1, 1, 1, 0] 7)) (.string (rds x5_0 2)) (by kernel_rfl)) hcq92 ?_
              rcases two (decide (((rds x5_0 0) ++ (rds x5_0 1)).size + (rds x5_0 2).size ≤ 1000000000)) with c93 | c93
              · replace h := of_true h c93
                refine RunF.y (cat_y (d := some 86) (a := ((rds x5_0 0) ++ (rds x5_0 1))) (b := rds x5_0 2) (k2 := (pin Go.Proofs.Try.f8 [1, 1, 1, 1, 0] 8)) (by kernel_rfl) (of_decide_eq_true c93)) trivial ?_
                refine RunF.go 4 [4] (k' := (pl Go.Proofs.Try.f8 [1, 1, 1, 1, 1])) (L' := [(4, .bool (((((rds x5_0 0) ++ (rds x5_0 1)) ++ (rds x5_0 2)).size : Int) == 24))]) (w' := W) (by kernel_rfl) ?_
                obtain rfl := Option.some.inj h
                exact RunF.ret1 4 (.bool (((((rds x5_0 0) ++ (rds x5_0 1)) ++ (rds x5_0 2)).size : Int) == 24)) (fn := Go.Proofs.Try.f8) Go.Proofs.Try.func8 (by kernel_rfl) (by kernel_rfl) (by kernel_rfl) ⟨_, rfl, rfl, (hM.pick [] rfl rfl)⟩
              · replace h := of_false h c93
                cases h
            · replace h := of_false h c91
              cases h
    exact l0 k (Nat.le_refl _) (List.replicate 3 ByteArray.empty) 0 _ (hM.pick [0] rfl rfl) List.length_replicate h


end Go.Scr.S
