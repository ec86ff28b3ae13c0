/- The functions that the law IdeaRounds reaches, as plain functions, and that each call answers so. -/
import Derived.Test.YtdagooiakgnecaaProg
import Derived.Test.YtdagooiakgnecaaXDeep3
set_option linter.unusedVariables false
set_option linter.unusedSimpArgs false
set_option linter.unnecessarySimpa false
namespace Go.Scr.S
open Go.RowKit (Below)
def Rs_idea_Idea (Z : Zp) (cs : List Value) (x : ((List Int) × (List Int))) : Prop := ∃ (u0 : Value) (u1 : Value), cs = [u0, u1] ∧ (rNums .i64) Z u0 x.1 ∧ (rNums .i64) Z u1 x.2
theorem up_Rs_idea_Idea (Z Y : Zp) (cs : List Value) (x : ((List Int) × (List Int))) (hs : ∀ W, Y W → Z W) : Rs_idea_Idea Z cs x → Rs_idea_Idea Y cs x := fun ⟨u0, u1, e, h0, h1⟩ => ⟨u0, u1, e, (up_nums .i64) _ _ _ _ hs h0, (up_nums .i64) _ _ _ _ hs h1⟩
/-! ### scrim/idea.load: function 19 -/
def idea_load.l0 : Nat → (List Int) → (List Int) → Int → Option (List Int)
  | 0, _, _, _ => none
  | k + 1, a0, x3_0, x4_0 => (some (decide ((I64 (x4_0 + 1)) < (a0.length : Int)) : Bool)).bind fun y3 => (if y3 = true then (if (decide (0 ≤ x4_0)) = true then (if (decide (x4_0 < (a0.length : Int))) = true then (if (decide (0 ≤ (I64 (x4_0 + 1)))) = true then (if (decide ((I64 (x4_0 + 1)) < (a0.length : Int))) = true then (if (decide (x3_0.length + ([bor .i64 (shl .i64 (I64 (rd a0 x4_0)) 8) (I64 (rd a0 (I64 (x4_0 + 1))))] : List Int).length ≤ 1000000000)) = true then (idea_load.l0 k a0 (x3_0 ++ ([bor .i64 (shl .i64 (I64 (rd a0 x4_0)) 8) (I64 (rd a0 (I64 (x4_0 + 1))))] : List Int)) (I64 (x4_0 + 2))) else (none)) else (none)) else (none)) else (none)) else (none)) else (some x3_0))
def idea_load.f (k : Nat) (a0 : List Int) : Option (List Int) := idea_load.l0 k a0 ([] : List Int) 0
set_option maxRecDepth 100000 in
theorem idea_load.calls (k : Nat) (Ap0 : Option Addr) (np0 cp0 : Nat) (a0 : List Int) (r : List Int) (w : World) (hr0 : Rd w (.slice Ap0 np0 cp0) (nums .u8 a0)) (h : idea_load.f k a0 = some r) :
    Calls Go.Proofs.Try.prog 19 #[(.slice Ap0 np0 cp0)] w (Ret fun v w' => ∃ A0' n0' c0', v = .slice A0' n0' c0' ∧ Mem w w' [⟨.slice A0' n0' c0', 3, 1, nums .i64 r⟩]) := by
  obtain rfl : a0.length = np0 := by have h_ := hr0.1; simpa [nums_length, bools_length, strs_length] using h_
  unfold idea_load.f at h
  refine calls_of [.slice Ap0 a0.length cp0] (fn := Go.Proofs.Try.f19) Go.Proofs.Try.func19 (by kernel_rfl) (by kernel_rfl) ?_
  have hM := Mem.refl w
  refine RunF.go 15 [0, 3, 4] (k' := (pl Go.Proofs.Try.f19 [1, 1, 0, 1, 0, 0])) (L' := [(0, .slice Ap0 a0.length cp0), (3, .slice none 0 0), (4, .int .i64 0)]) (w' := w) (by kernel_rfl) ?_
  replace hM := hM.nil 3
  have l0 : ∀ (k_ : Nat), k_ ≤ k → ∀ (A3_0 : Option Addr) (c3_0 : Nat) (x3_0 : List Int) (x4_0 : Int) (W : World) (hM : Mem w W [⟨.slice A3_0 x3_0.length c3_0, 3, 1, nums .i64 x3_0⟩]) (h : idea_load.l0 k_ a0 x3_0 x4_0 = some r), RunF Go.Proofs.Try.prog (Ret fun v w' => ∃ A0' n0' c0', v = .slice A0' n0' c0' ∧ Mem w w' [⟨.slice A0' n0' c0', 3, 1, nums .i64 r⟩]) 19 (pl Go.Proofs.Try.f19 [1, 1, 0, 1, 0, 0]) 29 [(0, .slice Ap0 a0.length cp0), (3, .slice A3_0 x3_0.length c3_0), (4, .int .i64 x4_0)] W := by
    intro k_
    induction k_ using Nat.strongRecOn with
    | _ k_ ih0 =>
      intro hk A3_0 c3_0 x3_0 x4_0 W hM h
      cases k_ with
      | zero => exact absurd h (by simp [idea_load.l0])
      | succ k =>
        simp only [idea_load.l0] at h
        replace ih0 : ∀ m, m ≤ k → _ := fun m hm => ih0 m (by omega) (by omega)
        refine RunF.go 9 [0, 3, 4, 9] (k' := (pl Go.Proofs.Try.f19 [1, 1, 0, 1, 0, 0, 0, 1])) (L' := [(0, .slice Ap0 a0.length cp0), (3, .slice A3_0 x3_0.length c3_0), (4, .int .i64 x4_0), (9, .bool (decide ((I64 (x4_0 + 1)) < (a0.length : Int))))]) (w' := W) (by kernel_rfl) ?_
        obtain ⟨y3, hy, h⟩ := Option.bind_eq_some_iff.mp h
        rw [show (decide ((I64 (x4_0 + 1)) < (a0.length : Int))) = y3 from Option.some.inj hy]
        clear hy
        rcases two (y3) with c4 | c4
        · replace h := of_true h c4
          refine RunF.know 9 (b := true) (by kernel_rfl) c4 ?_
          refine RunF.go 4 [0, 3, 4] (k' := (pl Go.Proofs.Try.f19 [1, 1, 0, 1, 0, 0, 1, 0, 0])) (L' := [(0, .slice Ap0 a0.length cp0), (3, .slice A3_0 x3_0.length c3_0), (4, .int .i64 x4_0)]) (w' := W) (by kernel_rfl) ?_
          refine RunF.draw (Still ({ W with drawn := W.drawn + 1 } : World) [.slice A3_0 x3_0.length c3_0]) (by kernel_rfl) (by kernel_rfl) ?_
          have hMd6 := hM.drew
          have hS := Still.refl ({ W with drawn := W.drawn + 1 } : World) [.slice A3_0 x3_0.length c3_0]
          generalize ({ W with drawn := W.drawn + 1 } : World) = W5 at hMd6 hS ⊢
          replace hM := hMd6
          refine RunAny.y 0 (by kernel_rfl) (yl_pure (d := some 12) (v := .slice A3_0 x3_0.length c3_0) (k2 := [.inRegion (opsOf (pl Go.Proofs.Try.f19 [1, 1, 0, 1, 0, 0, 1, 0, 0])) []]) fun w => by kernel_rfl) (fun _ _ => trivial) hS ?_
          refine RunAny.y 1 (by kernel_rfl) (yl_pure (d := some 13) (v := .slice Ap0 a0.length cp0) (k2 := [.inRegion (opsOf (pl Go.Proofs.Try.f19 [1, 1, 0, 1, 0, 0, 1, 0, 0])) []]) fun w => by kernel_rfl) (fun _ _ => trivial) hS ?_
          refine RunAny.y 2 (by kernel_rfl) (yl_pure (d := some 14) (v := .int .i64 x4_0) (k2 := [.inRegion (opsOf (pl Go.Proofs.Try.f19 [1, 1, 0, 1, 0, 0, 1, 0, 0])) []]) fun w => by kernel_rfl) (fun _ _ => trivial) hS ?_
          rcases two (decide (0 ≤ x4_0)) with c8 | c8
          · replace h := of_true h c8
            rcases two (decide (x4_0 < (a0.length : Int))) with c9 | c9
            · replace h := of_true h c9
              obtain ⟨q7, hAq7, hiq7⟩ := Rd.num hr0 (i := x4_0) (of_decide_eq_true c8) (by have h_ := of_decide_eq_true c9; omega)
              have hcq7 := (hM.below.cell (World.block_lt_of_cell? _ _ hiq7)).trans hiq7
              refine RunAny.y 3 (by kernel_rfl) (idx_y (d := some 15) (A := Ap0) (m := a0.length) (i := x4_0) (k2 := [.inRegion (opsOf (pl Go.Proofs.Try.f19 [1, 1, 0, 1, 0, 0, 1, 0, 0])) []]) (by kernel_rfl) (of_decide_eq_true c8) (by have h_ := of_decide_eq_true c9; omega) hAq7) (fun _ _ => trivial) hS ?_
              refine RunAny.y 4 (by kernel_rfl) (ld_y (d := some 16) (p := (q7.add (x4_0 : Int).toNat)) (k2 := [.inRegion (opsOf (pl Go.Proofs.Try.f19 [1, 1, 0, 1, 0, 0, 1, 0, 0])) []]) (.int .u8 (rd a0 x4_0)) (by kernel_rfl)) (fun _ hs => hs.cell hcq7 (by intro v hv; simp only [List.mem_cons, List.not_mem_nil, or_false] at hv; rcases hv with rfl; exact (hM.far hiq7 0 rfl))) hS ?_
              refine RunAny.y 5 (by kernel_rfl) (yl_pure (d := some 17) (v := .int .i64 (I64 (rd a0 x4_0))) (k2 := [.inRegion (opsOf (pl Go.Proofs.Try.f19 [1, 1, 0, 1, 0, 0, 1, 0, 0])) []]) fun w => by kernel_rfl) (fun _ _ => trivial) hS ?_
              refine RunAny.y 6 (by kernel_rfl) (yl_pure (d := some 18) (v := .int .i64 (shl .i64 (I64 (rd a0 x4_0)) 8)) (k2 := [.inRegion (opsOf (pl Go.Proofs.Try.f19 [1, 1, 0, 1, 0, 0, 1, 0, 0])) []]) fun w => by kernel_rfl) (fun _ _ => trivial) hS ?_
              refine RunAny.y 7 (by kernel_rfl) (yl_pure (d := some 19) (v := .slice Ap0 a0.length cp0) (k2 := [.inRegion (opsOf (pl Go.Proofs.Try.f19 [1, 1, 0, 1, 0, 0, 1, 0, 0])) []]) fun w => by kernel_rfl) (fun _ _ => trivial) hS ?_
              refine RunAny.y 8 (by kernel_rfl) (yl_pure (d := some 20) (v := .int .i64 x4_0) (k2 := [.inRegion (opsOf (pl Go.Proofs.Try.f19 [1, 1, 0, 1, 0, 0, 1, 0, 0])) []]) fun w => by kernel_rfl) (fun _ _ => trivial) hS ?_
              refine RunAny.y 9 (by kernel_rfl) (yl_pure (d := some 21) (v := .int .i64 (I64 (x4_0 + 1))) (k2 := [.inRegion (opsOf (pl Go.Proofs.Try.f19 [1, 1, 0, 1, 0, 0, 1, 0, 0])) []]) fun w => by kernel_rfl) (fun _ _ => trivial) hS ?_
              rcases two (decide (0 ≤ (I64 (x4_0 + 1)))) with c11 | c11
              · replace h := of_true h c11
                rcases two (decide ((I64 (x4_0 + 1)) < (a0.length : Int))) with c12 | c12
                · replace h := of_true h c12
                  obtain ⟨q10, hAq10, hiq10⟩ := Rd.num hr0 (i := I64 (x4_0 + 1)) (of_decide_eq_true c11) (by have h_ := of_decide_eq_true c12; omega)
                  have hcq10 := (hM.below.cell (World.block_lt_of_cell? _ _ hiq10)).trans hiq10
                  refine RunAny.y 10 (by kernel_rfl) (idx_y (d := some 22) (A := Ap0) (m := a0.length) (i := I64 (x4_0 + 1)) (k2 := [.inRegion (opsOf (pl Go.Proofs.Try.f19 [1, 1, 0, 1, 0, 0, 1, 0, 0])) []]) (by kernel_rfl) (of_decide_eq_true c11) (by have h_ := of_decide_eq_true c12; omega) hAq10) (fun _ _ => trivial) hS ?_
                  refine RunAny.y 11 (by kernel_rfl) (ld_y (d := some 23) (p := (q10.add (I64 (x4_0 + 1) : Int).toNat)) (k2 := [.inRegion (opsOf (pl Go.Proofs.Try.f19 [1, 1, 0, 1, 0, 0, 1, 0, 0])) []]) (.int .u8 (rd a0 (I64 (x4_0 + 1)))) (by kernel_rfl)) (fun _ hs => hs.cell hcq10 (by intro v hv; simp only [List.mem_cons, List.not_mem_nil, or_false] at hv; rcases hv with rfl; exact (hM.far hiq10 0 rfl))) hS ?_
                  refine RunAny.y 12 (by kernel_rfl) (yl_pure (d := some 24) (v := .int .i64 (I64 (rd a0 (I64 (x4_0 + 1))))) (k2 := [.inRegion (opsOf (pl Go.Proofs.Try.f19 [1, 1, 0, 1, 0, 0, 1, 0, 0])) []]) fun w => by kernel_rfl) (fun _ _ => trivial) hS ?_
                  refine RunAny.y 13 (by kernel_rfl) (yl_pure (d := some 25) (v := .int .i64 (bor .i64 (shl .i64 (I64 (rd a0 x4_0)) 8) (I64 (rd a0 (I64 (x4_0 + 1)))))) (k2 := [.inRegion (opsOf (pl Go.Proofs.Try.f19 [1, 1, 0, 1, 0, 0, 1, 0, 0])) []]) fun w => by kernel_rfl) (fun _ _ => trivial) hS ?_
                  refine RunAny.new 14 3 1 1 (nums .i64 [bor .i64 (shl .i64 (I64 (rd a0 x4_0)) 8) (I64 (rd a0 (I64 (x4_0 + 1))))]) (d := some 26) (k2 := [.inRegion (opsOf (pl Go.Proofs.Try.f19 [1, 1, 0, 1, 0, 0, 1, 0, 0])) []]) (by kernel_rfl) hM (by simp [nums, bools, strs]) (by kernel_rfl) (by kernel_rfl) hS ?_
                  intro g13 W14 hS hM
                  refine RunAny.rebase hS ?_
                  replace hS := Still.refl W14 [.slice A3_0 x3_0.length c3_0]
                  rcases two (decide (x3_0.length + ([bor .i64 (shl .i64 (I64 (rd a0 x4_0)) 8) (I64 (rd a0 (I64 (x4_0 + 1))))] : List Int).length ≤ 1000000000)) with c20 | c20
                  · replace h := of_true h c20
                    have h_ := of_decide_eq_true c20
                    obtain ⟨A16, n17, c18, W19, hD, hM', hS_⟩ := app_does (P := Go.Proofs.Try.prog) (n := 29) (k := (one (opsOf (pl Go.Proofs.Try.f19 [1, 1, 0, 1, 0, 0, 1, 0, 0])) 15)) (L := (upd (upd (upd (upd (upd (upd (upd (upd (upd (upd (upd (upd (upd (upd (upd [(0, .slice Ap0 a0.length cp0), (3, .slice A3_0 x3_0.length c3_0), (4, .int .i64 x4_0)] (some 12) (.slice A3_0 x3_0.length c3_0)) (some 13) (.slice Ap0 a0.length cp0)) (some 14) (.int .i64 x4_0)) (some 15) (.pointer (some (q7.add (x4_0 : Int).toNat)))) (some 16) (.int .u8 (rd a0 x4_0))) (some 17) (.int .i64 (I64 (rd a0 x4_0)))) (some 18) (.int .i64 (shl .i64 (I64 (rd a0 x4_0)) 8))) (some 19) (.slice Ap0 a0.length cp0)) (some 20) (.int .i64 x4_0)) (some 21) (.int .i64 (I64 (x4_0 + 1)))) (some 22) (.pointer (some (q10.add (I64 (x4_0 + 1) : Int).toNat)))) (some 23) (.int .u8 (rd a0 (I64 (x4_0 + 1))))) (some 24) (.int .i64 (I64 (rd a0 (I64 (x4_0 + 1)))))) (some 25) (.int .i64 (bor .i64 (shl .i64 (I64 (rd a0 x4_0)) 8) (I64 (rd a0 (I64 (x4_0 + 1))))))) (some 26) (.slice (some ⟨g13, 0, none⟩) 1 1))) (d := some 27) (e := 3) (A := A3_0) (m := x3_0.length) (c := c3_0) (A2 := (some ⟨g13, 0, none⟩)) (m2 := 1) (c2 := 1) (cs := nums .i64 x3_0) (ys := nums .i64 ([bor .i64 (shl .i64 (I64 (rd a0 x4_0)) 8) (I64 (rd a0 (I64 (x4_0 + 1))))] : List Int)) (k2 := [.inRegion (opsOf (pl Go.Proofs.Try.f19 [1, 1, 0, 1, 0, 0, 1, 0, 0])) []]) [⟨.slice (some ⟨g13, 0, none⟩) 1 1, 3, 1, nums .i64 [bor .i64 (shl .i64 (I64 (rd a0 x4_0)) 8) (I64 (rd a0 (I64 (x4_0 + 1))))]⟩] [] (by kernel_rfl) (hM.pick [0, 1] rfl rfl) (hM.rd 0 rfl) (one_nums _ _) (by omega)
                    rw [nums_append] at hM'
                    replace hM := hM'; clear h_ hM'
                    obtain rfl : (x3_0 ++ ([bor .i64 (shl .i64 (I64 (rd a0 x4_0)) 8) (I64 (rd a0 (I64 (x4_0 + 1))))] : List Int)).length = n17 := by have h_ := (hM.rd 1 rfl).1; simpa only [nums_length, bools_length, strs_length] using h_
                    refine RunAny.does 15 (by kernel_rfl) hD (hS.app hS_ (by simp)) ?_
                    clear hD
                    replace hS := (hS.app hS_ (by simp)); clear hS_
                    refine RunAny.rebase hS ?_
                    replace hS := Still.refl W19 [.slice A3_0 x3_0.length c3_0]
                    refine RunAny.y 16 (by kernel_rfl) (yl_pure (d := some 3) (v := .slice A16 ((x3_0 ++ ([bor .i64 (shl .i64 (I64 (rd a0 x4_0)) 8) (I64 (rd a0 (I64 (x4_0 + 1))))] : List Int)).length) c18) (k2 := [.inRegion (opsOf (pl Go.Proofs.Try.f19 [1, 1, 0, 1, 0, 0, 1, 0, 0])) []]) fun w => by kernel_rfl) (fun _ _ => trivial) hS ?_
                    refine RunAny.done (by kernel_rfl) ?_
                    clear hS
                    refine RunF.go 7 [0, 3, 4] (k' := (pl Go.Proofs.Try.f19 [1, 1, 0, 1, 0, 0])) (L' := [(0, .slice Ap0 a0.length cp0), (3, .slice A16 ((x3_0 ++ ([bor .i64 (shl .i64 (I64 (rd a0 x4_0)) 8) (I64 (rd a0 (I64 (x4_0 + 1))))] : List Int)).length) c18), (4, .int .i64 (I64 (x4_0 + 2)))]) (w' := W19) (by kernel_rfl) ?_
                    exact ih0 k (by omega) A16 c18 (x3_0 ++ ([bor .i64 (shl .i64 (I64 (rd a0 x4_0)) 8) (I64 (rd a0 (I64 (x4_0 + 1))))] : List Int)) (I64 (x4_0 + 2)) _ (hM.pick [1] rfl rfl) h
                  · replace h := of_false h c20
                    cases h
                · replace h := of_false h c12
                  cases h
              · replace h := of_false h c11
                cases h
            · replace h := of_false h c9
              cases h
          · replace h := of_false h c8
            cases h
        · replace h := of_false h c4
          refine RunF.know 9 (b := false) (by kernel_rfl) c4 ?_
          refine RunF.go 7 [2] (k' := (pl Go.Proofs.Try.f19 [1, 1, 1, 1])) (L' := [(2, .slice A3_0 x3_0.length c3_0)]) (w' := W) (by kernel_rfl) ?_
          obtain rfl := Option.some.inj h
          exact RunF.ret1 2 (.slice A3_0 x3_0.length c3_0) (fn := Go.Proofs.Try.f19) Go.Proofs.Try.func19 (by kernel_rfl) (by kernel_rfl) (by kernel_rfl) ⟨_, rfl, A3_0, x3_0.length, c3_0, rfl, (hM.pick [0] rfl rfl)⟩
  exact l0 k (Nat.le_refl _) none 0 ([] : List Int) 0 _ (hM.pick [0] rfl rfl) h

/-! ### scrim/words.rest: function 26 -/
def words_rest.f (k : Nat) (a0 : Int) (a1 : Int) : Option (Int) := if (decide (a1 = 0)) = true then (none) else (if (decide (a1 = 0)) = true then (none) else (some (Int.tmod (I64 ((Int.tmod a0 a1) + a1)) a1)))
set_option maxRecDepth 100000 in
theorem words_rest.calls (k : Nat) (a0 : Int) (a1 : Int) (r : Int) (w : World) (h : words_rest.f k a0 a1 = some r) :
    Calls Go.Proofs.Try.prog 26 #[.int .i64 a0, .int .i64 a1] w (Ret fun v w' => v = .int .i64 r ∧ Mem w w' []) := by
  unfold words_rest.f at h
  refine calls_of [.int .i64 a0, .int .i64 a1] (fn := Go.Proofs.Try.f26) Go.Proofs.Try.func26 (by kernel_rfl) (by kernel_rfl) ?_
  have hM := Mem.refl w
  refine RunF.go 8 [1, 5, 6] (k' := (pin Go.Proofs.Try.f26 [1, 0] 2)) (L' := [(1, .int .i64 a1), (5, .int .i64 a0), (6, .int .i64 a1)]) (w' := w) (by kernel_rfl) ?_
  rcases two (decide (a1 = 0)) with c1 | c1
  · replace h := of_true h c1
    cases h
  · replace h := of_false h c1
    refine RunF.y (div_y (d := some 7) (b := false) (kd := .i64) (x := a0) (y := a1) (k2 := (pin Go.Proofs.Try.f26 [1, 0] 3)) (by kernel_rfl) c1) trivial ?_
    refine RunF.go 3 [9, 10] (k' := (pin Go.Proofs.Try.f26 [1, 0] 6)) (L' := [(9, .int .i64 (I64 ((Int.tmod a0 a1) + a1))), (10, .int .i64 a1)]) (w' := w) (by kernel_rfl) ?_
    rcases two (decide (a1 = 0)) with c2 | c2
    · replace h := of_true h c2
      cases h
    · replace h := of_false h c2
      refine RunF.y (div_y (d := some 11) (b := false) (kd := .i64) (x := I64 ((Int.tmod a0 a1) + a1)) (y := a1) (k2 := (pin Go.Proofs.Try.f26 [1, 0] 7)) (by kernel_rfl) c2) trivial ?_
      refine RunF.go 2 [4] (k' := (pl Go.Proofs.Try.f26 [1, 1])) (L' := [(4, .int .i64 (Int.tmod (I64 ((Int.tmod a0 a1) + a1)) a1))]) (w' := w) (by kernel_rfl) ?_
      obtain rfl := Option.some.inj h
      exact RunF.ret1 4 (.int .i64 (Int.tmod (I64 ((Int.tmod a0 a1) + a1)) a1)) (fn := Go.Proofs.Try.f26) Go.Proofs.Try.func26 (by kernel_rfl) (by kernel_rfl) (by kernel_rfl) ⟨_, rfl, rfl, (hM.pick [] rfl rfl)⟩

/-! ### scrim/words.Turn: function 20 -/
def words_Turn.l0 : Nat → (List Int) → Int → (List Int) → Int → Option (List Int)
  | 0, _, _, _, _ => none
  | k + 1, a0, t4, x5_0, x23_0 => (some (decide (x23_0 < (((a0.length : Int)).toNat : Int)) : Bool)).bind fun y10 => (if y10 = true then (if (decide ((a0.length : Int) = 0)) = true then (none) else (if (decide (0 ≤ (Int.tmod (I64 (x23_0 + (I64 (Int.tdiv t4 8)))) (a0.length : Int)))) = true then (if (decide ((Int.tmod (I64 (x23_0 + (I64 (Int.tdiv t4 8)))) (a0.length : Int)) < (a0.length : Int))) = true then (if (decide ((a0.length : Int) = 0)) = true then (none) else (if (decide (0 ≤ (Int.tmod (I64 ((I64 (x23_0 + (I64 (Int.tdiv t4 8)))) + 1)) (a0.length : Int)))) = true then (if (decide ((Int.tmod (I64 ((I64 (x23_0 + (I64 (Int.tdiv t4 8)))) + 1)) (a0.length : Int)) < (a0.length : Int))) = true then ((some (bor .u64 (shl .u64 (U64 (rd a0 (Int.tmod (I64 (x23_0 + (I64 (Int.tdiv t4 8)))) (a0.length : Int)))) 8) (U64 (rd a0 (Int.tmod (I64 ((I64 (x23_0 + (I64 (Int.tdiv t4 8)))) + 1)) (a0.length : Int)))) : Int)).bind fun y22 => (if (decide (0 ≤ (U64 (8 - (U64 (Int.tmod t4 8)))))) = true then ((some (U8 (shrv .u64 y22 (U64 (8 - (U64 (Int.tmod t4 8))))) : Int)).bind fun y24 => (if (decide (0 ≤ x23_0)) = true then (if (decide (x23_0 < (((a0.length : Int)).toNat : Int))) = true then (words_Turn.l0 k a0 t4 (x5_0.set (x23_0 : Int).toNat y24) (I64 (x23_0 + 1))) else (none)) else (none))) else (none))) else (none)) else (none))) else (none)) else (none))) else (some x5_0))
def words_Turn.f (k : Nat) (a0 : List Int) (a1 : Int) : Option (List Int) := if ((a0.length : Int) == 0) = true then (some ([] : List Int)) else ((words_rest.f k a1 (I64 (8 * (a0.length : Int)))).bind fun t4 => (if (decide (0 ≤ (a0.length : Int))) = true then (if (decide ((a0.length : Int) ≤ 1000000000)) = true then (words_Turn.l0 k a0 t4 (List.replicate (((a0.length : Int)).toNat) (0 : Int)) 0) else (none)) else (none)))
set_option maxRecDepth 100000 in
theorem words_Turn.calls (k : Nat) (Ap0 : Option Addr) (np0 cp0 : Nat) (a0 : List Int) (a1 : Int) (r : List Int) (w : World) (hr0 : Rd w (.slice Ap0 np0 cp0) (nums .u8 a0)) (h : words_Turn.f k a0 a1 = some r) :
    Calls Go.Proofs.Try.prog 20 #[(.slice Ap0 np0 cp0), .int .i64 a1] w (Ret fun v w' => ∃ A0' n0' c0', v = .slice A0' n0' c0' ∧ Mem w w' [⟨.slice A0' n0' c0', 5, 1, nums .u8 r⟩]) := by
  obtain rfl : a0.length = np0 := by have h_ := hr0.1; simpa [nums_length, bools_length, strs_length] using h_
  unfold words_Turn.f at h
  refine calls_of [.slice Ap0 a0.length cp0, .int .i64 a1] (fn := Go.Proofs.Try.f20) Go.Proofs.Try.func20 (by kernel_rfl) (by kernel_rfl) ?_
  have hM := Mem.refl w
  refine RunF.go 11 [0, 1, 12] (k' := (pl Go.Proofs.Try.f20 [1, 0, 1])) (L' := [(0, .slice Ap0 a0.length cp0), (1, .int .i64 a1), (12, .bool ((a0.length : Int) == 0))]) (w' := w) (by kernel_rfl) ?_
  rcases two (((a0.length : Int) == 0)) with c1 | c1
  · replace h := of_true h c1
    refine RunF.know 12 (b := true) (by kernel_rfl) c1 ?_
    refine RunF.go 5 [4] (k' := (pl Go.Proofs.Try.f20 [1, 0, 1, 0, 1])) (L' := [(4, .slice none 0 0)]) (w' := w) (by kernel_rfl) ?_
    replace hM := hM.nil 5
    obtain rfl := Option.some.inj h
    exact RunF.ret1 4 (.slice none 0 0) (fn := Go.Proofs.Try.f20) Go.Proofs.Try.func20 (by kernel_rfl) (by kernel_rfl) (by kernel_rfl) ⟨_, rfl, none, 0, 0, rfl, (hM.pick [0] rfl rfl)⟩
  · replace h := of_false h c1
    refine RunF.know 12 (b := false) (by kernel_rfl) c1 ?_
    refine RunF.go 8 [0, 13, 16] (k' := (pin Go.Proofs.Try.f20 [1, 1, 0] 4)) (L' := [(0, .slice Ap0 a0.length cp0), (13, .int .i64 a1), (16, .int .i64 (I64 (8 * (a0.length : Int))))]) (w' := w) (by kernel_rfl) ?_
    obtain ⟨t4, ht4, h⟩ := Option.bind_eq_some_iff.mp h
    refine RunF.call (d := some 17) (g := 26) (args := #[.int .i64 a1, .int .i64 (I64 (8 * (a0.length : Int)))]) (k2 := (pin Go.Proofs.Try.f20 [1, 1, 0] 5)) (by kernel_rfl) (words_rest.calls k a1 (I64 (8 * (a0.length : Int))) t4 _ ht4) ?_
    rintro _ W3 ⟨rfl, hM_⟩
    replace hM := hM.call hM_
    clear hM_ ht4
    refine RunF.go 6 [0, 1, 19] (k' := (pin Go.Proofs.Try.f20 [1, 1, 1, 0] 2)) (L' := [(0, .slice Ap0 a0.length cp0), (1, .int .i64 t4), (19, .int .i64 (a0.length : Int))]) (w' := W3) (by kernel_rfl) ?_
    rcases two (decide (0 ≤ (a0.length : Int))) with c7 | c7
    · replace h := of_true h c7
      rcases two (decide ((a0.length : Int) ≤ 1000000000)) with c8 | c8
      · replace h := of_true h c8
        have := of_decide_eq_true c7
        have := of_decide_eq_true c8
        obtain ⟨W5, hD, hM', hB_⟩ := mk_does (P := Go.Proofs.Try.prog) (n := 62) (k := (pin Go.Proofs.Try.f20 [1, 1, 1, 0] 2)) (L := [(0, .slice Ap0 a0.length cp0), (1, .int .i64 t4), (19, .int .i64 (a0.length : Int))]) (d := some 20) (e := 5) (z := .int .u8 0) (l := (a0.length : Int)) (c := (a0.length : Int)) (k2 := (pin Go.Proofs.Try.f20 [1, 1, 1, 0] 3)) (by kernel_rfl) (by omega) (by omega) (by omega) hM
        rw [rep_nums] at hM'
        refine RunF.does hD ?_
        replace hM := hM'; clear hD hM'
        generalize W3.heap.size = g6 at hM ⊢
        refine RunF.go 11 [0, 1, 5, 22, 23] (k' := (pl Go.Proofs.Try.f20 [1, 1, 1, 1, 0, 1, 0, 0])) (L' := [(0, .slice Ap0 a0.length cp0), (1, .int .i64 t4), (5, .slice (some ⟨g6, 0, none⟩) (((a0.length : Int)).toNat) (((a0.length : Int) : Int).toNat)), (22, .int .i64 (((a0.length : Int)).toNat : Int)), (23, .int .i64 0)]) (w' := W5) (by kernel_rfl) ?_
        have l0 : ∀ (k_ : Nat), k_ ≤ k → ∀ (x5_0 : List Int) (x23_0 : Int) (W : World) (hM : Mem w W [⟨.slice (some ⟨g6, 0, none⟩) (((a0.length : Int)).toNat) (((a0.length : Int) : Int).toNat), 5, 1, nums .u8 x5_0⟩]) (h : words_Turn.l0 k_ a0 t4 x5_0 x23_0 = some r), RunF Go.Proofs.Try.prog (Ret fun v w' => ∃ A0' n0' c0', v = .slice A0' n0' c0' ∧ Mem w w' [⟨.slice A0' n0' c0', 5, 1, nums .u8 r⟩]) 20 (pl Go.Proofs.Try.f20 [1, 1, 1, 1, 0, 1, 0, 0]) 62 [(0, .slice Ap0 a0.length cp0), (1, .int .i64 t4), (5, .slice (some ⟨g6, 0, none⟩) (((a0.length : Int)).toNat) (((a0.length : Int) : Int).toNat)), (22, .int .i64 (((a0.length : Int)).toNat : Int)), (23, .int .i64 x23_0)] W := by
          intro k_
          induction k_ using Nat.strongRecOn with
          | _ k_ ih0 =>
            intro hk x5_0 x23_0 W hM h
            cases k_ with
            | zero => exact absurd h (by simp [words_Turn.l0])
            | succ k =>
              simp only [words_Turn.l0] at h
              replace ih0 : ∀ m, m ≤ k → _ := fun m hm => ih0 m (by omega) (by omega)
              refine RunF.go 5 [0, 1, 5, 22, 23, 24] (k' := (pl Go.Proofs.Try.f20 [1, 1, 1, 1, 0, 1, 0, 0, 1, 0])) (L' := [(0, .slice Ap0 a0.length cp0), (1, .int .i64 t4), (5, .slice (some ⟨g6, 0, none⟩) (((a0.length : Int)).toNat) (((a0.length : Int) : Int).toNat)), (22, .int .i64 (((a0.length : Int)).toNat : Int)), (23, .int .i64 x23_0), (24, .bool (decide (x23_0 < (((a0.length : Int)).toNat : Int))))]) (w' := W) (by kernel_rfl) ?_
              obtain ⟨y10, hy, h⟩ := Option.bind_eq_some_iff.mp h
              rw [show (decide (x23_0 < (((a0.length : Int)).toNat : Int))) = y10 from Option.some.inj hy]
              clear hy
              rcases two (y10) with c11 | c11
              · replace h := of_true h c11
                refine RunF.know 24 (b := true) (by kernel_rfl) c11 ?_
                refine RunF.go 18 [0, 1, 5, 6, 7, 22, 23] (k' := (pl Go.Proofs.Try.f20 [1, 1, 1, 1, 0, 1, 0, 0, 1, 1, 0, 0, 1, 1, 0])) (L' := [(0, .slice Ap0 a0.length cp0), (1, .int .i64 t4), (5, .slice (some ⟨g6, 0, none⟩) (((a0.length : Int)).toNat) (((a0.length : Int) : Int).toNat)), (6, .int .i64 x23_0), (7, .int .i64 (I64 (x23_0 + (I64 (Int.tdiv t4 8))))), (22, .int .i64 (((a0.length : Int)).toNat : Int)), (23, .int .i64 x23_0)]) (w' := W) (by kernel_rfl) ?_
                refine RunF.draw (Still ({ W with drawn := W.drawn + 1 } : World) []) (by kernel_rfl) (by kernel_rfl) ?_
                have hMd13 := hM.drew
                have hS := Still.refl ({ W with drawn := W.drawn + 1 } : World) []
                generalize ({ W with drawn := W.drawn + 1 } : World) = W12 at hMd13 hS ⊢
                replace hM := hMd13
                refine RunAny.y 0 (by kernel_rfl) (yl_pure (d := some 30) (v := .slice Ap0 a0.length cp0) (k2 := [.inRegion (opsOf (pl Go.Proofs.Try.f20 [1, 1, 1, 1, 0, 1, 0, 0, 1, 1, 0, 0, 1, 1, 0])) []]) fun w => by kernel_rfl) (fun _ _ => trivial) hS ?_
                refine RunAny.y 1 (by kernel_rfl) (yl_pure (d := some 31) (v := .int .i64 (I64 (x23_0 + (I64 (Int.tdiv t4 8))))) (k2 := [.inRegion (opsOf (pl Go.Proofs.Try.f20 [1, 1, 1, 1, 0, 1, 0, 0, 1, 1, 0, 0, 1, 1, 0])) []]) fun w => by kernel_rfl) (fun _ _ => trivial) hS ?_
                refine RunAny.y 2 (by kernel_rfl) (yl_pure (d := some 32) (v := .slice Ap0 a0.length cp0) (k2 := [.inRegion (opsOf (pl Go.Proofs.Try.f20 [1, 1, 1, 1, 0, 1, 0, 0, 1, 1, 0, 0, 1, 1, 0])) []]) fun w => by kernel_rfl) (fun _ _ => trivial) hS ?_
                refine RunAny.y 3 (by kernel_rfl) (yl_pure (d := some 33) (v := .int .i64 (a0.length : Int)) (k2 := [.inRegion (opsOf (pl Go.Proofs.Try.f20 [1, 1, 1, 1, 0, 1, 0, 0, 1, 1, 0, 0, 1, 1, 0])) []]) fun w => by kernel_rfl) (fun _ _ => trivial) hS ?_
                rcases two (decide ((a0.length : Int) = 0)) with c14 | c14
                · replace h := of_true h c14
                  cases h
                · replace h := of_false h c14
                  refine RunAny.y 4 (by kernel_rfl) (div_y (d := some 34) (b := false) (kd := .i64) (x := I64 (x23_0 + (I64 (Int.tdiv t4 8)))) (y := (a0.length : Int)) (k2 := [.inRegion (opsOf (pl Go.Proofs.Try.f20 [1, 1, 1, 1, 0, 1, 0, 0, 1, 1, 0, 0, 1, 1, 0])) []]) (by kernel_rfl) c14) (fun _ _ => trivial) hS ?_
                  rcases two (decide (0 ≤ (Int.tmod (I64 (x23_0 + (I64 (Int.tdiv t4 8)))) (a0.length : Int)))) with c16 | c16
                  · replace h := of_true h c16
                    rcases two (decide ((Int.tmod (I64 (x23_0 + (I64 (Int.tdiv t4 8)))) (a0.length : Int)) < (a0.length : Int))) with c17 | c17
                    · replace h := of_true h c17
                      obtain ⟨q15, hAq15, hcq15⟩ := Rd.num (hr0.mono hM.below) (i := Int.tmod (I64 (x23_0 + (I64 (Int.tdiv t4 8)))) (a0.length : Int)) (of_decide_eq_true c16) (by have h_ := of_decide_eq_true c17; omega)
                      refine RunAny.y 5 (by kernel_rfl) (idx_y (d := some 35) (A := Ap0) (m := a0.length) (i := Int.tmod (I64 (x23_0 + (I64 (Int.tdiv t4 8)))) (a0.length : Int)) (k2 := [.inRegion (opsOf (pl Go.Proofs.Try.f20 [1, 1, 1, 1, 0, 1, 0, 0, 1, 1, 0, 0, 1, 1, 0])) []]) (by kernel_rfl) (of_decide_eq_true c16) (by have h_ := of_decide_eq_true c17; omega) hAq15) (fun _ _ => trivial) hS ?_
                      refine RunAny.y 6 (by kernel_rfl) (ld_y (d := some 36) (p := (q15.add (Int.tmod (I64 (x23_0 + (I64 (Int.tdiv t4 8)))) (a0.length : Int) : Int).toNat)) (k2 := [.inRegion (opsOf (pl Go.Proofs.Try.f20 [1, 1, 1, 1, 0, 1, 0, 0, 1, 1, 0, 0, 1, 1, 0])) []]) (.int .u8 (rd a0 (Int.tmod (I64 (x23_0 + (I64 (Int.tdiv t4 8)))) (a0.length : Int)))) (by kernel_rfl)) (fun _ hs => hs.cell hcq15 (by simp)) hS ?_
                      refine RunAny.y 7 (by kernel_rfl) (yl_pure (d := some 37) (v := .slice Ap0 a0.length cp0) (k2 := [.inRegion (opsOf (pl Go.Proofs.Try.f20 [1, 1, 1, 1, 0, 1, 0, 0, 1, 1, 0, 0, 1, 1, 0])) []]) fun w => by kernel_rfl) (fun _ _ => trivial) hS ?_
                      refine RunAny.y 8 (by kernel_rfl) (yl_pure (d := some 38) (v := .int .i64 (I64 (x23_0 + (I64 (Int.tdiv t4 8))))) (k2 := [.inRegion (opsOf (pl Go.Proofs.Try.f20 [1, 1, 1, 1, 0, 1, 0, 0, 1, 1, 0, 0, 1, 1, 0])) []]) fun w => by kernel_rfl) (fun _ _ => trivial) hS ?_
                      refine RunAny.y 9 (by kernel_rfl) (yl_pure (d := some 39) (v := .int .i64 (I64 ((I64 (x23_0 + (I64 (Int.tdiv t4 8)))) + 1))) (k2 := [.inRegion (opsOf (pl Go.Proofs.Try.f20 [1, 1, 1, 1, 0, 1, 0, 0, 1, 1, 0, 0, 1, 1, 0])) []]) fun w => by kernel_rfl) (fun _ _ => trivial) hS ?_
                      refine RunAny.y 10 (by kernel_rfl) (yl_pure (d := some 40) (v := .slice Ap0 a0.length cp0) (k2 := [.inRegion (opsOf (pl Go.Proofs.Try.f20 [1, 1, 1, 1, 0, 1, 0, 0, 1, 1, 0, 0, 1, 1, 0])) []]) fun w => by kernel_rfl) (fun _ _ => trivial) hS ?_
                      refine RunAny.y 11 (by kernel_rfl) (yl_pure (d := some 41) (v := .int .i64 (a0.length : Int)) (k2 := [.inRegion (opsOf (pl Go.Proofs.Try.f20 [1, 1, 1, 1, 0, 1, 0, 0, 1, 1, 0, 0, 1, 1, 0])) []]) fun w => by kernel_rfl) (fun _ _ => trivial) hS ?_
                      rcases two (decide ((a0.length : Int) = 0)) with c18 | c18
                      · replace h := of_true h c18
                        cases h
                      · replace h := of_false h c18
                        refine RunAny.y 12 (by kernel_rfl) (div_y (d := some 42) (b := false) (kd := .i64) (x := I64 ((I64 (x23_0 + (I64 (Int.tdiv t4 8)))) + 1)) (y := (a0.length : Int)) (k2 := [.inRegion (opsOf (pl Go.Proofs.Try.f20 [1, 1, 1, 1, 0, 1, 0, 0, 1, 1, 0, 0, 1, 1, 0])) []]) (by kernel_rfl) c18) (fun _ _ => trivial) hS ?_
                        rcases two (decide (0 ≤ (Int.tmod (I64 ((I64 (x23_0 + (I64 (Int.tdiv t4 8)))) + 1)) (a0.length : Int)))) with c20 | c20
                        · replace h := of_true h c20
                          rcases two (decide ((Int.tmod (I64 ((I64 (x23_0 + (I64 (Int.tdiv t4 8)))) + 1)) (a0.length : Int)) < (a0.length : Int))) with c21 | c21
                          · replace h := of_true h c21
                            obtain ⟨q19, hAq19, hcq19⟩ := Rd.num (hr0.mono hM.below) (i := Int.tmod (I64 ((I64 (x23_0 + (I64 (Int.tdiv t4 8)))) + 1)) (a0.length : Int)) (of_decide_eq_true c20) (by have h_ := of_decide_eq_true c21; omega)
                            refine RunAny.y 13 (by kernel_rfl) (idx_y (d := some 43) (A := Ap0) (m := a0.length) (i := Int.tmod (I64 ((I64 (x23_0 + (I64 (Int.tdiv t4 8)))) + 1)) (a0.length : Int)) (k2 := [.inRegion (opsOf (pl Go.Proofs.Try.f20 [1, 1, 1, 1, 0, 1, 0, 0, 1, 1, 0, 0, 1, 1, 0])) []]) (by kernel_rfl) (of_decide_eq_true c20) (by have h_ := of_decide_eq_true c21; omega) hAq19) (fun _ _ => trivial) hS ?_
                            refine RunAny.y 14 (by kernel_rfl) (ld_y (d := some 44) (p := (q19.add (Int.tmod (I64 ((I64 (x23_0 + (I64 (Int.tdiv t4 8)))) + 1)) (a0.length : Int) : Int).toNat)) (k2 := [.inRegion (opsOf (pl Go.Proofs.Try.f20 [1, 1, 1, 1, 0, 1, 0, 0, 1, 1, 0, 0, 1, 1, 0])) []]) (.int .u8 (rd a0 (Int.tmod (I64 ((I64 (x23_0 + (I64 (Int.tdiv t4 8)))) + 1)) (a0.length : Int)))) (by kernel_rfl)) (fun _ hs => hs.cell hcq19 (by simp)) hS ?_
                            refine RunAny.y 15 (by kernel_rfl) (yl_pure (d := some 8) (v := .int .u8 (rd a0 (Int.tmod (I64 (x23_0 + (I64 (Int.tdiv t4 8)))) (a0.length : Int)))) (k2 := [.inRegion (opsOf (pl Go.Proofs.Try.f20 [1, 1, 1, 1, 0, 1, 0, 0, 1, 1, 0, 0, 1, 1, 0])) []]) fun w => by kernel_rfl) (fun _ _ => trivial) hS ?_
                            refine RunAny.y 16 (by kernel_rfl) (yl_pure (d := some 9) (v := .int .u8 (rd a0 (Int.tmod (I64 ((I64 (x23_0 + (I64 (Int.tdiv t4 8)))) + 1)) (a0.length : Int)))) (k2 := [.inRegion (opsOf (pl Go.Proofs.Try.f20 [1, 1, 1, 1, 0, 1, 0, 0, 1, 1, 0, 0, 1, 1, 0])) []]) fun w => by kernel_rfl) (fun _ _ => trivial) hS ?_
                            refine RunAny.done (by kernel_rfl) ?_
                            clear hS
                            refine RunF.go 13 [0, 1, 5, 22, 23, 45, 46, 52, 56] (k' := (pin Go.Proofs.Try.f20 [1, 1, 1, 1, 0, 1, 0, 0, 1, 1, 0, 0, 1, 1, 1] 12)) (L' := [(0, .slice Ap0 a0.length cp0), (1, .int .i64 t4), (5, .slice (some ⟨g6, 0, none⟩) (((a0.length : Int)).toNat) (((a0.length : Int) : Int).toNat)), (22, .int .i64 (((a0.length : Int)).toNat : Int)), (23, .int .i64 x23_0), (45, .slice (some ⟨g6, 0, none⟩) (((a0.length : Int)).toNat) (((a0.length : Int) : Int).toNat)), (46, .int .i64 x23_0), (52, .int .u64 (bor .u64 (shl .u64 (U64 (rd a0 (Int.tmod (I64 (x23_0 + (I64 (Int.tdiv t4 8)))) (a0.length : Int)))) 8) (U64 (rd a0 (Int.tmod (I64 ((I64 (x23_0 + (I64 (Int.tdiv t4 8)))) + 1)) (a0.length : Int)))))), (56, .int .u64 (U64 (8 - (U64 (Int.tmod t4 8)))))]) (w' := W12) (by kernel_rfl) ?_
                            obtain ⟨y22, hy, h⟩ := Option.bind_eq_some_iff.mp h
                            rw [show (bor .u64 (shl .u64 (U64 (rd a0 (Int.tmod (I64 (x23_0 + (I64 (Int.tdiv t4 8)))) (a0.length : Int)))) 8) (U64 (rd a0 (Int.tmod (I64 ((I64 (x23_0 + (I64 (Int.tdiv t4 8)))) + 1)) (a0.length : Int))))) = y22 from Option.some.inj hy]
                            clear hy
                            rcases two (decide (0 ≤ (U64 (8 - (U64 (Int.tmod t4 8)))))) with c23 | c23
                            · replace h := of_true h c23
                              refine RunF.y (sh_y (d := some 57) (b := false) (kd := .u64) (x := y22) (y := U64 (8 - (U64 (Int.tmod t4 8)))) (k2 := (pin Go.Proofs.Try.f20 [1, 1, 1, 1, 0, 1, 0, 0, 1, 1, 0, 0, 1, 1, 1] 13)) (by kernel_rfl) c23) trivial ?_
                              refine RunF.go 1 [0, 1, 5, 22, 23, 45, 46, 58] (k' := (pin Go.Proofs.Try.f20 [1, 1, 1, 1, 0, 1, 0, 0, 1, 1, 0, 0, 1, 1, 1] 14)) (L' := [(0, .slice Ap0 a0.length cp0), (1, .int .i64 t4), (5, .slice (some ⟨g6, 0, none⟩) (((a0.length : Int)).toNat) (((a0.length : Int) : Int).toNat)), (22, .int .i64 (((a0.length : Int)).toNat : Int)), (23, .int .i64 x23_0), (45, .slice (some ⟨g6, 0, none⟩) (((a0.length : Int)).toNat) (((a0.length : Int) : Int).toNat)), (46, .int .i64 x23_0), (58, .int .u8 (U8 (shrv .u64 y22 (U64 (8 - (U64 (Int.tmod t4 8)))))))]) (w' := W12) (by kernel_rfl) ?_
                              obtain ⟨y24, hy, h⟩ := Option.bind_eq_some_iff.mp h
                              rw [show (U8 (shrv .u64 y22 (U64 (8 - (U64 (Int.tmod t4 8)))))) = y24 from Option.some.inj hy]
                              clear hy
                              rcases two (decide (0 ≤ x23_0)) with c26 | c26
                              · replace h := of_true h c26
                                rcases two (decide (x23_0 < (((a0.length : Int)).toNat : Int))) with c27 | c27
                                · replace h := of_true h c27
                                  obtain ⟨q25, hAq25, hcq25, hfq25, hlq25⟩ := hM.num_at 0 rfl (i := x23_0) (of_decide_eq_true c26) (by have h_ := of_decide_eq_true c27; omega)
                                  refine RunF.y (idx_own (d := some 59) (A := (some ⟨g6, 0, none⟩)) (m := ((a0.length : Int)).toNat) (i := x23_0) (k2 := (pin Go.Proofs.Try.f20 [1, 1, 1, 1, 0, 1, 0, 0, 1, 1, 0, 0, 1, 1, 1] 15)) (by kernel_rfl) (of_decide_eq_true c26) (by have h_ := of_decide_eq_true c27; omega) hAq25) trivial ?_
                                  obtain ⟨g_, hA_, hc_, hf_, hl_⟩ := hM.num_at 0 rfl (i := x23_0) (of_decide_eq_true c26) (by have h_ := of_decide_eq_true c27; omega)
                                  obtain rfl : q25 = g_ := by rw [hAq25] at hA_; injection hA_ with hA_; injection hA_
                                  refine RunF.doesU (st_u (p := (⟨q25, (x23_0 : Int).toNat, none⟩ : Addr)) (v := .int .u8 y24) (k2 := (pin Go.Proofs.Try.f20 [1, 1, 1, 1, 0, 1, 0, 0, 1, 1, 0, 0, 1, 1, 1] 16)) (by kernel_rfl) hc_ hf_) ?_
                                  replace hM : Mem w (W12.setCell (⟨q25, (x23_0 : Int).toNat, none⟩ : Addr) (.int .u8 y24)) [⟨.slice (some ⟨g6, 0, none⟩) (((a0.length : Int)).toNat) (((a0.length : Int) : Int).toNat), 5, 1, nums .u8 (x5_0.set (x23_0 : Int).toNat y24)⟩] := Mem.put_num [] [] (hM.pick [0] rfl rfl) hAq25 _ hl_ _
                                  generalize W12.setCell (⟨q25, (x23_0 : Int).toNat, none⟩ : Addr) (.int .u8 y24) = W28 at hM ⊢
                                  clear hc_ hf_ hl_ hA_ hcq25
                                  refine RunF.go 7 [0, 1, 5, 22, 23] (k' := (pl Go.Proofs.Try.f20 [1, 1, 1, 1, 0, 1, 0, 0])) (L' := [(0, .slice Ap0 a0.length cp0), (1, .int .i64 t4), (5, .slice (some ⟨g6, 0, none⟩) (((a0.length : Int)).toNat) (((a0.length : Int) : Int).toNat)), (22, .int .i64 (((a0.length : Int)).toNat : Int)), (23, .int .i64 (I64 (x23_0 + 1)))]) (w' := W28) (by kernel_rfl) ?_
                                  exact ih0 k (by omega) (x5_0.set (x23_0 : Int).toNat y24) (I64 (x23_0 + 1)) _ (hM.pick [0] rfl rfl) h
                                · replace h := of_false h c27
                                  cases h
                              · replace h := of_false h c26
                                cases h
                            · replace h := of_false h c23
                              cases h
                          · replace h := of_false h c21
                            cases h
                        · replace h := of_false h c20
                          cases h
                    · replace h := of_false h c17
                      cases h
                  · replace h := of_false h c16
                    cases h
              · replace h := of_false h c11
                refine RunF.know 24 (b := false) (by kernel_rfl) c11 ?_
                refine RunF.go 7 [4] (k' := (pl Go.Proofs.Try.f20 [1, 1, 1, 1, 1, 1])) (L' := [(4, .slice (some ⟨g6, 0, none⟩) (((a0.length : Int)).toNat) (((a0.length : Int) : Int).toNat))]) (w' := W) (by kernel_rfl) ?_
                obtain rfl := Option.some.inj h
                exact RunF.ret1 4 (.slice (some ⟨g6, 0, none⟩) (((a0.length : Int)).toNat) (((a0.length : Int) : Int).toNat)) (fn := Go.Proofs.Try.f20) Go.Proofs.Try.func20 (by kernel_rfl) (by kernel_rfl) (by kernel_rfl) ⟨_, rfl, (some ⟨g6, 0, none⟩), ((a0.length : Int)).toNat, ((a0.length : Int) : Int).toNat, rfl, (hM.pick [0] rfl rfl)⟩
        exact l0 k (Nat.le_refl _) (List.replicate (((a0.length : Int)).toNat) (0 : Int)) 0 _ (hM.pick [0] rfl rfl) h
      · replace h := of_false h c8
        cases h
    · replace h := of_false h c7
      cases h

/-! ### slices.Clone[[]int,int]: function 21 -/
def slices_Clone_int_int.f (k : Nat) (a0 : List Int) : Option (List Int) := if (decide (([] : List Int).length + a0.length ≤ 1000000000)) = true then (some (([] : List Int) ++ a0)) else (none)
set_option maxRecDepth 100000 in
theorem slices_Clone_int_int.calls (k : Nat) (Ap0 : Option Addr) (np0 cp0 : Nat) (a0 : List Int) (r : List Int) (w : World) (hr0 : Rd w (.slice Ap0 np0 cp0) (nums .i64 a0)) (h : slices_Clone_int_int.f k a0 = some r) :
    Calls Go.Proofs.Try.prog 21 #[(.slice Ap0 np0 cp0)] w (Ret fun v w' => ∃ A0' n0' c0', v = .slice A0' n0' c0' ∧ Mem w w' [⟨.slice A0' n0' c0', 3, 1, nums .i64 r⟩]) := by
  obtain rfl : a0.length = np0 := by have h_ := hr0.1; simpa [nums_length, bools_length, strs_length] using h_
  unfold slices_Clone_int_int.f at h
  refine calls_of [.slice Ap0 a0.length cp0] (fn := Go.Proofs.Try.f21) Go.Proofs.Try.func21 (by kernel_rfl) (by kernel_rfl) ?_
  have hM := Mem.refl w
  refine RunF.go 8 [0, 3] (k' := (pin Go.Proofs.Try.f21 [1, 0, 0] 1)) (L' := [(0, .slice Ap0 a0.length cp0), (3, .slice Ap0 a0.length cp0)]) (w' := w) (by kernel_rfl) ?_
  rcases (hr0.mono hM.below).isnil with ⟨rfl, hn_⟩ | ⟨a1, rfl⟩
  · obtain rfl : a0 = [] := by simpa [nums, bools, strs] using hn_
    replace h : (some ([] : List Int)) = some r := by simpa using h
    clear hn_
    refine RunF.go 7 [2] (k' := (pl Go.Proofs.Try.f21 [1, 0, 1, 0, 1])) (L' := [(2, .slice none 0 0)]) (w' := w) (by kernel_rfl) ?_
    replace hM := hM.nil 3
    obtain rfl := Option.some.inj h
    exact RunF.ret1 2 (.slice none 0 0) (fn := Go.Proofs.Try.f21) Go.Proofs.Try.func21 (by kernel_rfl) (by kernel_rfl) (by kernel_rfl) ⟨_, rfl, none, 0, 0, rfl, (hM.pick [0] rfl rfl)⟩
  · refine RunF.go 6 [0] (k' := (pin Go.Proofs.Try.f21 [1, 1, 0] 0)) (L' := [(0, .slice (some a1) a0.length cp0)]) (w' := w) (by kernel_rfl) ?_
    refine RunF.new 3 1 0 (nums .i64 []) (d := some 5) (k2 := (pin Go.Proofs.Try.f21 [1, 1, 0] 1)) hM (by simp [nums, bools, strs]) (by kernel_rfl) (by kernel_rfl) ?_
    replace hM := hM
    intro g2 W3 hM
    refine RunF.go 1 [5, 6] (k' := (pin Go.Proofs.Try.f21 [1, 1, 0] 2)) (L' := [(5, .slice (some ⟨g2, 0, none⟩) 0 0), (6, .slice (some a1) a0.length cp0)]) (w' := W3) (by kernel_rfl) ?_
    rcases two (decide (([] : List Int).length + a0.length ≤ 1000000000)) with c9 | c9
    · replace h := of_true h c9
      have h_ := of_decide_eq_true c9
      obtain ⟨A5, n6, c7, W8, hD, hM', hS_⟩ := app_does (P := Go.Proofs.Try.prog) (n := 8) (k := (pin Go.Proofs.Try.f21 [1, 1, 0] 2)) (L := [(5, .slice (some ⟨g2, 0, none⟩) 0 0), (6, .slice (some a1) a0.length cp0)]) (d := some 7) (e := 3) (A := (some ⟨g2, 0, none⟩)) (m := 0) (c := 0) (A2 := (some a1)) (m2 := a0.length) (c2 := cp0) (cs := nums .i64 ([] : List Int)) (ys := nums .i64 a0) (k2 := (pin Go.Proofs.Try.f21 [1, 1, 0] 3)) [] [] (by kernel_rfl) (hM.pick [0] rfl rfl) (hr0.mono hM.below) (one_nums _ _) (by omega)
      rw [nums_append] at hM'
      replace hM := hM'; clear h_ hM'
      obtain rfl : (([] : List Int) ++ a0).length = n6 := by have h_ := (hM.rd 0 rfl).1; simpa only [nums_length, bools_length, strs_length] using h_
      refine RunF.does hD ?_
      clear hD hS_
      refine RunF.go 2 [2] (k' := (pl Go.Proofs.Try.f21 [1, 1, 1])) (L' := [(2, .slice A5 ((([] : List Int) ++ a0).length) c7)]) (w' := W8) (by kernel_rfl) ?_
      obtain rfl := Option.some.inj h
      exact RunF.ret1 2 (.slice A5 ((([] : List Int) ++ a0).length) c7) (fn := Go.Proofs.Try.f21) Go.Proofs.Try.func21 (by kernel_rfl) (by kernel_rfl) (by kernel_rfl) ⟨_, rfl, A5, (([] : List Int) ++ a0).length, c7, rfl, (hM.pick [0] rfl rfl)⟩
    · replace h := of_false h c9
      cases h

/-! ### scrim/idea.Keys: function 10 -/
def idea_Keys.l0 : Nat → (List Int) → (List Int) → Int → Option (List Int × Int)
  | 0, _, _, _ => none
  | k + 1, a0, x4_0, x5_0 => if (decide ((x4_0.length : Int) < 52)) = true then ((words_Turn.f k a0 x5_0).bind fun t7 => ((idea_load.f k t7).bind fun t13 => (if (decide (x4_0.length + t13.length ≤ 1000000000)) = true then (idea_Keys.l0 k a0 (x4_0 ++ t13) (I64 (x5_0 + 25))) else (none)))) else (if (decide (0 ≤ 52)) = true then (if (decide (52 ≤ (x4_0.length : Int))) = true then ((slices_Clone_int_int.f k ((x4_0.take (52 : Int).toNat).drop (0 : Int).toNat)).bind fun t32 => (some (t32, 0))) else (none)) else (none))
def idea_Keys.f (k : Nat) (a0 : List Int) : Option (List Int × Int) := if ((a0.length : Int) != 16) = true then (some (([] : List Int), 4)) else (idea_Keys.l0 k a0 ([] : List Int) 0)
set_option maxRecDepth 100000 in
theorem idea_Keys.calls (k : Nat) (Ap0 : Option Addr) (np0 cp0 : Nat) (a0 : List Int) (r : List Int × Int) (w : World) (hr0 : Rd w (.slice Ap0 np0 cp0) (nums .u8 a0)) (h : idea_Keys.f k a0 = some r) :
    Calls Go.Proofs.Try.prog 10 #[(.slice Ap0 np0 cp0)] w (Ret fun v w' => ∃ A0' n0' c0', v = .tuple #[.slice A0' n0' c0', .int .i64 r.2] ∧ Mem w w' [⟨.slice A0' n0' c0', 3, 1, nums .i64 r.1⟩]) := by
  obtain rfl : a0.length = np0 := by have h_ := hr0.1; simpa [nums_length, bools_length, strs_length] using h_
  unfold idea_Keys.f at h
  refine calls_of [.slice Ap0 a0.length cp0] (fn := Go.Proofs.Try.f10) Go.Proofs.Try.func10 (by kernel_rfl) (by kernel_rfl) ?_
  have hM := Mem.refl w
  refine RunF.go 12 [0, 8] (k' := (pl Go.Proofs.Try.f10 [1, 0, 1])) (L' := [(0, .slice Ap0 a0.length cp0), (8, .bool ((a0.length : Int) != 16))]) (w' := w) (by kernel_rfl) ?_
  rcases two (((a0.length : Int) != 16)) with c1 | c1
  · replace h := of_true h c1
    refine RunF.know 8 (b := true) (by kernel_rfl) c1 ?_
    refine RunF.go 6 [2, 3] (k' := (pl Go.Proofs.Try.f10 [1, 0, 1, 0, 1])) (L' := [(2, .slice none 0 0), (3, .int .i64 4)]) (w' := w) (by kernel_rfl) ?_
    replace hM := hM.nil 3
    obtain rfl := Option.some.inj h
    exact RunF.ret2 2 3 (.slice none 0 0) (.int .i64 4) (fn := Go.Proofs.Try.f10) Go.Proofs.Try.func10 (by kernel_rfl) (by kernel_rfl) (by kernel_rfl) (by kernel_rfl) ⟨_, rfl, none, 0, 0, rfl, (hM.pick [0] rfl rfl)⟩
  · replace h := of_false h c1
    refine RunF.know 8 (b := false) (by kernel_rfl) c1 ?_
    refine RunF.go 13 [0, 4, 5] (k' := (pl Go.Proofs.Try.f10 [1, 1, 1, 0, 1, 0, 0])) (L' := [(0, .slice Ap0 a0.length cp0), (4, .slice none 0 0), (5, .int .i64 0)]) (w' := w) (by kernel_rfl) ?_
    replace hM := hM.nil 3
    have l0 : ∀ (k_ : Nat), k_ ≤ k → ∀ (A4_0 : Option Addr) (c4_0 : Nat) (x4_0 : List Int) (x5_0 : Int) (W : World) (hM : Mem w W [⟨.slice A4_0 x4_0.length c4_0, 3, 1, nums .i64 x4_0⟩]) (h : idea_Keys.l0 k_ a0 x4_0 x5_0 = some r), RunF Go.Proofs.Try.prog (Ret fun v w' => ∃ A0' n0' c0', v = .tuple #[.slice A0' n0' c0', .int .i64 r.2] ∧ Mem w w' [⟨.slice A0' n0' c0', 3, 1, nums .i64 r.1⟩]) 10 (pl Go.Proofs.Try.f10 [1, 1, 1, 0, 1, 0, 0]) 23 [(0, .slice Ap0 a0.length cp0), (4, .slice A4_0 x4_0.length c4_0), (5, .int .i64 x5_0)] W := by
      intro k_
      induction k_ using Nat.strongRecOn with
      | _ k_ ih0 =>
        intro hk A4_0 c4_0 x4_0 x5_0 W hM h
        cases k_ with
        | zero => exact absurd h (by simp [idea_Keys.l0])
        | succ k =>
          simp only [idea_Keys.l0] at h
          replace ih0 : ∀ m, m ≤ k → _ := fun m hm => ih0 m (by omega) (by omega)
          refine RunF.go 7 [0, 4, 5, 11] (k' := (pl Go.Proofs.Try.f10 [1, 1, 1, 0, 1, 0, 0, 0, 1])) (L' := [(0, .slice Ap0 a0.length cp0), (4, .slice A4_0 x4_0.length c4_0), (5, .int .i64 x5_0), (11, .bool (decide ((x4_0.length : Int) < 52)))]) (w' := W) (by kernel_rfl) ?_
          rcases two (decide ((x4_0.length : Int) < 52)) with c5 | c5
          · replace h := of_true h c5
            refine RunF.know 11 (b := true) (by kernel_rfl) c5 ?_
            refine RunF.go 8 [0, 5, 14, 15, 16] (k' := (pin Go.Proofs.Try.f10 [1, 1, 1, 0, 1, 0, 0, 1, 0, 0] 3)) (L' := [(0, .slice Ap0 a0.length cp0), (5, .int .i64 x5_0), (14, .slice A4_0 x4_0.length c4_0), (15, .slice Ap0 a0.length cp0), (16, .int .i64 x5_0)]) (w' := W) (by kernel_rfl) ?_
            obtain ⟨t7, ht7, h⟩ := Option.bind_eq_some_iff.mp h
            refine RunF.call (d := some 17) (g := 20) (args := #[.slice Ap0 a0.length cp0, .int .i64 x5_0]) (k2 := (pin Go.Proofs.Try.f10 [1, 1, 1, 0, 1, 0, 0, 1, 0, 0] 4)) (by kernel_rfl) (words_Turn.calls k Ap0 a0.length cp0 a0 x5_0 t7 _ (hr0.mono hM.below) ht7) ?_
            rintro _ W6 ⟨A8, n9, c10, rfl, hM_⟩
            obtain rfl : t7.length = n9 := by have h_ := (hM_.rd 0 rfl).1; simpa [nums_length, bools_length, strs_length] using h_
            replace hM := hM.call hM_
            clear hM_ ht7
            obtain ⟨t13, ht13, h⟩ := Option.bind_eq_some_iff.mp h
            refine RunF.call (d := some 18) (g := 19) (args := #[.slice A8 t7.length c10]) (k2 := (pin Go.Proofs.Try.f10 [1, 1, 1, 0, 1, 0, 0, 1, 0, 0] 5)) (by kernel_rfl) (idea_load.calls k A8 t7.length c10 t7 t13 _ (hM.rd 0 rfl) ht13) ?_
            rintro _ W12 ⟨A14, n15, c16, rfl, hM_⟩
            obtain rfl : t13.length = n15 := by have h_ := (hM_.rd 0 rfl).1; simpa [nums_length, bools_length, strs_length] using h_
            replace hM := hM.call hM_
            clear hM_ ht13
            rcases two (decide (x4_0.length + t13.length ≤ 1000000000)) with c22 | c22
            · replace h := of_true h c22
              have h_ := of_decide_eq_true c22
              obtain ⟨A18, n19, c20, W21, hD, hM', hS_⟩ := app_does (P := Go.Proofs.Try.prog) (n := 23) (k := (pin Go.Proofs.Try.f10 [1, 1, 1, 0, 1, 0, 0, 1, 0, 0] 5)) (L := (upd (upd [(0, .slice Ap0 a0.length cp0), (5, .int .i64 x5_0), (14, .slice A4_0 x4_0.length c4_0), (15, .slice Ap0 a0.length cp0), (16, .int .i64 x5_0)] (some 17) (.slice A8 t7.length c10)) (some 18) (.slice A14 t13.length c16))) (d := some 19) (e := 3) (A := A4_0) (m := x4_0.length) (c := c4_0) (A2 := A14) (m2 := t13.length) (c2 := c16) (cs := nums .i64 x4_0) (ys := nums .i64 t13) (k2 := (pin Go.Proofs.Try.f10 [1, 1, 1, 0, 1, 0, 0, 1, 0, 0] 6)) [⟨.slice A14 t13.length c16, 3, 1, nums .i64 t13⟩, ⟨.slice A8 t7.length c10, 5, 1, nums .u8 t7⟩] [] (by kernel_rfl) (hM.pick [0, 1, 2] rfl rfl) (hM.rd 0 rfl) (one_nums _ _) (by omega)
              rw [nums_append] at hM'
              replace hM := hM'; clear h_ hM'
              obtain rfl : (x4_0 ++ t13).length = n19 := by have h_ := (hM.rd 2 rfl).1; simpa only [nums_length, bools_length, strs_length] using h_
              refine RunF.does hD ?_
              clear hD hS_
              refine RunF.go 9 [0, 4, 5] (k' := (pl Go.Proofs.Try.f10 [1, 1, 1, 0, 1, 0, 0])) (L' := [(0, .slice Ap0 a0.length cp0), (4, .slice A18 ((x4_0 ++ t13).length) c20), (5, .int .i64 (I64 (x5_0 + 25)))]) (w' := W21) (by kernel_rfl) ?_
              exact ih0 k (by omega) A18 c20 (x4_0 ++ t13) (I64 (x5_0 + 25)) _ (hM.pick [2] rfl rfl) h
            · replace h := of_false h c22
              cases h
          · replace h := of_false h c5
            refine RunF.know 11 (b := false) (by kernel_rfl) c5 ?_
            refine RunF.go 5 [20] (k' := (pin Go.Proofs.Try.f10 [1, 1, 1, 1, 0] 1)) (L' := [(20, .slice A4_0 x4_0.length c4_0)]) (w' := W) (by kernel_rfl) ?_
            rcases two (decide (0 ≤ 52)) with c24 | c24
            · replace h := of_true h c24
              rcases two (decide (52 ≤ (x4_0.length : Int))) with c25 | c25
              · replace h := of_true h c25
                have zc24 := of_decide_eq_true c24
                have zc25 := of_decide_eq_true c25
                obtain ⟨A26, n27, c28, hy29, rfl, hs30⟩ := cut (P := Go.Proofs.Try.prog) (n := 23) (k := (pin Go.Proofs.Try.f10 [1, 1, 1, 1, 0] 1)) (L := [(20, .slice A4_0 x4_0.length c4_0)]) (d := some 21) (A := A4_0) (m := x4_0.length) (c := c4_0) (l := 0) (h := 52) (k2 := (pin Go.Proofs.Try.f10 [1, 1, 1, 1, 0] 2)) .i64 x4_0 (by kernel_rfl) (by omega) (by omega) (by omega) (hM.rd 0 rfl)
                clear zc24
                clear zc25
                refine RunF.y hy29 trivial ?_
                obtain ⟨t32, ht32, h⟩ := Option.bind_eq_some_iff.mp h
                refine RunF.call (d := some 22) (g := 21) (args := #[.slice A26 (((x4_0.take (52 : Int).toNat).drop (0 : Int).toNat).length) c28]) (k2 := (pin Go.Proofs.Try.f10 [1, 1, 1, 1, 0] 3)) (by kernel_rfl) (slices_Clone_int_int.calls k A26 (((x4_0.take (52 : Int).toNat).drop (0 : Int).toNat).length) c28 ((x4_0.take (52 : Int).toNat).drop (0 : Int).toNat) t32 _ (hs30 _ (hM.rd 0 rfl)) ht32) ?_
                rintro _ W31 ⟨A33, n34, c35, rfl, hM_⟩
                obtain rfl : t32.length = n34 := by have h_ := (hM_.rd 0 rfl).1; simpa [nums_length, bools_length, strs_length] using h_
                replace hM := hM.call hM_
                clear hM_ ht32
                refine RunF.go 3 [2, 3] (k' := (pl Go.Proofs.Try.f10 [1, 1, 1, 1, 1])) (L' := [(2, .slice A33 t32.length c35), (3, .int .i64 0)]) (w' := W31) (by kernel_rfl) ?_
                obtain rfl := Option.some.inj h
                exact RunF.ret2 2 3 (.slice A33 t32.length c35) (.int .i64 0) (fn := Go.Proofs.Try.f10) Go.Proofs.Try.func10 (by kernel_rfl) (by kernel_rfl) (by kernel_rfl) (by kernel_rfl) ⟨_, rfl, A33, t32.length, c35, rfl, (hM.pick [0] rfl rfl)⟩
              · replace h := of_false h c25
                cases h
            · replace h := of_false h c24
              cases h
    exact l0 k (Nat.le_refl _) none 0 ([] : List Int) 0 _ (hM.pick [0] rfl rfl) h

/-! ### scrim/idea.Mul: function 13 -/
def idea_Mul.f (k : Nat) (a0 : Int) (a1 : Int) : Option (Int) := if (a0 == 0) = true then (if (a1 == 0) = true then (some (Int.tmod (Int.tmod (I64 (65536 * 65536)) 65537) 65536)) else (some (Int.tmod (Int.tmod (I64 (65536 * a1)) 65537) 65536))) else (if (a1 == 0) = true then (some (Int.tmod (Int.tmod (I64 (a0 * 65536)) 65537) 65536)) else (some (Int.tmod (Int.tmod (I64 (a0 * a1)) 65537) 65536)))
set_option maxRecDepth 100000 in
theorem idea_Mul.calls (k : Nat) (a0 : Int) (a1 : Int) (r : Int) (w : World) (h : idea_Mul.f k a0 a1 = some r) :
    Calls Go.Proofs.Try.prog 13 #[.int .i64 a0, .int .i64 a1] w (Ret fun v w' => v = .int .i64 r ∧ Mem w w' []) := by
  unfold idea_Mul.f at h
  refine calls_of [.int .i64 a0, .int .i64 a1] (fn := Go.Proofs.Try.f13) Go.Proofs.Try.func13 (by kernel_rfl) (by kernel_rfl) ?_
  have hM := Mem.refl w
  refine RunF.go 10 [0, 1, 6] (k' := (pl Go.Proofs.Try.f13 [1, 0, 1])) (L' := [(0, .int .i64 a0), (1, .int .i64 a1), (6, .bool (a0 == 0))]) (w' := w) (by kernel_rfl) ?_
  rcases two ((a0 == 0)) with c1 | c1
  · replace h := of_true h c1
    refine RunF.know 6 (b := true) (by kernel_rfl) c1 ?_
    refine RunF.go 10 [0, 1, 8] (k' := (pl Go.Proofs.Try.f13 [1, 1, 0, 1])) (L' := [(0, .int .i64 65536), (1, .int .i64 a1), (8, .bool (a1 == 0))]) (w' := w) (by kernel_rfl) ?_
    rcases two ((a1 == 0)) with c2 | c2
    · replace h := of_true h c2
      refine RunF.know 8 (b := true) (by kernel_rfl) c2 ?_
      refine RunF.go 13 [4] (k' := (pl Go.Proofs.Try.f13 [1, 1, 1, 1])) (L' := [(4, .int .i64 (Int.tmod (Int.tmod (I64 (65536 * 65536)) 65537) 65536))]) (w' := w) (by kernel_rfl) ?_
      obtain rfl := Option.some.inj h
      exact RunF.ret1 4 (.int .i64 (Int.tmod (Int.tmod (I64 (65536 * 65536)) 65537) 65536)) (fn := Go.Proofs.Try.f13) Go.Proofs.Try.func13 (by kernel_rfl) (by kernel_rfl) (by kernel_rfl) ⟨_, rfl, rfl, (hM.pick [] rfl rfl)⟩
    · replace h := of_false h c2
      refine RunF.know 8 (b := false) (by kernel_rfl) c2 ?_
      refine RunF.go 11 [4] (k' := (pl Go.Proofs.Try.f13 [1, 1, 1, 1])) (L' := [(4, .int .i64 (Int.tmod (Int.tmod (I64 (65536 * a1)) 65537) 65536))]) (w' := w) (by kernel_rfl) ?_
      obtain rfl := Option.some.inj h
      exact RunF.ret1 4 (.int .i64 (Int.tmod (Int.tmod (I64 (65536 * a1)) 65537) 65536)) (fn := Go.Proofs.Try.f13) Go.Proofs.Try.func13 (by kernel_rfl) (by kernel_rfl) (by kernel_rfl) ⟨_, rfl, rfl, (hM.pick [] rfl rfl)⟩
  · replace h := of_false h c1
    refine RunF.know 6 (b := false) (by kernel_rfl) c1 ?_
    refine RunF.go 8 [0, 1, 8] (k' := (pl Go.Proofs.Try.f13 [1, 1, 0, 1])) (L' := [(0, .int .i64 a0), (1, .int .i64 a1), (8, .bool (a1 == 0))]) (w' := w) (by kernel_rfl) ?_
    rcases two ((a1 == 0)) with c3 | c3
    · replace h := of_true h c3
      refine RunF.know 8 (b := true) (by kernel_rfl) c3 ?_
      refine RunF.go 13 [4] (k' := (pl Go.Proofs.Try.f13 [1, 1, 1, 1])) (L' := [(4, .int .i64 (Int.tmod (Int.tmod (I64 (a0 * 65536)) 65537) 65536))]) (w' := w) (by kernel_rfl) ?_
      obtain rfl := Option.some.inj h
      exact RunF.ret1 4 (.int .i64 (Int.tmod (Int.tmod (I64 (a0 * 65536)) 65537) 65536)) (fn := Go.Proofs.Try.f13) Go.Proofs.Try.func13 (by kernel_rfl) (by kernel_rfl) (by kernel_rfl) ⟨_, rfl, rfl, (hM.pick [] rfl rfl)⟩
    · replace h := of_false h c3
      refine RunF.know 8 (b := false) (by kernel_rfl) c3 ?_
      refine RunF.go 11 [4] (k' := (pl Go.Proofs.Try.f13 [1, 1, 1, 1])) (L' := [(4, .int .i64 (Int.tmod (Int.tmod (I64 (a0 * a1)) 65537) 65536))]) (w' := w) (by kernel_rfl) ?_
      obtain rfl := Option.some.inj h
      exact RunF.ret1 4 (.int .i64 (Int.tmod (Int.tmod (I64 (a0 * a1)) 65537) 65536)) (fn := Go.Proofs.Try.f13) Go.Proofs.Try.func13 (by kernel_rfl) (by kernel_rfl) (by kernel_rfl) ⟨_, rfl, rfl, (hM.pick [] rfl rfl)⟩

/-! ### scrim/idea.Inv: function 15 -/
def idea_Inv.l0 : Nat → Int → Int → Int → Option (Int)
  | 0, _, _, _ => none
  | k + 1, x0_0, x3_0, x4_0 => if (decide (x4_0 > 0)) = true then (if (decide ((Int.tmod x4_0 2) > 0)) = true then ((idea_Mul.f k x3_0 x0_0).bind fun t4 => ((idea_Mul.f k x0_0 x0_0).bind fun t6 => (idea_Inv.l0 k t6 t4 (I64 (Int.tdiv x4_0 2))))) else ((idea_Mul.f k x0_0 x0_0).bind fun t8 => (idea_Inv.l0 k t8 x3_0 (I64 (Int.tdiv x4_0 2))))) else (some x3_0)
def idea_Inv.f (k : Nat) (a0 : Int) : Option (Int) := idea_Inv.l0 k a0 1 65535
set_option maxRecDepth 100000 in
theorem idea_Inv.calls (k : Nat) (a0 : Int) (r : Int) (w : World) (h : idea_Inv.f k a0 = some r) :
    Calls Go.Proofs.Try.prog 15 #[.int .i64 a0] w (Ret fun v w' => v = .int .i64 r ∧ Mem w w' []) := by
  unfold idea_Inv.f at h
  refine calls_of [.int .i64 a0] (fn := Go.Proofs.Try.f15) Go.Proofs.Try.func15 (by kernel_rfl) (by kernel_rfl) ?_
  have hM := Mem.refl w
  refine RunF.go 12 [0, 3, 4] (k' := (pl Go.Proofs.Try.f15 [1, 0, 1, 1])) (L' := [(0, .int .i64 a0), (3, .int .i64 1), (4, .int .i64 65535)]) (w' := w) (by kernel_rfl) ?_
  have l0 : ∀ (k_ : Nat), k_ ≤ k → ∀ (x0_0 : Int) (x3_0 : Int) (x4_0 : Int) (W : World) (hM : Mem w W []) (h : idea_Inv.l0 k_  x0_0 x3_0 x4_0 = some r), RunF Go.Proofs.Try.prog (Ret fun v w' => v = .int .i64 r ∧ Mem w w' []) 15 (pl Go.Proofs.Try.f15 [1, 0, 1, 1]) 19 [(0, .int .i64 x0_0), (3, .int .i64 x3_0), (4, .int .i64 x4_0)] W := by
    intro k_
    induction k_ using Nat.strongRecOn with
    | _ k_ ih0 =>
      intro hk x0_0 x3_0 x4_0 W hM h
      cases k_ with
      | zero => exact absurd h (by simp [idea_Inv.l0])
      | succ k =>
        simp only [idea_Inv.l0] at h
        replace ih0 : ∀ m, m ≤ k → _ := fun m hm => ih0 m (by omega) (by omega)
        refine RunF.go 6 [0, 3, 4, 6] (k' := (pl Go.Proofs.Try.f15 [1, 0, 1, 1, 0, 1])) (L' := [(0, .int .i64 x0_0), (3, .int .i64 x3_0), (4, .int .i64 x4_0), (6, .bool (decide (x4_0 > 0)))]) (w' := W) (by kernel_rfl) ?_
        rcases two (decide (x4_0 > 0)) with c1 | c1
        · replace h := of_true h c1
          refine RunF.know 6 (b := true) (by kernel_rfl) c1 ?_
          refine RunF.go 8 [0, 3, 4, 9] (k' := (pl Go.Proofs.Try.f15 [1, 0, 1, 1, 0, 1, 0, 0, 1])) (L' := [(0, .int .i64 x0_0), (3, .int .i64 x3_0), (4, .int .i64 x4_0), (9, .bool (decide ((Int.tmod x4_0 2) > 0)))]) (w' := W) (by kernel_rfl) ?_
          rcases two (decide ((Int.tmod x4_0 2) > 0)) with c2 | c2
          · replace h := of_true h c2
            refine RunF.know 9 (b := true) (by kernel_rfl) c2 ?_
            refine RunF.go 4 [0, 4, 10, 11] (k' := (pin Go.Proofs.Try.f15 [1, 0, 1, 1, 0, 1, 0, 0, 1, 0] 2)) (L' := [(0, .int .i64 x0_0), (4, .int .i64 x4_0), (10, .int .i64 x3_0), (11, .int .i64 x0_0)]) (w' := W) (by kernel_rfl) ?_
            obtain ⟨t4, ht4, h⟩ := Option.bind_eq_some_iff.mp h
            refine RunF.call (d := some 12) (g := 13) (args := #[.int .i64 x3_0, .int .i64 x0_0]) (k2 := (pin Go.Proofs.Try.f15 [1, 0, 1, 1, 0, 1, 0, 0, 1, 0] 3)) (by kernel_rfl) (idea_Mul.calls k x3_0 x0_0 t4 _ ht4) ?_
            rintro _ W3 ⟨rfl, hM_⟩
            replace hM := hM.call hM_
            clear hM_ ht4
            refine RunF.go 6 [3, 4, 13, 14] (k' := (pin Go.Proofs.Try.f15 [1, 0, 1, 1, 0, 1, 0, 1, 0] 2)) (L' := [(3, .int .i64 t4), (4, .int .i64 x4_0), (13, .int .i64 x0_0), (14, .int .i64 x0_0)]) (w' := W3) (by kernel_rfl) ?_
            obtain ⟨t6, ht6, h⟩ := Option.bind_eq_some_iff.mp h
            refine RunF.call (d := some 15) (g := 13) (args := #[.int .i64 x0_0, .int .i64 x0_0]) (k2 := (pin Go.Proofs.Try.f15 [1, 0, 1, 1, 0, 1, 0, 1, 0] 3)) (by kernel_rfl) (idea_Mul.calls k x0_0 x0_0 t6 _ ht6) ?_
            rintro _ W5 ⟨rfl, hM_⟩
            replace hM := hM.call hM_
            clear hM_ ht6
            refine RunF.go 8 [0, 3, 4] (k' := (pl Go.Proofs.Try.f15 [1, 0, 1, 1])) (L' := [(0, .int .i64 t6), (3, .int .i64 t4), (4, .int .i64 (I64 (Int.tdiv x4_0 2)))]) (w' := W5) (by kernel_rfl) ?_
            exact ih0 k (by omega) t6 t4 (I64 (Int.tdiv x4_0 2)) _ (hM.pick [] rfl rfl) h
          · replace h := of_false h c2
            refine RunF.know 9 (b := false) (by kernel_rfl) c2 ?_
            refine RunF.go 6 [3, 4, 13, 14] (k' := (pin Go.Proofs.Try.f15 [1, 0, 1, 1, 0, 1, 0, 1, 0] 2)) (L' := [(3, .int .i64 x3_0), (4, .int .i64 x4_0), (13, .int .i64 x0_0), (14, .int .i64 x0_0)]) (w' := W) (by kernel_rfl) ?_
            obtain ⟨t8, ht8, h⟩ := Option.bind_eq_some_iff.mp h
            refine RunF.call (d := some 15) (g := 13) (args := #[.int .i64 x0_0, .int .i64 x0_0]) (k2 := (pin Go.Proofs.Try.f15 [1, 0, 1, 1, 0, 1, 0, 1, 0] 3)) (by kernel_rfl) (idea_Mul.calls k x0_0 x0_0 t8 _ ht8) ?_
            rintro _ W7 ⟨rfl, hM_⟩
            replace hM := hM.call hM_
            clear hM_ ht8
            refine RunF.go 8 [0, 3, 4] (k' := (pl Go.Proofs.Try.f15 [1, 0, 1, 1])) (L' := [(0, .int .i64 t8), (3, .int .i64 x3_0), (4, .int .i64 (I64 (Int.tdiv x4_0 2)))]) (w' := W7) (by kernel_rfl) ?_
            exact ih0 k (by omega) t8 x3_0 (I64 (Int.tdiv x4_0 2)) _ (hM.pick [] rfl rfl) h
        · replace h := of_false h c1
          refine RunF.know 6 (b := false) (by kernel_rfl) c1 ?_
          refine RunF.go 7 [2] (k' := (pl Go.Proofs.Try.f15 [1, 0, 1, 1, 1, 1])) (L' := [(2, .int .i64 x3_0)]) (w' := W) (by kernel_rfl) ?_
          obtain rfl := Option.some.inj h
          exact RunF.ret1 2 (.int .i64 x3_0) (fn := Go.Proofs.Try.f15) Go.Proofs.Try.func15 (by kernel_rfl) (by kernel_rfl) (by kernel_rfl) ⟨_, rfl, rfl, (hM.pick [] rfl rfl)⟩
  exact l0 k (Nat.le_refl _) a0 1 65535 _ (hM.pick [] rfl rfl) h

/-! ### scrim/idea.neg: function 28 -/
def idea_neg.f (k : Nat) (a0 : Int) : Option (Int) := some (Int.tmod (I64 (65536 - a0)) 65536)
set_option maxRecDepth 100000 in
theorem idea_neg.calls (k : Nat) (a0 : Int) (r : Int) (w : World) (h : idea_neg.f k a0 = some r) :
    Calls Go.Proofs.Try.prog 28 #[.int .i64 a0] w (Ret fun v w' => v = .int .i64 r ∧ Mem w w' []) := by
  unfold idea_neg.f at h
  refine calls_of [.int .i64 a0] (fn := Go.Proofs.Try.f28) Go.Proofs.Try.func28 (by kernel_rfl) (by kernel_rfl) ?_
  have hM := Mem.refl w
  refine RunF.go 11 [2] (k' := (pl Go.Proofs.Try.f28 [1, 1])) (L' := [(2, .int .i64 (Int.tmod (I64 (65536 - a0)) 65536))]) (w' := w) (by kernel_rfl) ?_
  obtain rfl := Option.some.inj h
  exact RunF.ret1 2 (.int .i64 (Int.tmod (I64 (65536 - a0)) 65536)) (fn := Go.Proofs.Try.f28) Go.Proofs.Try.func28 (by kernel_rfl) (by kernel_rfl) (by kernel_rfl) ⟨_, rfl, rfl, (hM.pick [] rfl rfl)⟩

/-! ### scrim/idea.undone: function 24 -/
def idea_undone.l0 : Nat → (List Int) → (List Int) → Int → Option (List Int)
  | 0, _, _, _ => none
  | k + 1, a0, x3_0, x4_0 => if (decide (x4_0 ≥ 0)) = true then (if (decide (0 ≤ (I64 (6 * x4_0)))) = true then (if (decide ((I64 (6 * x4_0)) ≤ (I64 ((I64 (6 * x4_0)) + 4)))) = true then (if (decide ((I64 ((I64 (6 * x4_0)) + 4)) ≤ (a0.length : Int))) = true then (if (decide (1 < (((a0.take (I64 ((I64 (6 * x4_0)) + 4) : Int).toNat).drop (I64 (6 * x4_0) : Int).toNat).length : Int))) = true then (if (decide (2 < (((a0.take (I64 ((I64 (6 * x4_0)) + 4) : Int).toNat).drop (I64 (6 * x4_0) : Int).toNat).length : Int))) = true then ((idea_neg.f k (rd ((a0.take (I64 ((I64 (6 * x4_0)) + 4) : Int).toNat).drop (I64 (6 * x4_0) : Int).toNat) 1)).bind fun t19 => ((idea_neg.f k (rd ((a0.take (I64 ((I64 (6 * x4_0)) + 4) : Int).toNat).drop (I64 (6 * x4_0) : Int).toNat) 2)).bind fun t21 => (if (decide (x4_0 > 0)) = true then (if (decide (x4_0 < 8)) = true then (if (decide (0 < (((a0.take (I64 ((I64 (6 * x4_0)) + 4) : Int).toNat).drop (I64 (6 * x4_0) : Int).toNat).length : Int))) = true then (if (decide (3 < (((a0.take (I64 ((I64 (6 * x4_0)) + 4) : Int).toNat).drop (I64 (6 * x4_0) : Int).toNat).length : Int))) = true then ((idea_Inv.f k (rd ((a0.take (I64 ((I64 (6 * x4_0)) + 4) : Int).toNat).drop (I64 (6 * x4_0) : Int).toNat) 0)).bind fun t31 => ((idea_Inv.f k (rd ((a0.take (I64 ((I64 (6 * x4_0)) + 4) : Int).toNat).drop (I64 (6 * x4_0) : Int).toNat) 3)).bind fun t33 => (if (decide (x3_0.length + ([t31, t21, t19, t33] : List Int).length ≤ 1000000000)) = true then (if (decide (x4_0 > 0)) = true then (if (decide (0 ≤ (I64 ((I64 (6 * x4_0)) - 2)))) = true then (if (decide ((I64 ((I64 (6 * x4_0)) - 2)) ≤ (I64 (6 * x4_0)))) = true then (if (decide ((I64 (6 * x4_0)) ≤ (a0.length : Int))) = true then (if (decide ((x3_0 ++ ([t31, t21, t19, t33] : List Int)).length + ((a0.take (I64 (6 * x4_0) : Int).toNat).drop (I64 ((I64 (6 * x4_0)) - 2) : Int).toNat).length ≤ 1000000000)) = true then (idea_undone.l0 k a0 ((x3_0 ++ ([t31, t21, t19, t33] : List Int)) ++ ((a0.take (I64 (6 * x4_0) : Int).toNat).drop (I64 ((I64 (6 * x4_0)) - 2) : Int).toNat)) (I64 (x4_0 - 1))) else (none)) else (none)) else (none)) else (none)) else (idea_undone.l0 k a0 (x3_0 ++ ([t31, t21, t19, t33] : List Int)) (I64 (x4_0 - 1)))) else (none)))) else (none)) else (none)) else (if (decide (0 < (((a0.take (I64 ((I64 (6 * x4_0)) + 4) : Int).toNat).drop (I64 (6 * x4_0) : Int).toNat).length : Int))) = true then (if (decide (3 < (((a0.take (I64 ((I64 (6 * x4_0)) + 4) : Int).toNat).drop (I64 (6 * x4_0) : Int).toNat).length : Int))) = true then ((idea_Inv.f k (rd ((a0.take (I64 ((I64 (6 * x4_0)) + 4) : Int).toNat).drop (I64 (6 * x4_0) : Int).toNat) 0)).bind fun t65 => ((idea_Inv.f k (rd ((a0.take (I64 ((I64 (6 * x4_0)) + 4) : Int).toNat).drop (I64 (6 * x4_0) : Int).toNat) 3)).bind fun t67 => (if (decide (x3_0.length + ([t65, t19, t21, t67] : List Int).length ≤ 1000000000)) = true then (if (decide (x4_0 > 0)) = true then (if (decide (0 ≤ (I64 ((I64 (6 * x4_0)) - 2)))) = true then (if (decide ((I64 ((I64 (6 * x4_0)) - 2)) ≤ (I64 (6 * x4_0)))) = true then (if (decide ((I64 (6 * x4_0)) ≤ (a0.length : Int))) = true then (if (decide ((x3_0 ++ ([t65, t19, t21, t67] : List Int)).length + ((a0.take (I64 (6 * x4_0) : Int).toNat).drop (I64 ((I64 (6 * x4_0)) - 2) : Int).toNat).length ≤ 1000000000)) = true then (idea_undone.l0 k a0 ((x3_0 ++ ([t65, t19, t21, t67] : List Int)) ++ ((a0.take (I64 (6 * x4_0) : Int).toNat).drop (I64 ((I64 (6 * x4_0)) - 2) : Int).toNat)) (I64 (x4_0 - 1))) else (none)) else (none)) else (none)) else (none)) else (idea_undone.l0 k a0 (x3_0 ++ ([t65, t19, t21, t67] : List Int)) (I64 (x4_0 - 1)))) else (none)))) else (none)) else (none))) else (if (decide (0 < (((a0.take (I64 ((I64 (6 * x4_0)) + 4) : Int).toNat).drop (I64 (6 * x4_0) : Int).toNat).length : Int))) = true then (if (decide (3 < (((a0.take (I64 ((I64 (6 * x4_0)) + 4) : Int).toNat).drop (I64 (6 * x4_0) : Int).toNat).length : Int))) = true then ((idea_Inv.f k (rd ((a0.take (I64 ((I64 (6 * x4_0)) + 4) : Int).toNat).drop (I64 (6 * x4_0) : Int).toNat) 0)).bind fun t99 => ((idea_Inv.f k (rd ((a0.take (I64 ((I64 (6 * x4_0)) + 4) : Int).toNat).drop (I64 (6 * x4_0) : Int).toNat) 3)).bind fun t101 => (if (decide (x3_0.length + ([t99, t19, t21, t101] : List Int).length ≤ 1000000000)) = true then (if (decide (x4_0 > 0)) = true then (if (decide (0 ≤ (I64 ((I64 (6 * x4_0)) - 2)))) = true then (if (decide ((I64 ((I64 (6 * x4_0)) - 2)) ≤ (I64 (6 * x4_0)))) = true then (if (decide ((I64 (6 * x4_0)) ≤ (a0.length : Int))) = true then (if (decide ((x3_0 ++ ([t99, t19, t21, t101] : List Int)).length + ((a0.take (I64 (6 * x4_0) : Int).toNat).drop (I64 ((I64 (6 * x4_0)) - 2) : Int).toNat).length ≤ 1000000000)) = true then (idea_undone.l0 k a0 ((x3_0 ++ ([t99, t19, t21, t101] : List Int)) ++ ((a0.take (I64 (6 * x4_0) : Int).toNat).drop (I64 ((I64 (6 * x4_0)) - 2) : Int).toNat)) (I64 (x4_0 - 1))) else (none)) else (none)) else (none)) else (none)) else (idea_undone.l0 k a0 (x3_0 ++ ([t99, t19, t21, t101] : List Int)) (I64 (x4_0 - 1)))) else (none)))) else (none)) else (none))))) else (none)) else (none)) else (none)) else (none)) else (none)) else (some x3_0)
def idea_undone.f (k : Nat) (a0 : List Int) : Option (List Int) := idea_undone.l0 k a0 ([] : List Int) 8
set_option maxRecDepth 100000 in
set_option maxHeartbeats 8000000 in
theorem idea_undone.calls (k : Nat) (Ap0 : Option Addr) (np0 cp0 : Nat) (a0 : List Int) (r : List Int) (w : World) (hr0 : Rd w (.slice Ap0 np0 cp0) (nums .i64 a0)) (h : idea_undone.f k a0 = some r) :
    Calls Go.Proofs.Try.prog 24 #[(.slice Ap0 np0 cp0)] w (Ret fun v w' => ∃ A0' n0' c0', v = .slice A0' n0' c0' ∧ Mem w w' [⟨.slice A0' n0' c0', 3, 1, nums .i64 r⟩]) := by
  obtain rfl : a0.length = np0 := by have h_ := hr0.1; simpa [nums_length, bools_length, strs_length] using h_
  unfold idea_undone.f at h
  refine calls_of [.slice Ap0 a0.length cp0] (fn := Go.Proofs.Try.f24) Go.Proofs.Try.func24 (by kernel_rfl) (by kernel_rfl) ?_
  have hM := Mem.refl w
  refine RunF.go 15 [0, 3, 4] (k' := (pl Go.Proofs.Try.f24 [1, 1, 0, 1, 0, 0])) (L' := [(0, .slice Ap0 a0.length cp0), (3, .slice none 0 0), (4, .int .i64 8)]) (w' := w) (by kernel_rfl) ?_
  replace hM := hM.nil 3
  have l0 : ∀ (k_ : Nat), k_ ≤ k → ∀ (A3_0 : Option Addr) (c3_0 : Nat) (x3_0 : List Int) (x4_0 : Int) (W : World) (hM : Mem w W [⟨.slice A3_0 x3_0.length c3_0, 3, 1, nums .i64 x3_0⟩]) (h : idea_undone.l0 k_ a0 x3_0 x4_0 = some r), RunF Go.Proofs.Try.prog (Ret fun v w' => ∃ A0' n0' c0', v = .slice A0' n0' c0' ∧ Mem w w' [⟨.slice A0' n0' c0', 3, 1, nums .i64 r⟩]) 24 (pl Go.Proofs.Try.f24 [1, 1, 0, 1, 0, 0]) 60 [(0, .slice Ap0 a0.length cp0), (3, .slice A3_0 x3_0.length c3_0), (4, .int .i64 x4_0)] W := by
    intro k_
    induction k_ using Nat.strongRecOn with
    | _ k_ ih0 =>
      intro hk A3_0 c3_0 x3_0 x4_0 W hM h
      cases k_ with
      | zero => exact absurd h (by simp [idea_undone.l0])
      | succ k =>
        simp only [idea_undone.l0] at h
        replace ih0 : ∀ m, m ≤ k → _ := fun m hm => ih0 m (by omega) (by omega)
        refine RunF.go 6 [0, 3, 4, 9] (k' := (pl Go.Proofs.Try.f24 [1, 1, 0, 1, 0, 0, 0, 1])) (L' := [(0, .slice Ap0 a0.length cp0), (3, .slice A3_0 x3_0.length c3_0), (4, .int .i64 x4_0), (9, .bool (decide (x4_0 ≥ 0)))]) (w' := W) (by kernel_rfl) ?_
        rcases two (decide (x4_0 ≥ 0)) with c3 | c3
        · replace h := of_true h c3
          refine RunF.know 9 (b := true) (by kernel_rfl) c3 ?_
          refine RunF.go 12 [0, 3, 4, 12, 14, 17] (k' := (pin Go.Proofs.Try.f24 [1, 1, 0, 1, 0, 0, 1, 0, 0, 0] 6)) (L' := [(0, .slice Ap0 a0.length cp0), (3, .slice A3_0 x3_0.length c3_0), (4, .int .i64 x4_0), (12, .slice Ap0 a0.length cp0), (14, .int .i64 (I64 (6 * x4_0))), (17, .int .i64 (I64 ((I64 (6 * x4_0)) + 4)))]) (w' := W) (by kernel_rfl) ?_
          rcases two (decide (0 ≤ (I64 (6 * x4_0)))) with c4 | c4
          · replace h := of_true h c4
            rcases two (decide ((I64 (6 * x4_0)) ≤ (I64 ((I64 (6 * x4_0)) + 4)))) with c5 | c5
            · replace h := of_true h c5
              rcases two (decide ((I64 ((I64 (6 * x4_0)) + 4)) ≤ (a0.length : Int))) with c6 | c6
              · replace h := of_true h c6
                have zc4 := of_decide_eq_true c4
                have zc5 := of_decide_eq_true c5
                have zc6 := of_decide_eq_true c6
                obtain ⟨A7, n8, c9, hy10, rfl, hs11⟩ := cut (P := Go.Proofs.Try.prog) (n := 60) (k := (pin Go.Proofs.Try.f24 [1, 1, 0, 1, 0, 0, 1, 0, 0, 0] 6)) (L := [(0, .slice Ap0 a0.length cp0), (3, .slice A3_0 x3_0.length c3_0), (4, .int .i64 x4_0), (12, .slice Ap0 a0.length cp0), (14, .int .i64 (I64 (6 * x4_0))), (17, .int .i64 (I64 ((I64 (6 * x4_0)) + 4)))]) (d := some 18) (A := Ap0) (m := a0.length) (c := cp0) (l := I64 (6 * x4_0)) (h := I64 ((I64 (6 * x4_0)) + 4)) (k2 := (pin Go.Proofs.Try.f24 [1, 1, 0, 1, 0, 0, 1, 0, 0, 0] 7)) .i64 a0 (by kernel_rfl) (by omega) (by omega) (by omega) (hr0.mono hM.below)
                clear zc4
                clear zc5
                clear zc6
                refine RunF.y hy10 trivial ?_
                refine RunF.go 3 [0, 3, 4, 5] (k' := (pl Go.Proofs.Try.f24 [1, 1, 0, 1, 0, 0, 1, 0, 0, 1, 0])) (L' := [(0, .slice Ap0 a0.length cp0), (3, .slice A3_0 x3_0.length c3_0), (4, .int .i64 x4_0), (5, .slice A7 (((a0.take (I64 ((I64 (6 * x4_0)) + 4) : Int).toNat).drop (I64 (6 * x4_0) : Int).toNat).length) c9)]) (w' := W) (by kernel_rfl) ?_
                refine RunF.draw (Still ({ W with drawn := W.drawn + 1 } : World) []) (by kernel_rfl) (by kernel_rfl) ?_
                have hMd13 := hM.drew
                have hS := Still.refl ({ W with drawn := W.drawn + 1 } : World) []
                generalize ({ W with drawn := W.drawn + 1 } : World) = W12 at hMd13 hS ⊢
                replace hM := hMd13
                refine RunAny.y 0 (by kernel_rfl) (yl_pure (d := some 19) (v := .slice A7 (((a0.take (I64 ((I64 (6 * x4_0)) + 4) : Int).toNat).drop (I64 (6 * x4_0) : Int).toNat).length) c9) (k2 := [.inRegion (opsOf (pl Go.Proofs.Try.f24 [1, 1, 0, 1, 0, 0, 1, 0, 0, 1, 0])) []]) fun w => by kernel_rfl) (fun _ _ => trivial) hS ?_
                rcases two (decide (1 < (((a0.take (I64 ((I64 (6 * x4_0)) + 4) : Int).toNat).drop (I64 (6 * x4_0) : Int).toNat).length : Int))) with c15 | c15
                · replace h := of_true h c15
                  obtain ⟨q14, hAq14, hcq14⟩ := Rd.num (hs11 _ (hr0.mono hM.below)) (i := 1) (by omega) (by have h_ := of_decide_eq_true c15; omega)
                  refine RunAny.y 1 (by kernel_rfl) (idx_y (d := some 20) (A := A7) (m := ((a0.take (I64 ((I64 (6 * x4_0)) + 4) : Int).toNat).drop (I64 (6 * x4_0) : Int).toNat).length) (i := 1) (k2 := [.inRegion (opsOf (pl Go.Proofs.Try.f24 [1, 1, 0, 1, 0, 0, 1, 0, 0, 1, 0])) []]) (by kernel_rfl) (by omega) (by have h_ := of_decide_eq_true c15; omega) hAq14) (fun _ _ => trivial) hS ?_
                  refine RunAny.y 2 (by kernel_rfl) (ld_y (d := some 21) (p := (q14.add (1 : Int).toNat)) (k2 := [.inRegion (opsOf (pl Go.Proofs.Try.f24 [1, 1, 0, 1, 0, 0, 1, 0, 0, 1, 0])) []]) (.int .i64 (rd ((a0.take (I64 ((I64 (6 * x4_0)) + 4) : Int).toNat).drop (I64 (6 * x4_0) : Int).toNat) 1)) (by kernel_rfl)) (fun _ hs => hs.cell hcq14 (by simp)) hS ?_
                  refine RunAny.y 4 (by kernel_rfl) (yl_pure (d := some 23) (v := .slice A7 (((a0.take (I64 ((I64 (6 * x4_0)) + 4) : Int).toNat).drop (I64 (6 * x4_0) : Int).toNat).length) c9) (k2 := [.inRegion (opsOf (pl Go.Proofs.Try.f24 [1, 1, 0, 1, 0, 0, 1, 0, 0, 1, 0])) []]) fun w => by kernel_rfl) (fun _ _ => trivial) hS ?_
                  rcases two (decide (2 < (((a0.take (I64 ((I64 (6 * x4_0)) + 4) : Int).toNat).drop (I64 (6 * x4_0) : Int).toNat).length : Int))) with c17 | c17
                  · replace h := of_true h c17
                    obtain ⟨q16, hAq16, hcq16⟩ := Rd.num (hs11 _ (hr0.mono hM.below)) (i := 2) (by omega) (by have h_ := of_decide_eq_true c17; omega)
                    refine RunAny.y 5 (by kernel_rfl) (idx_y (d := some 24) (A := A7) (m := ((a0.take (I64 ((I64 (6 * x4_0)) + 4) : Int).toNat).drop (I64 (6 * x4_0) : Int).toNat).length) (i := 2) (k2 := [.inRegion (opsOf (pl Go.Proofs.Try.f24 [1, 1, 0, 1, 0, 0, 1, 0, 0, 1, 0])) []]) (by kernel_rfl) (by omega) (by have h_ := of_decide_eq_true c17; omega) hAq16) (fun _ _ => trivial) hS ?_
                    refine RunAny.y 6 (by kernel_rfl) (ld_y (d := some 25) (p := (q16.add (2 : Int).toNat)) (k2 := [.inRegion (opsOf (pl Go.Proofs.Try.f24 [1, 1, 0, 1, 0, 0, 1, 0, 0, 1, 0])) []]) (.int .i64 (rd ((a0.take (I64 ((I64 (6 * x4_0)) + 4) : Int).toNat).drop (I64 (6 * x4_0) : Int).toNat) 2)) (by kernel_rfl)) (fun _ hs => hs.cell hcq16 (by simp)) hS ?_
                    obtain ⟨t19, ht19, h⟩ := Option.bind_eq_some_iff.mp h
                    refine RunAny.call 3 (d := some 22) (g := 28) (args := #[.int .i64 (rd ((a0.take (I64 ((I64 (6 * x4_0)) + 4) : Int).toNat).drop (I64 (6 * x4_0) : Int).toNat) 1)]) (by kernel_rfl) (by kernel_rfl) (idea_neg.calls k (rd ((a0.take (I64 ((I64 (6 * x4_0)) + 4) : Int).toNat).drop (I64 (6 * x4_0) : Int).toNat) 1) t19 _ ht19) (by rintro _ _ ⟨rfl, hM_⟩; exact hS.below hM_.below) ?_
                    rintro _ W18 ⟨rfl, hM_⟩
                    replace hS := hS.below hM_.below
                    replace hM := hM.call hM_
                    clear hM_ ht19
                    refine RunAny.rebase hS ?_
                    replace hS := Still.refl W18 []
                    obtain ⟨t21, ht21, h⟩ := Option.bind_eq_some_iff.mp h
                    refine RunAny.call 7 (d := some 26) (g := 28) (args := #[.int .i64 (rd ((a0.take (I64 ((I64 (6 * x4_0)) + 4) : Int).toNat).drop (I64 (6 * x4_0) : Int).toNat) 2)]) (by kernel_rfl) (by kernel_rfl) (idea_neg.calls k (rd ((a0.take (I64 ((I64 (6 * x4_0)) + 4) : Int).toNat).drop (I64 (6 * x4_0) : Int).toNat) 2) t21 _ ht21) (by rintro _ _ ⟨rfl, hM_⟩; exact hS.below hM_.below) ?_
                    rintro _ W20 ⟨rfl, hM_⟩
                    replace hS := hS.below hM_.below
                    replace hM := hM.call hM_
                    clear hM_ ht21
                    refine RunAny.rebase hS ?_
                    replace hS := Still.refl W20 []
                    refine RunAny.y 8 (by kernel_rfl) (yl_pure (d := some 6) (v := .int .i64 t19) (k2 := [.inRegion (opsOf (pl Go.Proofs.Try.f24 [1, 1, 0, 1, 0, 0, 1, 0, 0, 1, 0])) []]) fun w => by kernel_rfl) (fun _ _ => trivial) hS ?_
                    refine RunAny.y 9 (by kernel_rfl) (yl_pure (d := some 7) (v := .int .i64 t21) (k2 := [.inRegion (opsOf (pl Go.Proofs.Try.f24 [1, 1, 0, 1, 0, 0, 1, 0, 0, 1, 0])) []]) fun w => by kernel_rfl) (fun _ _ => trivial) hS ?_
                    refine RunAny.done (by kernel_rfl) ?_
                    clear hS
                    refine RunF.go 6 [0, 3, 4, 5, 6, 7, 29] (k' := (pin Go.Proofs.Try.f24 [1, 1, 0, 1, 0, 0, 1, 0, 0, 1, 1, 0, 0] 3)) (L' := [(0, .slice Ap0 a0.length cp0), (3, .slice A3_0 x3_0.length c3_0), (4, .int .i64 x4_0), (5, .slice A7 (((a0.take (I64 ((I64 (6 * x4_0)) + 4) : Int).toNat).drop (I64 (6 * x4_0) : Int).toNat).length) c9), (6, .int .i64 t19), (7, .int .i64 t21), (29, .bool (decide (x4_0 > 0)))]) (w' := W20) (by kernel_rfl) ?_
                    rcases two (decide (x4_0 > 0)) with c22 | c22
                    · replace h := of_true h c22
                      refine RunF.know 29 (b := true) (by kernel_rfl) c22 ?_
                      refine RunF.go 4 [0, 3, 4, 5, 6, 7, 32] (k' := (pl Go.Proofs.Try.f24 [1, 1, 0, 1, 0, 0, 1, 0, 0, 1, 1, 0, 1])) (L' := [(0, .slice Ap0 a0.length cp0), (3, .slice A3_0 x3_0.length c3_0), (4, .int .i64 x4_0), (5, .slice A7 (((a0.take (I64 ((I64 (6 * x4_0)) + 4) : Int).toNat).drop (I64 (6 * x4_0) : Int).toNat).length) c9), (6, .int .i64 t19), (7, .int .i64 t21), (32, .bool (decide (x4_0 < 8)))]) (w' := W20) (by kernel_rfl) ?_
                      rcases two (decide (x4_0 < 8)) with c23 | c23
                      · replace h := of_true h c23
                        refine RunF.know 32 (b := true) (by kernel_rfl) c23 ?_
                        refine RunF.go 8 [0, 3, 4, 5, 6, 7] (k' := (pl Go.Proofs.Try.f24 [1, 1, 0, 1, 0, 0, 1, 0, 0, 1, 1, 1, 0])) (L' := [(0, .slice Ap0 a0.length cp0), (3, .slice A3_0 x3_0.length c3_0), (4, .int .i64 x4_0), (5, .slice A7 (((a0.take (I64 ((I64 (6 * x4_0)) + 4) : Int).toNat).drop (I64 (6 * x4_0) : Int).toNat).length) c9), (6, .int .i64 t21), (7, .int .i64 t19)]) (w' := W20) (by kernel_rfl) ?_
                        refine RunF.draw (Still ({ W20 with drawn := W20.drawn + 1 } : World) [.slice A3_0 x3_0.length c3_0]) (by kernel_rfl) (by kernel_rfl) ?_
                        have hMd25 := hM.drew
                        have hS := Still.refl ({ W20 with drawn := W20.drawn + 1 } : World) [.slice A3_0 x3_0.length c3_0]
                        generalize ({ W20 with drawn := W20.drawn + 1 } : World) = W24 at hMd25 hS ⊢
                        replace hM := hMd25
                        refine RunAny.y 0 (by kernel_rfl) (yl_pure (d := some 35) (v := .slice A3_0 x3_0.length c3_0) (k2 := [.inRegion (opsOf (pl Go.Proofs.Try.f24 [1, 1, 0, 1, 0, 0, 1, 0, 0, 1, 1, 1, 0])) []]) fun w => by kernel_rfl) (fun _ _ => trivial) hS ?_
                        refine RunAny.y 1 (by kernel_rfl) (yl_pure (d := some 36) (v := .slice A7 (((a0.take (I64 ((I64 (6 * x4_0)) + 4) : Int).toNat).drop (I64 (6 * x4_0) : Int).toNat).length) c9) (k2 := [.inRegion (opsOf (pl Go.Proofs.Try.f24 [1, 1, 0, 1, 0, 0, 1, 0, 0, 1, 1, 1, 0])) []]) fun w => by kernel_rfl) (fun _ _ => trivial) hS ?_
                        rcases two (decide (0 < (((a0.take (I64 ((I64 (6 * x4_0)) + 4) : Int).toNat).drop (I64 (6 * x4_0) : Int).toNat).length : Int))) with c27 | c27
                        · replace h := of_true h c27
                          obtain ⟨q26, hAq26, hiq26⟩ := Rd.num (hs11 _ hr0) (i := 0) (by omega) (by have h_ := of_decide_eq_true c27; omega)
                          have hcq26 := (hM.below.cell (World.block_lt_of_cell? _ _ hiq26)).trans hiq26
                          refine RunAny.y 2 (by kernel_rfl) (idx_y (d := some 37) (A := A7) (m := ((a0.take (I64 ((I64 (6 * x4_0)) + 4) : Int).toNat).drop (I64 (6 * x4_0) : Int).toNat).length) (i := 0) (k2 := [.inRegion (opsOf (pl Go.Proofs.Try.f24 [1, 1, 0, 1, 0, 0, 1, 0, 0, 1, 1, 1, 0])) []]) (by kernel_rfl) (by omega) (by have h_ := of_decide_eq_true c27; omega) hAq26) (fun _ _ => trivial) hS ?_
                          refine RunAny.y 3 (by kernel_rfl) (ld_y (d := some 38) (p := (q26.add (0 : Int).toNat)) (k2 := [.inRegion (opsOf (pl Go.Proofs.Try.f24 [1, 1, 0, 1, 0, 0, 1, 0, 0, 1, 1, 1, 0])) []]) (.int .i64 (rd ((a0.take (I64 ((I64 (6 * x4_0)) + 4) : Int).toNat).drop (I64 (6 * x4_0) : Int).toNat) 0)) (by kernel_rfl)) (fun _ hs => hs.cell hcq26 (by intro v hv; simp only [List.mem_cons, List.not_mem_nil, or_false] at hv; rcases hv with rfl; exact (hM.far hiq26 0 rfl))) hS ?_
                          refine RunAny.y 5 (by kernel_rfl) (yl_pure (d := some 40) (v := .int .i64 t21) (k2 := [.inRegion (opsOf (pl Go.Proofs.Try.f24 [1, 1, 0, 1, 0, 0, 1, 0, 0, 1, 1, 1, 0])) []]) fun w => by kernel_rfl) (fun _ _ => trivial) hS ?_
                          refine RunAny.y 6 (by kernel_rfl) (yl_pure (d := some 41) (v := .int .i64 t19) (k2 := [.inRegion (opsOf (pl Go.Proofs.Try.f24 [1, 1, 0, 1, 0, 0, 1, 0, 0, 1, 1, 1, 0])) []]) fun w => by kernel_rfl) (fun _ _ => trivial) hS ?_
                          refine RunAny.y 7 (by kernel_rfl) (yl_pure (d := some 42) (v := .slice A7 (((a0.take (I64 ((I64 (6 * x4_0)) + 4) : Int).toNat).drop (I64 (6 * x4_0) : Int).toNat).length) c9) (k2 := [.inRegion (opsOf (pl Go.Proofs.Try.f24 [1, 1, 0, 1, 0, 0, 1, 0, 0, 1, 1, 1, 0])) []]) fun w => by kernel_rfl) (fun _ _ => trivial) hS ?_
                          rcases two (decide (3 < (((a0.take (I64 ((I64 (6 * x4_0)) + 4) : Int).toNat).drop (I64 (6 * x4_0) : Int).toNat).length : Int))) with c29 | c29
                          · replace h := of_true h c29
                            obtain ⟨q28, hAq28, hiq28⟩ := Rd.num (hs11 _ hr0) (i := 3) (by omega) (by have h_ := of_decide_eq_true c29; omega)
                            have hcq28 := (hM.below.cell (World.block_lt_of_cell? _ _ hiq28)).trans hiq28
                            refine RunAny.y 8 (by kernel_rfl) (idx_y (d := some 43) (A := A7) (m := ((a0.take (I64 ((I64 (6 * x4_0)) + 4) : Int).toNat).drop (I64 (6 * x4_0) : Int).toNat).length) (i := 3) (k2 := [.inRegion (opsOf (pl Go.Proofs.Try.f24 [1, 1, 0, 1, 0, 0, 1, 0, 0, 1, 1, 1, 0])) []]) (by kernel_rfl) (by omega) (by have h_ := of_decide_eq_true c29; omega) hAq28) (fun _ _ => trivial) hS ?_
                            refine RunAny.y 9 (by kernel_rfl) (ld_y (d := some 44) (p := (q28.add (3 : Int).toNat)) (k2 := [.inRegion (opsOf (pl Go.Proofs.Try.f24 [1, 1, 0, 1, 0, 0, 1, 0, 0, 1, 1, 1, 0])) []]) (.int .i64 (rd ((a0.take (I64 ((I64 (6 * x4_0)) + 4) : Int).toNat).drop (I64 (6 * x4_0) : Int).toNat) 3)) (by kernel_rfl)) (fun _ hs => hs.cell hcq28 (by intro v hv; simp only [List.mem_cons, List.not_mem_nil, or_false] at hv; rcases hv with rfl; exact (hM.far hiq28 0 rfl))) hS ?_
                            obtain ⟨t31, ht31, h⟩ := Option.bind_eq_some_iff.mp h
                            refine RunAny.call 4 (d := some 39) (g := 15) (args := #[.int .i64 (rd ((a0.take (I64 ((I64 (6 * x4_0)) + 4) : Int).toNat).drop (I64 (6 * x4_0) : Int).toNat) 0)]) (by kernel_rfl) (by kernel_rfl) (idea_Inv.calls k (rd ((a0.take (I64 ((I64 (6 * x4_0)) + 4) : Int).toNat).drop (I64 (6 * x4_0) : Int).toNat) 0) t31 _ ht31) (by rintro _ _ ⟨rfl, hM_⟩; exact hS.below hM_.below) ?_
                            rintro _ W30 ⟨rfl, hM_⟩
                            replace hS := hS.below hM_.below
                            replace hM := hM.call hM_
                            clear hM_ ht31
                            refine RunAny.rebase hS ?_
                            replace hS := Still.refl W30 [.slice A3_0 x3_0.length c3_0]
                            obtain ⟨t33, ht33, h⟩ := Option.bind_eq_some_iff.mp h
                            refine RunAny.call 10 (d := some 45) (g := 15) (args := #[.int .i64 (rd ((a0.take (I64 ((I64 (6 * x4_0)) + 4) : Int).toNat).drop (I64 (6 * x4_0) : Int).toNat) 3)]) (by kernel_rfl) (by kernel_rfl) (idea_Inv.calls k (rd ((a0.take (I64 ((I64 (6 * x4_0)) + 4) : Int).toNat).drop (I64 (6 * x4_0) : Int).toNat) 3) t33 _ ht33) (by rintro _ _ ⟨rfl, hM_⟩; exact hS.below hM_.below) ?_
                            rintro _ W32 ⟨rfl, hM_⟩
                            replace hS := hS.below hM_.below
                            replace hM := hM.call hM_
                            clear hM_ ht33
                            refine RunAny.rebase hS ?_
                            replace hS := Still.refl W32 [.slice A3_0 x3_0.length c3_0]
                            refine RunAny.new 11 3 1 4 (nums .i64 [t31, t21, t19, t33]) (d := some 46) (k2 := [.inRegion (opsOf (pl Go.Proofs.Try.f24 [1, 1, 0, 1, 0, 0, 1, 0, 0, 1, 1, 1, 0])) []]) (by kernel_rfl) hM (by simp [nums, bools, strs]) (by kernel_rfl) (by kernel_rfl) hS ?_
                            intro g34 W35 hS hM
                            refine RunAny.rebase hS ?_
                            replace hS := Still.refl W35 [.slice A3_0 x3_0.length c3_0]
                            rcases two (decide (x3_0.length + ([t31, t21, t19, t33] : List Int).length ≤ 1000000000)) with c41 | c41
                            · replace h := of_true h c41
                              have h_ := of_decide_eq_true c41
                              obtain ⟨A37, n38, c39, W40, hD, hM', hS_⟩ := app_does (P := Go.Proofs.Try.prog) (n := 60) (k := (one (opsOf (pl Go.Proofs.Try.f24 [1, 1, 0, 1, 0, 0, 1, 0, 0, 1, 1, 1, 0])) 12)) (L := (upd (upd (upd (upd (upd (upd (upd (upd (upd (upd (upd (upd [(0, .slice Ap0 a0.length cp0), (3, .slice A3_0 x3_0.length c3_0), (4, .int .i64 x4_0), (5, .slice A7 (((a0.take (I64 ((I64 (6 * x4_0)) + 4) : Int).toNat).drop (I64 (6 * x4_0) : Int).toNat).length) c9), (6, .int .i64 t21), (7, .int .i64 t19)] (some 35) (.slice A3_0 x3_0.length c3_0)) (some 36) (.slice A7 (((a0.take (I64 ((I64 (6 * x4_0)) + 4) : Int).toNat).drop (I64 (6 * x4_0) : Int).toNat).length) c9)) (some 37) (.pointer (some (q26.add (0 : Int).toNat)))) (some 38) (.int .i64 (rd ((a0.take (I64 ((I64 (6 * x4_0)) + 4) : Int).toNat).drop (I64 (6 * x4_0) : Int).toNat) 0))) (some 40) (.int .i64 t21)) (some 41) (.int .i64 t19)) (some 42) (.slice A7 (((a0.take (I64 ((I64 (6 * x4_0)) + 4) : Int).toNat).drop (I64 (6 * x4_0) : Int).toNat).length) c9)) (some 43) (.pointer (some (q28.add (3 : Int).toNat)))) (some 44) (.int .i64 (rd ((a0.take (I64 ((I64 (6 * x4_0)) + 4) : Int).toNat).drop (I64 (6 * x4_0) : Int).toNat) 3))) (some 39) (.int .i64 t31)) (some 45) (.int .i64 t33)) (some 46) (.slice (some ⟨g34, 0, none⟩) 4 4))) (d := some 47) (e := 3) (A := A3_0) (m := x3_0.length) (c := c3_0) (A2 := (some ⟨g34, 0, none⟩)) (m2 := 4) (c2 := 4) (cs := nums .i64 x3_0) (ys := nums .i64 ([t31, t21, t19, t33] : List Int)) (k2 := [.inRegion (opsOf (pl Go.Proofs.Try.f24 [1, 1, 0, 1, 0, 0, 1, 0, 0, 1, 1, 1, 0])) []]) [⟨.slice (some ⟨g34, 0, none⟩) 4 4, 3, 1, nums .i64 [t31, t21, t19, t33]⟩] [] (by kernel_rfl) (hM.pick [0, 1] rfl rfl) (hM.rd 0 rfl) (one_nums _ _) (by omega)
                              rw [nums_append] at hM'
                              replace hM := hM'; clear h_ hM'
                              obtain rfl : (x3_0 ++ ([t31, t21, t19, t33] : List Int)).length = n38 := by have h_ := (hM.rd 1 rfl).1; simpa only [nums_length, bools_length, strs_length] using h_
                              refine RunAny.does 12 (by kernel_rfl) hD (hS.app hS_ (by simp)) ?_
                              clear hD
                              replace hS := (hS.app hS_ (by simp)); clear hS_
                              refine RunAny.rebase hS ?_
                              replace hS := Still.refl W40 [.slice A3_0 x3_0.length c3_0]
                              refine RunAny.y 13 (by kernel_rfl) (yl_pure (d := some 3) (v := .slice A37 ((x3_0 ++ ([t31, t21, t19, t33] : List Int)).length) c39) (k2 := [.inRegion (opsOf (pl Go.Proofs.Try.f24 [1, 1, 0, 1, 0, 0, 1, 0, 0, 1, 1, 1, 0])) []]) fun w => by kernel_rfl) (fun _ _ => trivial) hS ?_
                              refine RunAny.done (by kernel_rfl) ?_
                              clear hS
                              refine RunF.go 5 [0, 3, 4, 49] (k' := (pl Go.Proofs.Try.f24 [1, 1, 0, 1, 0, 0, 1, 0, 0, 1, 1, 1, 1, 1])) (L' := [(0, .slice Ap0 a0.length cp0), (3, .slice A37 ((x3_0 ++ ([t31, t21, t19, t33] : List Int)).length) c39), (4, .int .i64 x4_0), (49, .bool (decide (x4_0 > 0)))]) (w' := W40) (by kernel_rfl) ?_
                              rcases two (decide (x4_0 > 0)) with c43 | c43
                              · replace h := of_true h c43
                                refine RunF.know 49 (b := true) (by kernel_rfl) c43 ?_
                                refine RunF.go 9 [0, 4, 50, 51, 54, 56] (k' := (pin Go.Proofs.Try.f24 [1, 1, 0, 1, 0, 0, 1, 0, 0, 1, 1, 1, 1, 1, 0] 7)) (L' := [(0, .slice Ap0 a0.length cp0), (4, .int .i64 x4_0), (50, .slice A37 ((x3_0 ++ ([t31, t21, t19, t33] : List Int)).length) c39), (51, .slice Ap0 a0.length cp0), (54, .int .i64 (I64 ((I64 (6 * x4_0)) - 2))), (56, .int .i64 (I64 (6 * x4_0)))]) (w' := W40) (by kernel_rfl) ?_
                                rcases two (decide (0 ≤ (I64 ((I64 (6 * x4_0)) - 2)))) with c44 | c44
                                · replace h := of_true h c44
                                  rcases two (decide ((I64 ((I64 (6 * x4_0)) - 2)) ≤ (I64 (6 * x4_0)))) with c45 | c45
                                  · replace h := of_true h c45
                                    rcases two (decide ((I64 (6 * x4_0)) ≤ (a0.length : Int))) with c46 | c46
                                    · replace h := of_true h c46
                                      have zc44 := of_decide_eq_true c44
                                      have zc45 := of_decide_eq_true c45
                                      have zc46 := of_decide_eq_true c46
                                      obtain ⟨A47, n48, c49, hy50, rfl, hs51⟩ := cut (P := Go.Proofs.Try.prog) (n := 60) (k := (pin Go.Proofs.Try.f24 [1, 1, 0, 1, 0, 0, 1, 0, 0, 1, 1, 1, 1, 1, 0] 7)) (L := [(0, .slice Ap0 a0.length cp0), (4, .int .i64 x4_0), (50, .slice A37 ((x3_0 ++ ([t31, t21, t19, t33] : List Int)).length) c39), (51, .slice Ap0 a0.length cp0), (54, .int .i64 (I64 ((I64 (6 * x4_0)) - 2))), (56, .int .i64 (I64 (6 * x4_0)))]) (d := some 57) (A := Ap0) (m := a0.length) (c := cp0) (l := I64 ((I64 (6 * x4_0)) - 2)) (h := I64 (6 * x4_0)) (k2 := (pin Go.Proofs.Try.f24 [1, 1, 0, 1, 0, 0, 1, 0, 0, 1, 1, 1, 1, 1, 0] 8)) .i64 a0 (by kernel_rfl) (by omega) (by omega) (by omega) (hr0.mono hM.below)
                                      clear zc44
                                      clear zc45
                                      clear zc46
                                      refine RunF.y hy50 trivial ?_
                                      rcases two (decide ((x3_0 ++ ([t31, t21, t19, t33] : List Int)).length + ((a0.take (I64 (6 * x4_0) : Int).toNat).drop (I64 ((I64 (6 * x4_0)) - 2) : Int).toNat).length ≤ 1000000000)) with c56 | c56
                                      · replace h := of_true h c56
                                        have h_ := of_decide_eq_true c56
                                        obtain ⟨A52, n53, c54, W55, hD, hM', hS_⟩ := app_does (P := Go.Proofs.Try.prog) (n := 60) (k := (pin Go.Proofs.Try.f24 [1, 1, 0, 1, 0, 0, 1, 0, 0, 1, 1, 1, 1, 1, 0] 8)) (L := (upd [(0, .slice Ap0 a0.length cp0), (4, .int .i64 x4_0), (50, .slice A37 ((x3_0 ++ ([t31, t21, t19, t33] : List Int)).length) c39), (51, .slice Ap0 a0.length cp0), (54, .int .i64 (I64 ((I64 (6 * x4_0)) - 2))), (56, .int .i64 (I64 (6 * x4_0)))] (some 57) (.slice A47 (((a0.take (I64 (6 * x4_0) : Int).toNat).drop (I64 ((I64 (6 * x4_0)) - 2) : Int).toNat).length) c49))) (d := some 58) (e := 3) (A := A37) (m := (x3_0 ++ ([t31, t21, t19, t33] : List Int)).length) (c := c39) (A2 := A47) (m2 := ((a0.take (I64 (6 * x4_0) : Int).toNat).drop (I64 ((I64 (6 * x4_0)) - 2) : Int).toNat).length) (c2 := c49) (cs := nums .i64 (x3_0 ++ ([t31, t21, t19, t33] : List Int))) (ys := nums .i64 ((a0.take (I64 (6 * x4_0) : Int).toNat).drop (I64 ((I64 (6 * x4_0)) - 2) : Int).toNat)) (k2 := (pin Go.Proofs.Try.f24 [1, 1, 0, 1, 0, 0, 1, 0, 0, 1, 1, 1, 1, 1, 0] 9)) [⟨.slice (some ⟨g34, 0, none⟩) 4 4, 3, 1, nums .i64 [t31, t21, t19, t33]⟩] [] (by kernel_rfl) (hM.pick [0, 1] rfl rfl) (hs51 _ (hr0.mono hM.below)) (one_nums _ _) (by omega)
                                        rw [nums_append] at hM'
                                        replace hM := hM'; clear h_ hM'
                                        obtain rfl : ((x3_0 ++ ([t31, t21, t19, t33] : List Int)) ++ ((a0.take (I64 (6 * x4_0) : Int).toNat).drop (I64 ((I64 (6 * x4_0)) - 2) : Int).toNat)).length = n53 := by have h_ := (hM.rd 1 rfl).1; simpa only [nums_length, bools_length, strs_length] using h_
                                        refine RunF.does hD ?_
                                        clear hD hS_
                                        refine RunF.go 9 [0, 3, 4] (k' := (pl Go.Proofs.Try.f24 [1, 1, 0, 1, 0, 0])) (L' := [(0, .slice Ap0 a0.length cp0), (3, .slice A52 (((x3_0 ++ ([t31, t21, t19, t33] : List Int)) ++ ((a0.take (I64 (6 * x4_0) : Int).toNat).drop (I64 ((I64 (6 * x4_0)) - 2) : Int).toNat)).length) c54), (4, .int .i64 (I64 (x4_0 - 1)))]) (w' := W55) (by kernel_rfl) ?_
                                        exact ih0 k (by omega) A52 c54 ((x3_0 ++ ([t31, t21, t19, t33] : List Int)) ++ ((a0.take (I64 (6 * x4_0) : Int).toNat).drop (I64 ((I64 (6 * x4_0)) - 2) : Int).toNat)) (I64 (x4_0 - 1)) _ (hM.pick [1] rfl rfl) h
                                      · replace h := of_false h c56
                                        cases h
                                    · replace h := of_false h c46
                                      cases h
                                  · replace h := of_false h c45
                                    cases h
                                · replace h := of_false h c44
                                  cases h
                              · replace h := of_false h c43
                                refine RunF.know 49 (b := false) (by kernel_rfl) c43 ?_
                                refine RunF.go 9 [0, 3, 4] (k' := (pl Go.Proofs.Try.f24 [1, 1, 0, 1, 0, 0])) (L' := [(0, .slice Ap0 a0.length cp0), (3, .slice A37 ((x3_0 ++ ([t31, t21, t19, t33] : List Int)).length) c39), (4, .int .i64 (I64 (x4_0 - 1)))]) (w' := W40) (by kernel_rfl) ?_
                                exact ih0 k (by omega) A37 c39 (x3_0 ++ ([t31, t21, t19, t33] : List Int)) (I64 (x4_0 - 1)) _ (hM.pick [1] rfl rfl) h
                            · replace h := of_false h c41
                              cases h
                          · replace h := of_false h c29
                            cases h
                        · replace h := of_false h c27
                          cases h
                      · replace h := of_false h c23
                        refine RunF.know 32 (b := false) (by kernel_rfl) c23 ?_
                        refine RunF.go 3 [0, 3, 4, 5, 6, 7] (k' := (pl Go.Proofs.Try.f24 [1, 1, 0, 1, 0, 0, 1, 0, 0, 1, 1, 1, 0])) (L' := [(0, .slice Ap0 a0.length cp0), (3, .slice A3_0 x3_0.length c3_0), (4, .int .i64 x4_0), (5, .slice A7 (((a0.take (I64 ((I64 (6 * x4_0)) + 4) : Int).toNat).drop (I64 (6 * x4_0) : Int).toNat).length) c9), (6, .int .i64 t19), (7, .int .i64 t21)]) (w' := W20) (by kernel_rfl) ?_
                        refine RunF.draw (Still ({ W20 with drawn := W20.drawn + 1 } : World) [.slice A3_0 x3_0.length c3_0]) (by kernel_rfl) (by kernel_rfl) ?_
                        have hMd59 := hM.drew
                        have hS := Still.refl ({ W20 with drawn := W20.drawn + 1 } : World) [.slice A3_0 x3_0.length c3_0]
                        generalize ({ W20 with drawn := W20.drawn + 1 } : World) = W58 at hMd59 hS ⊢
                        replace hM := hMd59
                        refine RunAny.y 0 (by kernel_rfl) (yl_pure (d := some 35) (v := .slice A3_0 x3_0.length c3_0) (k2 := [.inRegion (opsOf (pl Go.Proofs.Try.f24 [1, 1, 0, 1, 0, 0, 1, 0, 0, 1, 1, 1, 0])) []]) fun w => by kernel_rfl) (fun _ _ => trivial) hS ?_
                        refine RunAny.y 1 (by kernel_rfl) (yl_pure (d := some 36) (v := .slice A7 (((a0.take (I64 ((I64 (6 * x4_0)) + 4) : Int).toNat).drop (I64 (6 * x4_0) : Int).toNat).length) c9) (k2 := [.inRegion (opsOf (pl Go.Proofs.Try.f24 [1, 1, 0, 1, 0, 0, 1, 0, 0, 1, 1, 1, 0])) []]) fun w => by kernel_rfl) (fun _ _ => trivial) hS ?_
                        rcases two (decide (0 < (((a0.take (I64 ((I64 (6 * x4_0)) + 4) : Int).toNat).drop (I64 (6 * x4_0) : Int).toNat).length : Int))) with c61 | c61
                        · replace h := of_true h c61
                          obtain ⟨q60, hAq60, hiq60⟩ := Rd.num (hs11 _ hr0) (i := 0) (by omega) (by have h_ := of_decide_eq_true c61; omega)
                          have hcq60 := (hM.below.cell (World.block_lt_of_cell? _ _ hiq60)).trans hiq60
                          refine RunAny.y 2 (by kernel_rfl) (idx_y (d := some 37) (A := A7) (m := ((a0.take (I64 ((I64 (6 * x4_0)) + 4) : Int).toNat).drop (I64 (6 * x4_0) : Int).toNat).length) (i := 0) (k2 := [.inRegion (opsOf (pl Go.Proofs.Try.f24 [1, 1, 0, 1, 0, 0, 1, 0, 0, 1, 1, 1, 0])) []]) (by kernel_rfl) (by omega) (by have h_ := of_decide_eq_true c61; omega) hAq60) (fun _ _ => trivial) hS ?_
                          refine RunAny.y 3 (by kernel_rfl) (ld_y (d := some 38) (p := (q60.add (0 : Int).toNat)) (k2 := [.inRegion (opsOf (pl Go.Proofs.Try.f24 [1, 1, 0, 1, 0, 0, 1, 0, 0, 1, 1, 1, 0])) []]) (.int .i64 (rd ((a0.take (I64 ((I64 (6 * x4_0)) + 4) : Int).toNat).drop (I64 (6 * x4_0) : Int).toNat) 0)) (by kernel_rfl)) (fun _ hs => hs.cell hcq60 (by intro v hv; simp only [List.mem_cons, List.not_mem_nil, or_false] at hv; rcases hv with rfl; exact (hM.far hiq60 0 rfl))) hS ?_
                          refine RunAny.y 5 (by kernel_rfl) (yl_pure (d := some 40) (v := .int .i64 t19) (k2 := [.inRegion (opsOf (pl Go.Proofs.Try.f24 [1, 1, 0, 1, 0, 0, 1, 0, 0, 1, 1, 1, 0])) []]) fun w => by kernel_rfl) (fun _ _ => trivial) hS ?_
                          refine RunAny.y 6 (by kernel_rfl) (yl_pure (d := some 41) (v := .int .i64 t21) (k2 := [.inRegion (opsOf (pl Go.Proofs.Try.f24 [1, 1, 0, 1, 0, 0, 1, 0, 0, 1, 1, 1, 0])) []]) fun w => by kernel_rfl) (fun _ _ => trivial) hS ?_
                          refine RunAny.y 7 (by kernel_rfl) (yl_pure (d := some 42) (v := .slice A7 (((a0.take (I64 ((I64 (6 * x4_0)) + 4) : Int).toNat).drop (I64 (6 * x4_0) : Int).toNat).length) c9) (k2 := [.inRegion (opsOf (pl Go.Proofs.Try.f24 [1, 1, 0, 1, 0, 0, 1, 0, 0, 1, 1, 1, 0])) []]) fun w => by kernel_rfl) (fun _ _ => trivial) hS ?_
                          rcases two (decide (3 < (((a0.take (I64 ((I64 (6 * x4_0)) + 4) : Int).toNat).drop (I64 (6 * x4_0) : Int).toNat).length : Int))) with c63 | c63
                          · replace h := of_true h c63
                            obtain ⟨q62, hAq62, hiq62⟩ := Rd.num (hs11 _ hr0) (i := 3) (by omega) (by have h_ := of_decide_eq_true c63; omega)
                            have hcq62 := (hM.below.cell (World.block_lt_of_cell? _ _ hiq62)).trans hiq62
                            refine RunAny.y 8 (by kernel_rfl) (idx_y (d := some 43) (A := A7) (m := ((a0.take (I64 ((I64 (6 * x4_0)) + 4) : Int).toNat).drop (I64 (6 * x4_0) : Int).toNat).length) (i := 3) (k2 := [.inRegion (opsOf (pl Go.Proofs.Try.f24 [1, 1, 0, 1, 0, 0, 1, 0, 0, 1, 1, 1, 0])) []]) (by kernel_rfl) (by omega) (by have h_ := of_decide_eq_true c63; omega) hAq62) (fun _ _ => trivial) hS ?_
                            refine RunAny.y 9 (by kernel_rfl) (ld_y (d := some 44) (p := (q62.add (3 : Int).toNat)) (k2 := [.inRegion (opsOf (pl Go.Proofs.Try.f24 [1, 1, 0, 1, 0, 0, 1, 0, 0, 1, 1, 1, 0])) []]) (.int .i64 (rd ((a0.take (I64 ((I64 (6 * x4_0)) + 4) : Int).toNat).drop (I64 (6 * x4_0) : Int).toNat) 3)) (by kernel_rfl)) (fun _ hs => hs.cell hcq62 (by intro v hv; simp only [List.mem_cons, List.not_mem_nil, or_false] at hv; rcases hv with rfl; exact (hM.far hiq62 0 rfl))) hS ?_
                            obtain ⟨t65, ht65, h⟩ := Option.bind_eq_some_iff.mp h
                            refine RunAny.call 4 (d := some 39) (g := 15) (args := #[.int .i64 (rd ((a0.take (I64 ((I64 (6 * x4_0)) + 4) : Int).toNat).drop (I64 (6 * x4_0) : Int).toNat) 0)]) (by kernel_rfl) (by kernel_rfl) (idea_Inv.calls k (rd ((a0.take (I64 ((I64 (6 * x4_0)) + 4) : Int).toNat).drop (I64 (6 * x4_0) : Int).toNat) 0) t65 _ ht65) (by rintro _ _ ⟨rfl, hM_⟩; exact hS.below hM_.below) ?_
                            rintro _ W64 ⟨rfl, hM_⟩
                            replace hS := hS.below hM_.below
                            replace hM := hM.call hM_
                            clear hM_ ht65
                            refine RunAny.rebase hS ?_
                            replace hS := Still.refl W64 [.slice A3_0 x3_0.length c3_0]
                            obtain ⟨t67, ht67, h⟩ := Option.bind_eq_some_iff.mp h
                            refine RunAny.call 10 (d := some 45) (g := 15) (args := #[.int .i64 (rd ((a0.take (I64 ((I64 (6 * x4_0)) + 4) : Int).toNat).drop (I64 (6 * x4_0) : Int).toNat) 3)]) (by kernel_rfl) (by kernel_rfl) (idea_Inv.calls k (rd ((a0.take (I64 ((I64 (6 * x4_0)) + 4) : Int).toNat).drop (I64 (6 * x4_0) : Int).toNat) 3) t67 _ ht67) (by rintro _ _ ⟨rfl, hM_⟩; exact hS.below hM_.below) ?_
                            rintro _ W66 ⟨rfl, hM_⟩
                            replace hS := hS.below hM_.below
                            replace hM := hM.call hM_
                            clear hM_ ht67
                            refine RunAny.rebase hS ?_
                            replace hS := Still.refl W66 [.slice A3_0 x3_0.length c3_0]
                            refine RunAny.new 11 3 1 4 (nums .i64 [t65, t19, t21, t67]) (d := some 46) (k2 := [.inRegion (opsOf (pl Go.Proofs.Try.f24 [1, 1, 0, 1, 0, 0, 1, 0, 0, 1, 1, 1, 0])) []]) (by kernel_rfl) hM (by simp [nums, bools, strs]) (by kernel_rfl) (by kernel_rfl) hS ?_
                            intro g68 W69 hS hM
                            refine RunAny.rebase hS ?_
                            replace hS := Still.refl W69 [.slice A3_0 x3_0.length c3_0]
                            rcases two (decide (x3_0.length + ([t65, t19, t21, t67] : List Int).length ≤ 1000000000)) with c75 | c75
                            · replace h := of_true h c75
                              have h_ := of_decide_eq_true c75
                              obtain ⟨A71, n72, c73, W74, hD, hM', hS_⟩ := app_does (P := Go.Proofs.Try.prog) (n := 60) (k := (one (opsOf (pl Go.Proofs.Try.f24 [1, 1, 0, 1, 0, 0, 1, 0, 0, 1, 1, 1, 0])) 12)) (L := (upd (upd (upd (upd (upd (upd (upd (upd (upd (upd (upd (upd [(0, .slice Ap0 a0.length cp0), (3, .slice A3_0 x3_0.length c3_0), (4, .int .i64 x4_0), (5, .slice A7 (((a0.take (I64 ((I64 (6 * x4_0)) + 4) : Int).toNat).drop (I64 (6 * x4_0) : Int).toNat).length) c9), (6, .int .i64 t19), (7, .int .i64 t21)] (some 35) (.slice A3_0 x3_0.length c3_0)) (some 36) (.slice A7 (((a0.take (I64 ((I64 (6 * x4_0)) + 4) : Int).toNat).drop (I64 (6 * x4_0) : Int).toNat).length) c9)) (some 37) (.pointer (some (q60.add (0 : Int).toNat)))) (some 38) (.int .i64 (rd ((a0.take (I64 ((I64 (6 * x4_0)) + 4) : Int).toNat).drop (I64 (6 * x4_0) : Int).toNat) 0))) (some 40) (.int .i64 t19)) (some 41) (.int .i64 t21)) (some 42) (.slice A7 (((a0.take (I64 ((I64 (6 * x4_0)) + 4) : Int).toNat).drop (I64 (6 * x4_0) : Int).toNat).length) c9)) (some 43) (.pointer (some (q62.add (3 : Int).toNat)))) (some 44) (.int .i64 (rd ((a0.take (I64 ((I64 (6 * x4_0)) + 4) : Int).toNat).drop (I64 (6 * x4_0) : Int).toNat) 3))) (some 39) (.int .i64 t65)) (some 45) (.int .i64 t67)) (some 46) (.slice (some ⟨g68, 0, none⟩) 4 4))) (d := some 47) (e := 3) (A := A3_0) (m := x3_0.length) (c := c3_0) (A2 := (some ⟨g68, 0, none⟩)) (m2 := 4) (c2 := 4) (cs := nums .i64 x3_0) (ys := nums .i64 ([t65, t19, t21, t67] : List Int)) (k2 := [.inRegion (opsOf (pl Go.Proofs.Try.f24 [1, 1, 0, 1, 0, 0, 1, 0, 0, 1, 1, 1, 0])) []]) [⟨.slice (some ⟨g68, 0, none⟩) 4 4, 3, 1, nums .i64 [t65, t19, t21, t67]⟩] [] (by kernel_rfl) (hM.pick [0, 1] rfl rfl) (hM.rd 0 rfl) (one_nums _ _) (by omega)
                              rw [nums_append] at hM'
                              replace hM := hM'; clear h_ hM'
                              obtain rfl : (x3_0 ++ ([t65, t19, t21, t67] : List Int)).length = n72 := by have h_ := (hM.rd 1 rfl).1; simpa only [nums_length, bools_length, strs_length] using h_
                              refine RunAny.does 12 (by kernel_rfl) hD (hS.app hS_ (by simp)) ?_
                              clear hD
                              replace hS := (hS.app hS_ (by simp)); clear hS_
                              refine RunAny.rebase hS ?_
                              replace hS := Still.refl W74 [.slice A3_0 x3_0.length c3_0]
                              refine RunAny.y 13 (by kernel_rfl) (yl_pure (d := some 3) (v := .slice A71 ((x3_0 ++ ([t65, t19, t21, t67] : List Int)).length) c73) (k2 := [.inRegion (opsOf (pl Go.Proofs.Try.f24 [1, 1, 0, 1, 0, 0, 1, 0, 0, 1, 1, 1, 0])) []]) fun w => by kernel_rfl) (fun _ _ => trivial) hS ?_
                              refine RunAny.done (by kernel_rfl) ?_
                              clear hS
                              refine RunF.go 5 [0, 3, 4, 49] (k' := (pl Go.Proofs.Try.f24 [1, 1, 0, 1, 0, 0, 1, 0, 0, 1, 1, 1, 1, 1])) (L' := [(0, .slice Ap0 a0.length cp0), (3, .slice A71 ((x3_0 ++ ([t65, t19, t21, t67] : List Int)).length) c73), (4, .int .i64 x4_0), (49, .bool (decide (x4_0 > 0)))]) (w' := W74) (by kernel_rfl) ?_
                              rcases two (decide (x4_0 > 0)) with c77 | c77
                              · replace h := of_true h c77
                                refine RunF.know 49 (b := true) (by kernel_rfl) c77 ?_
                                refine RunF.go 9 [0, 4, 50, 51, 54, 56] (k' := (pin Go.Proofs.Try.f24 [1, 1, 0, 1, 0, 0, 1, 0, 0, 1, 1, 1, 1, 1, 0] 7)) (L' := [(0, .slice Ap0 a0.length cp0), (4, .int .i64 x4_0), (50, .slice A71 ((x3_0 ++ ([t65, t19, t21, t67] : List Int)).length) c73), (51, .slice Ap0 a0.length cp0), (54, .int .i64 (I64 ((I64 (6 * x4_0)) - 2))), (56, .int .i64 (I64 (6 * x4_0)))]) (w' := W74) (by kernel_rfl) ?_
                                rcases two (decide (0 ≤ (I64 ((I64 (6 * x4_0)) - 2)))) with c78 | c78
                                · replace h := of_true h c78
                                  rcases two (decide ((I64 ((I64 (6 * x4_0)) - 2)) ≤ (I64 (6 * x4_0)))) with c79 | c79
                                  · replace h := of_true h c79
                                    rcases two (decide ((I64 (6 * x4_0)) ≤ (a0.length : Int))) with c80 | c80
                                    · replace h := of_true h c80
                                      have zc78 := of_decide_eq_true c78
                                      have zc79 := of_decide_eq_true c79
                                      have zc80 := of_decide_eq_true c80
                                      obtain ⟨A81, n82, c83, hy84, rfl, hs85⟩ := cut (P := Go.Proofs.Try.prog) (n := 60) (k := (pin Go.Proofs.Try.f24 [1, 1, 0, 1, 0, 0, 1, 0, 0, 1, 1, 1, 1, 1, 0] 7)) (L := [(0, .slice Ap0 a0.length cp0), (4, .int .i64 x4_0), (50, .slice A71 ((x3_0 ++ ([t65, t19, t21, t67] : List Int)).length) c73), (51, .slice Ap0 a0.length cp0), (54, .int .i64 (I64 ((I64 (6 * x4_0)) - 2))), (56, .int .i64 (I64 (6 * x4_0)))]) (d := some 57) (A := Ap0) (m := a0.length) (c := cp0) (l := I64 ((I64 (6 * x4_0)) - 2)) (h := I64 (6 * x4_0)) (k2 := (pin Go.Proofs.Try.f24 [1, 1, 0, 1, 0, 0, 1, 0, 0, 1, 1, 1, 1, 1, 0] 8)) .i64 a0 (by kernel_rfl) (by omega) (by omega) (by omega) (hr0.mono hM.below)
                                      clear zc78
                                      clear zc79
                                      clear zc80
                                      refine RunF.y hy84 trivial ?_
                                      rcases two (decide ((x3_0 ++ ([t65, t19, t21, t67] : List Int)).length + ((a0.take (I64 (6 * x4_0) : Int).toNat).drop (I64 ((I64 (6 * x4_0)) - 2) : Int).toNat).length ≤ 1000000000)) with c90 | c90
                                      · replace h := of_true h c90
                                        have h_ := of_decide_eq_true c90
                                        obtain ⟨A86, n87, c88, W89, hD, hM', hS_⟩ := app_does (P := Go.Proofs.Try.prog) (n := 60) (k := (pin Go.Proofs.Try.f24 [1, 1, 0, 1, 0, 0, 1, 0, 0, 1, 1, 1, 1, 1, 0] 8)) (L := (upd [(0, .slice Ap0 a0.length cp0), (4, .int .i64 x4_0), (50, .slice A71 ((x3_0 ++ ([t65, t19, t21, t67] : List Int)).length) c73), (51, .slice Ap0 a0.length cp0), (54, .int .i64 (I64 ((I64 (6 * x4_0)) - 2))), (56, .int .i64 (I64 (6 * x4_0)))] (some 57) (.slice A81 (((a0.take (I64 (6 * x4_0) : Int).toNat).drop (I64 ((I64 (6 * x4_0)) - 2) : Int).toNat).length) c83))) (d := some 58) (e := 3) (A := A71) (m := (x3_0 ++ ([t65, t19, t21, t67] : List Int)).length) (c := c73) (A2 := A81) (m2 := ((a0.take (I64 (6 * x4_0) : Int).toNat).drop (I64 ((I64 (6 * x4_0)) - 2) : Int).toNat).length) (c2 := c83) (cs := nums .i64 (x3_0 ++ ([t65, t19, t21, t67] : List Int))) (ys := nums .i64 ((a0.take (I64 (6 * x4_0) : Int).toNat).drop (I64 ((I64 (6 * x4_0)) - 2) : Int).toNat)) (k2 := (pin Go.Proofs.Try.f24 [1, 1, 0, 1, 0, 0, 1, 0, 0, 1, 1, 1, 1, 1, 0] 9)) [⟨.slice (some ⟨g68, 0, none⟩) 4 4, 3, 1, nums .i64 [t65, t19, t21, t67]⟩] [] (by kernel_rfl) (hM.pick [0, 1] rfl rfl) (hs85 _ (hr0.mono hM.below)) (one_nums _ _) (by omega)
                                        rw [nums_append] at hM'
                                        replace hM := hM'; clear h_ hM'
                                        obtain rfl : ((x3_0 ++ ([t65, t19, t21, t67] : List Int)) ++ ((a0.take (I64 (6 * x4_0) : Int).toNat).drop (I64 ((I64 (6 * x4_0)) - 2) : Int).toNat)).length = n87 := by have h_ := (hM.rd 1 rfl).1; simpa only [nums_length, bools_length, strs_length] using h_
                                        refine RunF.does hD ?_
                                        clear hD hS_
                                        refine RunF.go 9 [0, 3, 4] (k' := (pl Go.Proofs.Try.f24 [1, 1, 0, 1, 0, 0])) (L' := [(0, .slice Ap0 a0.length cp0), (3, .slice A86 (((x3_0 ++ ([t65, t19, t21, t67] : List Int)) ++ ((a0.take (I64 (6 * x4_0) : Int).toNat).drop (I64 ((I64 (6 * x4_0)) - 2) : Int).toNat)).length) c88), (4, .int .i64 (I64 (x4_0 - 1)))]) (w' := W89) (by kernel_rfl) ?_
                                        exact ih0 k (by omega) A86 c88 ((x3_0 ++ ([t65, t19, t21, t67] : List Int)) ++ ((a0.take (I64 (6 * x4_0) : Int).toNat).drop (I64 ((I64 (6 * x4_0)) - 2) : Int).toNat)) (I64 (x4_0 - 1)) _ (hM.pick [1] rfl rfl) h
                                      · replace h := of_false h c90
                                        cases h
                                    · replace h := of_false h c80
                                      cases h
                                  · replace h := of_false h c79
                                    cases h
                                · replace h := of_false h c78
                                  cases h
                              · replace h := of_false h c77
                                refine RunF.know 49 (b := false) (by kernel_rfl) c77 ?_
                                refine RunF.go 9 [0, 3, 4] (k' := (pl Go.Proofs.Try.f24 [1, 1, 0, 1, 0, 0])) (L' := [(0, .slice Ap0 a0.length cp0), (3, .slice A71 ((x3_0 ++ ([t65, t19, t21, t67] : List Int)).length) c73), (4, .int .i64 (I64 (x4_0 - 1)))]) (w' := W74) (by kernel_rfl) ?_
                                exact ih0 k (by omega) A71 c73 (x3_0 ++ ([t65, t19, t21, t67] : List Int)) (I64 (x4_0 - 1)) _ (hM.pick [1] rfl rfl) h
                            · replace h := of_false h c75
                              cases h
                          · replace h := of_false h c63
                            cases h
                        · replace h := of_false h c61
                          cases h
                    · replace h := of_false h c22
                      refine RunF.know 29 (b := false) (by kernel_rfl) c22 ?_
                      refine RunF.go 7 [0, 3, 4, 5, 6, 7] (k' := (pl Go.Proofs.Try.f24 [1, 1, 0, 1, 0, 0, 1, 0, 0, 1, 1, 1, 0])) (L' := [(0, .slice Ap0 a0.length cp0), (3, .slice A3_0 x3_0.length c3_0), (4, .int .i64 x4_0), (5, .slice A7 (((a0.take (I64 ((I64 (6 * x4_0)) + 4) : Int).toNat).drop (I64 (6 * x4_0) : Int).toNat).length) c9), (6, .int .i64 t19), (7, .int .i64 t21)]) (w' := W20) (by kernel_rfl) ?_
                      refine RunF.draw (Still ({ W20 with drawn := W20.drawn + 1 } : World) [.slice A3_0 x3_0.length c3_0]) (by kernel_rfl) (by kernel_rfl) ?_
                      have hMd93 := hM.drew
                      have hS := Still.refl ({ W20 with drawn := W20.drawn + 1 } : World) [.slice A3_0 x3_0.length c3_0]
                      generalize ({ W20 with drawn := W20.drawn + 1 } : World) = W92 at hMd93 hS ⊢
                      replace hM := hMd93
                      refine RunAny.y 0 (by kernel_rfl) (yl_pure (d := some 35) (v := .slice A3_0 x3_0.length c3_0) (k2 := [.inRegion (opsOf (pl Go.Proofs.Try.f24 [1, 1, 0, 1, 0, 0, 1, 0, 0, 1, 1, 1, 0])) []]) fun w => by kernel_rfl) (fun _ _ => trivial) hS ?_
                      refine RunAny.y 1 (by kernel_rfl) (yl_pure (d := some 36) (v := .slice A7 (((a0.take (I64 ((I64 (6 * x4_0)) + 4) : Int).toNat).drop (I64 (6 * x4_0) : Int).toNat).length) c9) (k2 := [.inRegion (opsOf (pl Go.Proofs.Try.f24 [1, 1, 0, 1, 0, 0, 1, 0, 0, 1, 1, 1, 0])) []]) fun w => by kernel_rfl) (fun _ _ => trivial) hS ?_
                      rcases two (decide (0 < (((a0.take (I64 ((I64 (6 * x4_0)) + 4) : Int).toNat).drop (I64 (6 * x4_0) : Int).toNat).length : Int))) with c95 | c95
                      · replace h := of_true h c95
                        obtain ⟨q94, hAq94, hiq94⟩ := Rd.num (hs11 _ hr0) (i := 0) (by omega) (by have h_ := of_decide_eq_true c95; omega)
                        have hcq94 := (hM.below.cell (World.block_lt_of_cell? _ _ hiq94)).trans hiq94
                        refine RunAny.y 2 (by kernel_rfl) (idx_y (d := some 37) (A := A7) (m := ((a0.take (I64 ((I64 (6 * x4_0)) + 4) : Int).toNat).drop (I64 (6 * x4_0) : Int).toNat).length) (i := 0) (k2 := [.inRegion (opsOf (pl Go.Proofs.Try.f24 [1, 1, 0, 1, 0, 0, 1, 0, 0, 1, 1, 1, 0])) []]) (by kernel_rfl) (by omega) (by have h_ := of_decide_eq_true c95; omega) hAq94) (fun _ _ => trivial) hS ?_
                        refine RunAny.y 3 (by kernel_rfl) (ld_y (d := some 38) (p := (q94.add (0 : Int).toNat)) (k2 := [.inRegion (opsOf (pl Go.Proofs.Try.f24 [1, 1, 0, 1, 0, 0, 1, 0, 0, 1, 1, 1, 0])) []]) (.int .i64 (rd ((a0.take (I64 ((I64 (6 * x4_0)) + 4) : Int).toNat).drop (I64 (6 * x4_0) : Int).toNat) 0)) (by kernel_rfl)) (fun _ hs => hs.cell hcq94 (by intro v hv; simp only [List.mem_cons, List.not_mem_nil, or_false] at hv; rcases hv with rfl; exact (hM.far hiq94 0 rfl))) hS ?_
                        refine RunAny.y 5 (by kernel_rfl) (yl_pure (d := some 40) (v := .int .i64 t19) (k2 := [.inRegion (opsOf (pl Go.Proofs.Try.f24 [1, 1, 0, 1, 0, 0, 1, 0, 0, 1, 1, 1, 0])) []]) fun w => by kernel_rfl) (fun _ _ => trivial) hS ?_
                        refine RunAny.y 6 (by kernel_rfl) (yl_pure (d := some 41) (v := .int .i64 t21) (k2 := [.inRegion (opsOf (pl Go.Proofs.Try.f24 [1, 1, 0, 1, 0, 0, 1, 0, 0, 1, 1, 1, 0])) []]) fun w => by kernel_rfl) (fun _ _ => trivial) hS ?_
                        refine RunAny.y 7 (by kernel_rfl) (yl_pure (d := some 42) (v := .slice A7 (((a0.take (I64 ((I64 (6 * x4_0)) + 4) : Int).toNat).drop (I64 (6 * x4_0) : Int).toNat).length) c9) (k2 := [.inRegion (opsOf (pl Go.Proofs.Try.f24 [1, 1, 0, 1, 0, 0, 1, 0, 0, 1, 1, 1, 0])) []]) fun w => by kernel_rfl) (fun _ _ => trivial) hS ?_
                        rcases two (decide (3 < (((a0.take (I64 ((I64 (6 * x4_0)) + 4) : Int).toNat).drop (I64 (6 * x4_0) : Int).toNat).length : Int))) with c97 | c97
                        · replace h := of_true h c97
                          obtain ⟨q96, hAq96, hiq96⟩ := Rd.num (hs11 _ hr0) (i := 3) (by omega) (by have h_ := of_decide_eq_true c97; omega)
                          have hcq96 := (hM.below.cell (World.block_lt_of_cell? _ _ hiq96)).trans hiq96
                          refine RunAny.y 8 (by kernel_rfl) (idx_y (d := some 43) (A := A7) (m := ((a0.take (I64 ((I64 (6 * x4_0)) + 4) : Int).toNat).drop (I64 (6 * x4_0) : Int).toNat).length) (i := 3) (k2 := [.inRegion (opsOf (pl Go.Proofs.Try.f24 [1, 1, 0, 1, 0, 0, 1, 0, 0, 1, 1, 1, 0])) []]) (by kernel_rfl) (by omega) (by have h_ := of_decide_eq_true c97; omega) hAq96) (fun _ _ => trivial) hS ?_
                          refine RunAny.y 9 (by kernel_rfl) (ld_y (d := some 44) (p := (q96.add (3 : Int).toNat)) (k2 := [.inRegion (opsOf (pl Go.Proofs.Try.f24 [1, 1, 0, 1, 0, 0, 1, 0, 0, 1, 1, 1, 0])) []]) (.int .i64 (rd ((a0.take (I64 ((I64 (6 * x4_0)) + 4) : Int).toNat).drop (I64 (6 * x4_0) : Int).toNat) 3)) (by kernel_rfl)) (fun _ hs => hs.cell hcq96 (by intro v hv; simp only [List.mem_cons, List.not_mem_nil, or_false] at hv; rcases hv with rfl; exact (hM.far hiq96 0 rfl))) hS ?_
                          obtain ⟨t99, ht99, h⟩ := Option.bind_eq_some_iff.mp h
                          refine RunAny.call 4 (d := some 39) (g := 15) (args := #[.int .i64 (rd ((a0.take (I64 ((I64 (6 * x4_0)) + 4) : Int).toNat).drop (I64 (6 * x4_0) : Int).toNat) 0)]) (by kernel_rfl) (by kernel_rfl) (idea_Inv.calls k (rd ((a0.take (I64 ((I64 (6 * x4_0)) + 4) : Int).toNat).drop (I64 (6 * x4_0) : Int).toNat) 0) t99 _ ht99) (by rintro _ _ ⟨rfl, hM_⟩; exact hS.below hM_.below) ?_
                          rintro _ W98 ⟨rfl, hM_⟩
                          replace hS := hS.below hM_.below
                          replace hM := hM.call hM_
                          clear hM_ ht99
                          refine RunAny.rebase hS ?_
                          replace hS := Still.refl W98 [.slice A3_0 x3_0.length c3_0]
                          obtain ⟨t101, ht101, h⟩ := Option.bind_eq_some_iff.mp h
                          refine RunAny.call 10 (d := some 45) (g := 15) (args := #[.int .i64 (rd ((a0.take (I64 ((I64 (6 * x4_0)) + 4) : Int).toNat).drop (I64 (6 * x4_0) : Int).toNat) 3)]) (by kernel_rfl) (by kernel_rfl) (idea_Inv.calls k (rd ((a0.take (I64 ((I64 (6 * x4_0)) + 4) : Int).toNat).drop (I64 (6 * x4_0) : Int).toNat) 3) t101 _ ht101) (by rintro _ _ ⟨rfl, hM_⟩; exact hS.below hM_.below) ?_
                          rintro _ W100 ⟨rfl, hM_⟩
                          replace hS := hS.below hM_.below
                          replace hM := hM.call hM_
                          clear hM_ ht101
                          refine RunAny.rebase hS ?_
                          replace hS := Still.refl W100 [.slice A3_0 x3_0.length c3_0]
                          refine RunAny.new 11 3 1 4 (nums .i64 [t99, t19, t21, t101]) (d := some 46) (k2 := [.inRegion (opsOf (pl Go.Proofs.Try.f24 [1, 1, 0, 1, 0, 0, 1, 0, 0, 1, 1, 1, 0])) []]) (by kernel_rfl) hM (by simp [nums, bools, strs]) (by kernel_rfl) (by kernel_rfl) hS ?_
                          intro g102 W103 hS hM
                          refine RunAny.rebase hS ?_
                          replace hS := Still.refl W103 [.slice A3_0 x3_0.length c3_0]
                          rcases two (decide (x3_0.length + ([t99, t19, t21, t101] : List Int).length ≤ 1000000000)) with c109 | c109
                          · replace h := of_true h c109
                            have h_ := of_decide_eq_true c109
                            obtain ⟨A105, n106, c107, W108, hD, hM', hS_⟩ := app_does (P := Go.Proofs.Try.prog) (n := 60) (k := (one (opsOf (pl Go.Proofs.Try.f24 [1, 1, 0, 1, 0, 0, 1, 0, 0, 1, 1, 1, 0])) 12)) (L := (upd (upd (upd (upd (upd (upd (upd (upd (upd (upd (upd (upd [(0, .slice Ap0 a0.length cp0), (3, .slice A3_0 x3_0.length c3_0), (4, .int .i64 x4_0), (5, .slice A7 (((a0.take (I64 ((I64 (6 * x4_0)) + 4) : Int).toNat).drop (I64 (6 * x4_0) : Int).toNat).length) c9), (6, .int .i64 t19), (7, .int .i64 t21)] (some 35) (.slice A3_0 x3_0.length c3_0)) (some 36) (.slice A7 (((a0.take (I64 ((I64 (6 * x4_0)) + 4) : Int).toNat).drop (I64 (6 * x4_0) : Int).toNat).length) c9)) (some 37) (.pointer (some (q94.add (0 : Int).toNat)))) (some 38) (.int .i64 (rd ((a0.take (I64 ((I64 (6 * x4_0)) + 4) : Int).toNat).drop (I64 (6 * x4_0) : Int).toNat) 0))) (some 40) (.int .i64 t19)) (some 41) (.int .i64 t21)) (some 42) (.slice A7 (((a0.take (I64 ((I64 (6 * x4_0)) + 4) : Int).toNat).drop (I64 (6 * x4_0) : Int).toNat).length) c9)) (some 43) (.pointer (some (q96.add (3 : Int).toNat)))) (some 44) (.int .i64 (rd ((a0.take (I64 ((I64 (6 * x4_0)) + 4) : Int).toNat).drop (I64 (6 * x4_0) : Int).toNat) 3))) (some 39) (.int .i64 t99)) (some 45) (.int .i64 t101)) (some 46) (.slice (some ⟨g102, 0, none⟩) 4 4))) (d := some 47) (e := 3) (A := A3_0) (m := x3_0.length) (c := c3_0) (A2 := (some ⟨g102, 0, none⟩)) (m2 := 4) (c2 := 4) (cs := nums .i64 x3_0) (ys := nums .i64 ([t99, t19, t21, t101] : List Int)) (k2 := [.inRegion (opsOf (pl Go.Proofs.Try.f24 [1, 1, 0, 1, 0, 0, 1, 0, 0, 1, 1, 1, 0])) []]) [⟨.slice (some ⟨g102, 0, none⟩) 4 4, 3, 1, nums .i64 [t99, t19, t21, t101]⟩] [] (by kernel_rfl) (hM.pick [0, 1] rfl rfl) (hM.rd 0 rfl) (one_nums _ _) (by omega)
                            rw [nums_append] at hM'
                            replace hM := hM'; clear h_ hM'
                            obtain rfl : (x3_0 ++ ([t99, t19, t21, t101] : List Int)).length = n106 := by have h_ := (hM.rd 1 rfl).1; simpa only [nums_length, bools_length, strs_length] using h_
                            refine RunAny.does 12 (by kernel_rfl) hD (hS.app hS_ (by simp)) ?_
                            clear hD
                            replace hS := (hS.app hS_ (by simp)); clear hS_
                            refine RunAny.rebase hS ?_
                            replace hS := Still.refl W108 [.slice A3_0 x3_0.length c3_0]
                            refine RunAny.y 13 (by kernel_rfl) (yl_pure (d := some 3) (v := .slice A105 ((x3_0 ++ ([t99, t19, t21, t101] : List Int)).length) c107) (k2 := [.inRegion (opsOf (pl Go.Proofs.Try.f24 [1, 1, 0, 1, 0, 0, 1, 0, 0, 1, 1, 1, 0])) []]) fun w => by kernel_rfl) (fun _ _ => trivial) hS ?_
                            refine RunAny.done (by kernel_rfl) ?_
                            clear hS
                            refine RunF.go 5 [0, 3, 4, 49] (k' := (pl Go.Proofs.Try.f24 [1, 1, 0, 1, 0, 0, 1, 0, 0, 1, 1, 1, 1, 1])) (L' := [(0, .slice Ap0 a0.length cp0), (3, .slice A105 ((x3_0 ++ ([t99, t19, t21, t101] : List Int)).length) c107), (4, .int .i64 x4_0), (49, .bool (decide (x4_0 > 0)))]) (w' := W108) (by kernel_rfl) ?_
                            rcases two (decide (x4_0 > 0)) with c111 | c111
                            · replace h := of_true h c111
                              refine RunF.know 49 (b := true) (by kernel_rfl) c111 ?_
                              refine RunF.go 9 [0, 4, 50, 51, 54, 56] (k' := (pin Go.Proofs.Try.f24 [1, 1, 0, 1, 0, 0, 1, 0, 0, 1, 1, 1, 1, 1, 0] 7)) (L' := [(0, .slice Ap0 a0.length cp0), (4, .int .i64 x4_0), (50, .slice A105 ((x3_0 ++ ([t99, t19, t21, t101] : List Int)).length) c107), (51, .slice Ap0 a0.length cp0), (54, .int .i64 (I64 ((I64 (6 * x4_0)) - 2))), (56, .int .i64 (I64 (6 * x4_0)))]) (w' := W108) (by kernel_rfl) ?_
                              rcases two (decide (0 ≤ (I64 ((I64 (6 * x4_0)) - 2)))) with c112 | c112
                              · replace h := of_true h c112
                                rcases two (decide ((I64 ((I64 (6 * x4_0)) - 2)) ≤ (I64 (6 * x4_0)))) with c113 | c113
                                · replace h := of_true h c113
                                  rcases two (decide ((I64 (6 * x4_0)) ≤ (a0.length : Int))) with c114 | c114
                                  · replace h := of_true h c114
                                    have zc112 := of_decide_eq_true c112
                                    have zc113 := of_decide_eq_true c113
                                    have zc114 := of_decide_eq_true c114
                                    obtain ⟨A115, n116, c117, hy118, rfl, hs119⟩ := cut (P := Go.Proofs.Try.prog) (n := 60) (k := (pin Go.Proofs.Try.f24 [1, 1, 0, 1, 0, 0, 1, 0, 0, 1, 1, 1, 1, 1, 0] 7)) (L := [(0, .slice Ap0 a0.length cp0), (4, .int .i64 x4_0), (50, .slice A105 ((x3_0 ++ ([t99, t19, t21, t101] : List Int)).length) c107), (51, .slice Ap0 a0.length cp0), (54, .int .i64 (I64 ((I64 (6 * x4_0)) - 2))), (56, .int .i64 (I64 (6 * x4_0)))]) (d := some 57) (A := Ap0) (m := a0.length) (c := cp0) (l := I64 ((I64 (6 * x4_0)) - 2)) (h := I64 (6 * x4_0)) (k2 := (pin Go.Proofs.Try.f24 [1, 1, 0, 1, 0, 0, 1, 0, 0, 1, 1, 1, 1, 1, 0] 8)) .i64 a0 (by kernel_rfl) (by omega) (by omega) (by omega) (hr0.mono hM.below)
                                    clear zc112
                                    clear zc113
                                    clear zc114
                                    refine RunF.y hy118 trivial ?_
                                    rcases two (decide ((x3_0 ++ ([t99, t19, t21, t101] : List Int)).length + ((a0.take (I64 (6 * x4_0) : Int).toNat).drop (I64 ((I64 (6 * x4_0)) - 2) : Int).toNat).length ≤ 1000000000)) with c124 | c124
                                    · replace h := of_true h c124
                                      have h_ := of_decide_eq_true c124
                                      obtain ⟨A120, n121, c122, W123, hD, hM', hS_⟩ := app_does (P := Go.Proofs.Try.prog) (n := 60) (k := (pin Go.Proofs.Try.f24 [1, 1, 0, 1, 0, 0, 1, 0, 0, 1, 1, 1, 1, 1, 0] 8)) (L := (upd [(0, .slice Ap0 a0.length cp0), (4, .int .i64 x4_0), (50, .slice A105 ((x3_0 ++ ([t99, t19, t21, t101] : List Int)).length) c107), (51, .slice Ap0 a0.length cp0), (54, .int .i64 (I64 ((I64 (6 * x4_0)) - 2))), (56, .int .i64 (I64 (6 * x4_0)))] (some 57) (.slice A115 (((a0.take (I64 (6 * x4_0) : Int).toNat).drop (I64 ((I64 (6 * x4_0)) - 2) : Int).toNat).length) c117))) (d := some 58) (e := 3) (A := A105) (m := (x3_0 ++ ([t99, t19, t21, t101] : List Int)).length) (c := c107) (A2 := A115) (m2 := ((a0.take (I64 (6 * x4_0) : Int).toNat).drop (I64 ((I64 (6 * x4_0)) - 2) : Int).toNat).length) (c2 := c117) (cs := nums .i64 (x3_0 ++ ([t99, t19, t21, t101] : List Int))) (ys := nums .i64 ((a0.take (I64 (6 * x4_0) : Int).toNat).drop (I64 ((I64 (6 * x4_0)) - 2) : Int).toNat)) (k2 := (pin Go.Proofs.Try.f24 [1, 1, 0, 1, 0, 0, 1, 0, 0, 1, 1, 1, 1, 1, 0] 9)) [⟨.slice (some ⟨g102, 0, none⟩) 4 4, 3, 1, nums .i64 [t99, t19, t21, t101]⟩] [] (by kernel_rfl) (hM.pick [0, 1] rfl rfl) (hs119 _ (hr0.mono hM.below)) (one_nums _ _) (by omega)
                                      rw [nums_append] at hM'
                                      replace hM := hM'; clear h_ hM'
                                      obtain rfl : ((x3_0 ++ ([t99, t19, t21, t101] : List Int)) ++ ((a0.take (I64 (6 * x4_0) : Int).toNat).drop (I64 ((I64 (6 * x4_0)) - 2) : Int).toNat)).length = n121 := by have h_ := (hM.rd 1 rfl).1; simpa only [nums_length, bools_length, strs_length] using h_
                                      refine RunF.does hD ?_
                                      clear hD hS_
                                      refine RunF.go 9 [0, 3, 4] (k' := (pl Go.Proofs.Try.f24 [1, 1, 0, 1, 0, 0])) (L' := [(0, .slice Ap0 a0.length cp0), (3, .slice A120 (((x3_0 ++ ([t99, t19, t21, t101] : List Int)) ++ ((a0.take (I64 (6 * x4_0) : Int).toNat).drop (I64 ((I64 (6 * x4_0)) - 2) : Int).toNat)).length) c122), (4, .int .i64 (I64 (x4_0 - 1)))]) (w' := W123) (by kernel_rfl) ?_
                                      exact ih0 k (by omega) A120 c122 ((x3_0 ++ ([t99, t19, t21, t101] : List Int)) ++ ((a0.take (I64 (6 * x4_0) : Int).toNat).drop (I64 ((I64 (6 * x4_0)) - 2) : Int).toNat)) (I64 (x4_0 - 1)) _ (hM.pick [1] rfl rfl) h
                                    · replace h := of_false h c124
                                      cases h
                                  · replace h := of_false h c114
                                    cases h
                                · replace h := of_false h c113
                                  cases h
                              · replace h := of_false h c112
                                cases h
                            · replace h := of_false h c111
                              refine RunF.know 49 (b := false) (by kernel_rfl) c111 ?_
                              refine RunF.go 9 [0, 3, 4] (k' := (pl Go.Proofs.Try.f24 [1, 1, 0, 1, 0, 0])) (L' := [(0, .slice Ap0 a0.length cp0), (3, .slice A105 ((x3_0 ++ ([t99, t19, t21, t101] : List Int)).length) c107), (4, .int .i64 (I64 (x4_0 - 1)))]) (w' := W108) (by kernel_rfl) ?_
                              exact ih0 k (by omega) A105 c107 (x3_0 ++ ([t99, t19, t21, t101] : List Int)) (I64 (x4_0 - 1)) _ (hM.pick [1] rfl rfl) h
                          · replace h := of_false h c109
                            cases h
                        · replace h := of_false h c97
                          cases h
                      · replace h := of_false h c95
                        cases h
                  · replace h := of_false h c17
                    cases h
                · replace h := of_false h c15
                  cases h
              · replace h := of_false h c6
                cases h
            · replace h := of_false h c5
              cases h
          · replace h := of_false h c4
            cases h
        · replace h := of_false h c3
          refine RunF.know 9 (b := false) (by kernel_rfl) c3 ?_
          refine RunF.go 7 [2] (k' := (pl Go.Proofs.Try.f24 [1, 1, 1, 1])) (L' := [(2, .slice A3_0 x3_0.length c3_0)]) (w' := W) (by kernel_rfl) ?_
          obtain rfl := Option.some.inj h
          exact RunF.ret1 2 (.slice A3_0 x3_0.length c3_0) (fn := Go.Proofs.Try.f24) Go.Proofs.Try.func24 (by kernel_rfl) (by kernel_rfl) (by kernel_rfl) ⟨_, rfl, A3_0, x3_0.length, c3_0, rfl, (hM.pick [0] rfl rfl)⟩
  exact l0 k (Nat.le_refl _) none 0 ([] : List Int) 8 _ (hM.pick [0] rfl rfl) h

/-! ### scrim/idea.New: function 17 -/
def idea_New.f (k : Nat) (a0 : List Int) : Option (Option ((List Int) × (List Int)) × Int) := (idea_Keys.f k a0).bind fun t2 => (if (t2.2 != 0) = true then (some (none, t2.2)) else ((idea_undone.f k t2.1).bind fun t9 => (some ((some (t2.1, t9)), 0))))
set_option maxRecDepth 100000 in
theorem idea_New.calls (k : Nat) (Ap0 : Option Addr) (np0 cp0 : Nat) (a0 : List Int) (r : Option ((List Int) × (List Int)) × Int) (w : World) (hr0 : Rd w (.slice Ap0 np0 cp0) (nums .u8 a0)) (h : idea_New.f k a0 = some r) :
    Calls Go.Proofs.Try.prog 17 #[(.slice Ap0 np0 cp0)] w (Ret fun v w' => ∃ (v0' : Value) (F0' : List Ent), v = .tuple #[v0', .int .i64 r.2] ∧ (rOpt (rPtr Rs_idea_Idea)) (Oks F0') v0' r.1 ∧ Mem w w' (Gs [] [F0'])) := by
  obtain rfl : a0.length = np0 := by have h_ := hr0.1; simpa [nums_length, bools_length, strs_length] using h_
  unfold idea_New.f at h
  refine calls_of [.slice Ap0 a0.length cp0] (fn := Go.Proofs.Try.f17) Go.Proofs.Try.func17 (by kernel_rfl) (by kernel_rfl) ?_
  have hM := Mem.refl w
  refine RunF.go 8 [7] (k' := (pin Go.Proofs.Try.f17 [1, 0] 1)) (L' := [(7, .slice Ap0 a0.length cp0)]) (w' := w) (by kernel_rfl) ?_
  obtain ⟨t2, ht2, h⟩ := Option.bind_eq_some_iff.mp h
  refine RunF.call (d := some 8) (g := 10) (args := #[.slice Ap0 a0.length cp0]) (k2 := (pin Go.Proofs.Try.f17 [1, 0] 2)) (by kernel_rfl) (idea_Keys.calls k Ap0 a0.length cp0 a0 t2 _ (hr0.mono hM.below) ht2) ?_
  rintro _ W1 ⟨A3, n4, c5, rfl, hM_⟩
  obtain rfl : t2.1.length = n4 := by have h_ := (hM_.rd 0 rfl).1; simpa [nums_length, bools_length, strs_length] using h_
  replace hM := hM.call hM_
  clear hM_ ht2
  refine RunF.go 12 [4, 5, 12] (k' := (pl Go.Proofs.Try.f17 [1, 1, 0, 1])) (L' := [(4, .slice A3 t2.1.length c5), (5, .int .i64 t2.2), (12, .bool (t2.2 != 0))]) (w' := W1) (by kernel_rfl) ?_
  rcases two ((t2.2 != 0)) with c7 | c7
  · replace h := of_true h c7
    refine RunF.know 12 (b := true) (by kernel_rfl) c7 ?_
    refine RunF.go 7 [2, 3] (k' := (pl Go.Proofs.Try.f17 [1, 1, 0, 1, 0, 1])) (L' := [(2, .pointer none), (3, .int .i64 t2.2)]) (w' := W1) (by kernel_rfl) ?_
    obtain rfl := Option.some.inj h
    exact RunF.ret2 2 3 (.pointer none) (.int .i64 t2.2) (fn := Go.Proofs.Try.f17) Go.Proofs.Try.func17 (by kernel_rfl) (by kernel_rfl) (by kernel_rfl) (by kernel_rfl) ⟨_, rfl, .pointer none, ([] : List Ent), rfl, (.inl ⟨rfl, rfl⟩), (Mem.pickF (hM.as (H' := Gs [⟨.slice A3 t2.1.length c5, 3, 1, nums .i64 t2.1⟩] []) rfl) [] rfl rfl (by simp [Gs]))⟩
  · replace h := of_false h c7
    refine RunF.know 12 (b := false) (by kernel_rfl) c7 ?_
    refine RunF.go 6 [14, 15] (k' := (pin Go.Proofs.Try.f17 [1, 1, 1, 0] 2)) (L' := [(14, .slice A3 t2.1.length c5), (15, .slice A3 t2.1.length c5)]) (w' := W1) (by kernel_rfl) ?_
    obtain ⟨t9, ht9, h⟩ := Option.bind_eq_some_iff.mp h
    refine RunF.call (d := some 16) (g := 24) (args := #[.slice A3 t2.1.length c5]) (k2 := (pin Go.Proofs.Try.f17 [1, 1, 1, 0] 3)) (by kernel_rfl) (idea_undone.calls k A3 t2.1.length c5 t2.1 t9 _ (hM.rd 0 rfl) ht9) ?_
    rintro _ W8 ⟨A10, n11, c12, rfl, hM_⟩
    obtain rfl : t9.length = n11 := by have h_ := (hM_.rd 0 rfl).1; simpa [nums_length, bools_length, strs_length] using h_
    replace hM := hM.call hM_
    clear hM_ ht9
    obtain ⟨Fq14, hfq14, hM⟩ := Mem.freezeS (H1 := [⟨.slice A10 t9.length c12, 3, 1, nums .i64 t9⟩]) (H2 := []) (Fs := []) (A := A3) (n := t2.1.length) (c := c5) (ty := 3) (cs := nums .i64 t2.1) (hM.as rfl)
    obtain ⟨Fq15, hfq15, hM⟩ := Mem.freezeS (H1 := []) (H2 := []) (Fs := [Fq14]) (A := A10) (n := t9.length) (c := c12) (ty := 3) (cs := nums .i64 t9) (hM.as rfl)
    refine RunF.go 1 [17] (k' := (pin Go.Proofs.Try.f17 [1, 1, 1, 0] 4)) (L' := [(17, .agg ([.slice A3 t2.1.length c5, .slice A10 t9.length c12]).toArray)]) (w' := W8) (by kernel_rfl) ?_
    refine RunF.newVar 51 ([.slice A3 t2.1.length c5, .slice A10 t9.length c12]) (d := some 18) (k2 := (pin Go.Proofs.Try.f17 [1, 1, 1, 0] 5)) hM (by kernel_rfl) ?_
    intro g16 W17 hM
    obtain ⟨Fq19, hfq19, hM⟩ := Mem.freezeP (H1 := []) (H2 := []) (Fs := [Fq15, Fq14]) (g := g16) (ty := 51) (cs := [.slice A3 t2.1.length c5, .slice A10 t9.length c12]) (hM.as rfl)
    have hs20 : rPtr Rs_idea_Idea (andZ (Oks Fq19) (andZ (Oks Fq14) (Oks Fq15))) (.pointer (some ⟨g16, 0, none⟩)) (t2.1, t9) := ⟨g16, _, rfl, hfq19.up (fun _ hz_ => hz_.1), _, _, rfl, ((up_nums .i64) _ _ _ _ (fun _ hz_ => hz_.2.1) (rnums_of hfq14 (Mem.oks (hM.as (H' := Gs [] [Fq19, Fq15, Fq14]) rfl) 2 rfl))), ((up_nums .i64) _ _ _ _ (fun _ hz_ => hz_.2.2) (rnums_of hfq15 (Mem.oks (hM.as (H' := Gs [] [Fq19, Fq15, Fq14]) rfl) 1 rfl)))⟩
    refine RunF.go 3 [2, 3] (k' := (pl Go.Proofs.Try.f17 [1, 1, 1, 1])) (L' := [(2, .pointer (some ⟨g16, 0, none⟩)), (3, .int .i64 0)]) (w' := W17) (by kernel_rfl) ?_
    obtain rfl := Option.some.inj h
    exact RunF.ret2 2 3 (.pointer (some ⟨g16, 0, none⟩)) (.int .i64 0) (fn := Go.Proofs.Try.f17) Go.Proofs.Try.func17 (by kernel_rfl) (by kernel_rfl) (by kernel_rfl) (by kernel_rfl) ⟨_, rfl, .pointer (some ⟨g16, 0, none⟩), (Fq19 ++ (Fq14 ++ Fq15)), rfl, (up_opt (up_ptr up_Rs_idea_Idea)) _ _ _ _ (fun _ (hz_ : Oks _ _) => (And.intro hz_.left (And.intro hz_.right.left hz_.right.right))) (.inr ⟨(t2.1, t9), rfl, hs20⟩), (Mem.pickF (hM.as (H' := Gs [] [Fq19, Fq15, Fq14]) rfl) [0, 2, 1] rfl rfl (by simp [Gs]))⟩

/-! ### scrim/idea.add: function 29 -/
def idea_add.f (k : Nat) (a0 : Int) (a1 : Int) : Option (Int) := some (Int.tmod (I64 (a0 + a1)) 65536)
set_option maxRecDepth 100000 in
theorem idea_add.calls (k : Nat) (a0 : Int) (a1 : Int) (r : Int) (w : World) (h : idea_add.f k a0 a1 = some r) :
    Calls Go.Proofs.Try.prog 29 #[.int .i64 a0, .int .i64 a1] w (Ret fun v w' => v = .int .i64 r ∧ Mem w w' []) := by
  unfold idea_add.f at h
  refine calls_of [.int .i64 a0, .int .i64 a1] (fn := Go.Proofs.Try.f29) Go.Proofs.Try.func29 (by kernel_rfl) (by kernel_rfl) ?_
  have hM := Mem.refl w
  refine RunF.go 12 [4] (k' := (pl Go.Proofs.Try.f29 [1, 1])) (L' := [(4, .int .i64 (Int.tmod (I64 (a0 + a1)) 65536))]) (w' := w) (by kernel_rfl) ?_
  obtain rfl := Option.some.inj h
  exact RunF.ret1 4 (.int .i64 (Int.tmod (I64 (a0 + a1)) 65536)) (fn := Go.Proofs.Try.f29) Go.Proofs.Try.func29 (by kernel_rfl) (by kernel_rfl) (by kernel_rfl) ⟨_, rfl, rfl, (hM.pick [] rfl rfl)⟩

/-! ### scrim/idea.turn: function 25 -/
def idea_turn.l0 : Nat → (List Int) → Int → Int → Int → Int → Option (List Int)
  | 0, _, _, _, _, _ => none
  | k + 1, x1_0, x5_0, x6_0, x7_0, x8_0 => if (decide (0 < (x1_0.length : Int))) = true then (if (decide (1 < (x1_0.length : Int))) = true then (if (decide (2 < (x1_0.length : Int))) = true then (if (decide (3 < (x1_0.length : Int))) = true then ((idea_Mul.f k x5_0 (rd x1_0 0)).bind fun t22 => ((idea_add.f k x6_0 (rd x1_0 1)).bind fun t24 => ((idea_add.f k x7_0 (rd x1_0 2)).bind fun t26 => ((idea_Mul.f k x8_0 (rd x1_0 3)).bind fun t28 => (if (decide ((x1_0.length : Int) > 4)) = true then (if (decide (4 < (x1_0.length : Int))) = true then ((idea_Mul.f k (bxor .i64 t22 t26) (rd x1_0 4)).bind fun t33 => (if (decide (5 < (x1_0.length : Int))) = true then ((idea_add.f k (bxor .i64 t24 t28) t33).bind fun t39 => ((idea_Mul.f k t39 (rd x1_0 5)).bind fun t41 => ((idea_add.f k t33 t41).bind fun t43 => (if (decide (6 ≤ (x1_0.length : Int))) = true then ((some (((((x1_0.take ((x1_0.length : Int) : Int).toNat).drop (6 : Int).toNat).length : Int) == 4) : Bool)).bind fun y50 => (if y50 = true then (idea_turn.l0 k ((x1_0.take ((x1_0.length : Int) : Int).toNat).drop (6 : Int).toNat) (bxor .i64 t22 t41) (bxor .i64 t24 t43) (bxor .i64 t26 t41) (bxor .i64 t28 t43)) else (idea_turn.l0 k ((x1_0.take ((x1_0.length : Int) : Int).toNat).drop (6 : Int).toNat) (bxor .i64 t22 t41) (bxor .i64 t26 t41) (bxor .i64 t24 t43) (bxor .i64 t28 t43)))) else (none))))) else (none))) else (none)) else (some ([t22, t24, t26, t28] : List Int))))))) else (none)) else (none)) else (none)) else (none)
def idea_turn.f (k : Nat) (a0 : List Int) (a1 : List Int) : Option (List Int) := if (decide (0 < (a0.length : Int))) = true then (if (decide (1 < (a0.length : Int))) = true then (if (decide (2 < (a0.length : Int))) = true then (if (decide (3 < (a0.length : Int))) = true then (idea_turn.l0 k a1 (rd a0 0) (rd a0 1) (rd a0 2) (rd a0 3)) else (none)) else (none)) else (none)) else (none)
set_option maxRecDepth 100000 in
set_option maxHeartbeats 8000000 in
theorem idea_turn.calls (k : Nat) (Ap0 : Option Addr) (np0 cp0 : Nat) (a0 : List Int) (Ap1 : Option Addr) (np1 cp1 : Nat) (a1 : List Int) (r : List Int) (w : World) (hr0 : Rd w (.slice Ap0 np0 cp0) (nums .i64 a0)) (hr1 : Rd w (.slice Ap1 np1 cp1) (nums .i64 a1)) (h : idea_turn.f k a0 a1 = some r) :
    Calls Go.Proofs.Try.prog 25 #[(.slice Ap0 np0 cp0), (.slice Ap1 np1 cp1)] w (Ret fun v w' => ∃ A0' n0' c0', v = .slice A0' n0' c0' ∧ Mem w w' [⟨.slice A0' n0' c0', 3, 1, nums .i64 r⟩]) := by
  obtain rfl : a0.length = np0 := by have h_ := hr0.1; simpa [nums_length, bools_length, strs_length] using h_
  obtain rfl : a1.length = np1 := by have h_ := hr1.1; simpa [nums_length, bools_length, strs_length] using h_
  unfold idea_turn.f at h
  refine calls_of [.slice Ap0 a0.length cp0, .slice Ap1 a1.length cp1] (fn := Go.Proofs.Try.f25) Go.Proofs.Try.func25 (by kernel_rfl) (by kernel_rfl) ?_
  have hM := Mem.refl w
  refine RunF.go 6 [0, 1] (k' := (pl Go.Proofs.Try.f25 [1, 0, 0])) (L' := [(0, .slice Ap0 a0.length cp0), (1, .slice Ap1 a1.length cp1)]) (w' := w) (by kernel_rfl) ?_
  refine RunF.draw (Still ({ w with drawn := w.drawn + 1 } : World) []) (by kernel_rfl) (by kernel_rfl) ?_
  have hMd2 := hM.drew
  have hS := Still.refl ({ w with drawn := w.drawn + 1 } : World) []
  generalize ({ w with drawn := w.drawn + 1 } : World) = W1 at hMd2 hS ⊢
  replace hM := hMd2
  refine RunAny.y 0 (by kernel_rfl) (yl_pure (d := some 11) (v := .slice Ap0 a0.length cp0) (k2 := [.inRegion (opsOf (pl Go.Proofs.Try.f25 [1, 0, 0])) []]) fun w => by kernel_rfl) (fun _ _ => trivial) hS ?_
  rcases two (decide (0 < (a0.length : Int))) with c4 | c4
  · replace h := of_true h c4
    obtain ⟨q3, hAq3, hcq3⟩ := Rd.num (hr0.mono hM.below) (i := 0) (by omega) (by have h_ := of_decide_eq_true c4; omega)
    refine RunAny.y 1 (by kernel_rfl) (idx_y (d := some 12) (A := Ap0) (m := a0.length) (i := 0) (k2 := [.inRegion (opsOf (pl Go.Proofs.Try.f25 [1, 0, 0])) []]) (by kernel_rfl) (by omega) (by have h_ := of_decide_eq_true c4; omega) hAq3) (fun _ _ => trivial) hS ?_
    refine RunAny.y 2 (by kernel_rfl) (ld_y (d := some 13) (p := (q3.add (0 : Int).toNat)) (k2 := [.inRegion (opsOf (pl Go.Proofs.Try.f25 [1, 0, 0])) []]) (.int .i64 (rd a0 0)) (by kernel_rfl)) (fun _ hs => hs.cell hcq3 (by simp)) hS ?_
    refine RunAny.y 3 (by kernel_rfl) (yl_pure (d := some 14) (v := .slice Ap0 a0.length cp0) (k2 := [.inRegion (opsOf (pl Go.Proofs.Try.f25 [1, 0, 0])) []]) fun w => by kernel_rfl) (fun _ _ => trivial) hS ?_
    rcases two (decide (1 < (a0.length : Int))) with c6 | c6
    · replace h := of_true h c6
      obtain ⟨q5, hAq5, hcq5⟩ := Rd.num (hr0.mono hM.below) (i := 1) (by omega) (by have h_ := of_decide_eq_true c6; omega)
      refine RunAny.y 4 (by kernel_rfl) (idx_y (d := some 15) (A := Ap0) (m := a0.length) (i := 1) (k2 := [.inRegion (opsOf (pl Go.Proofs.Try.f25 [1, 0, 0])) []]) (by kernel_rfl) (by omega) (by have h_ := of_decide_eq_true c6; omega) hAq5) (fun _ _ => trivial) hS ?_
      refine RunAny.y 5 (by kernel_rfl) (ld_y (d := some 16) (p := (q5.add (1 : Int).toNat)) (k2 := [.inRegion (opsOf (pl Go.Proofs.Try.f25 [1, 0, 0])) []]) (.int .i64 (rd a0 1)) (by kernel_rfl)) (fun _ hs => hs.cell hcq5 (by simp)) hS ?_
      refine RunAny.y 6 (by kernel_rfl) (yl_pure (d := some 17) (v := .slice Ap0 a0.length cp0) (k2 := [.inRegion (opsOf (pl Go.Proofs.Try.f25 [1, 0, 0])) []]) fun w => by kernel_rfl) (fun _ _ => trivial) hS ?_
      rcases two (decide (2 < (a0.length : Int))) with c8 | c8
      · replace h := of_true h c8
        obtain ⟨q7, hAq7, hcq7⟩ := Rd.num (hr0.mono hM.below) (i := 2) (by omega) (by have h_ := of_decide_eq_true c8; omega)
        refine RunAny.y 7 (by kernel_rfl) (idx_y (d := some 18) (A := Ap0) (m := a0.length) (i := 2) (k2 := [.inRegion (opsOf (pl Go.Proofs.Try.f25 [1, 0, 0])) []]) (by kernel_rfl) (by omega) (by have h_ := of_decide_eq_true c8; omega) hAq7) (fun _ _ => trivial) hS ?_
        refine RunAny.y 8 (by kernel_rfl) (ld_y (d := some 19) (p := (q7.add (2 : Int).toNat)) (k2 := [.inRegion (opsOf (pl Go.Proofs.Try.f25 [1, 0, 0])) []]) (.int .i64 (rd a0 2)) (by kernel_rfl)) (fun _ hs => hs.cell hcq7 (by simp)) hS ?_
        refine RunAny.y 9 (by kernel_rfl) (yl_pure (d := some 20) (v := .slice Ap0 a0.length cp0) (k2 := [.inRegion (opsOf (pl Go.Proofs.Try.f25 [1, 0, 0])) []]) fun w => by kernel_rfl) (fun _ _ => trivial) hS ?_
        rcases two (decide (3 < (a0.length : Int))) with c10 | c10
        · replace h := of_true h c10
          obtain ⟨q9, hAq9, hcq9⟩ := Rd.num (hr0.mono hM.below) (i := 3) (by omega) (by have h_ := of_decide_eq_true c10; omega)
          refine RunAny.y 10 (by kernel_rfl) (idx_y (d := some 21) (A := Ap0) (m := a0.length) (i := 3) (k2 := [.inRegion (opsOf (pl Go.Proofs.Try.f25 [1, 0, 0])) []]) (by kernel_rfl) (by omega) (by have h_ := of_decide_eq_true c10; omega) hAq9) (fun _ _ => trivial) hS ?_
          refine RunAny.y 11 (by kernel_rfl) (ld_y (d := some 22) (p := (q9.add (3 : Int).toNat)) (k2 := [.inRegion (opsOf (pl Go.Proofs.Try.f25 [1, 0, 0])) []]) (.int .i64 (rd a0 3)) (by kernel_rfl)) (fun _ hs => hs.cell hcq9 (by simp)) hS ?_
          refine RunAny.y 12 (by kernel_rfl) (yl_pure (d := some 5) (v := .int .i64 (rd a0 0)) (k2 := [.inRegion (opsOf (pl Go.Proofs.Try.f25 [1, 0, 0])) []]) fun w => by kernel_rfl) (fun _ _ => trivial) hS ?_
          refine RunAny.y 13 (by kernel_rfl) (yl_pure (d := some 6) (v := .int .i64 (rd a0 1)) (k2 := [.inRegion (opsOf (pl Go.Proofs.Try.f25 [1, 0, 0])) []]) fun w => by kernel_rfl) (fun _ _ => trivial) hS ?_
          refine RunAny.y 14 (by kernel_rfl) (yl_pure (d := some 7) (v := .int .i64 (rd a0 2)) (k2 := [.inRegion (opsOf (pl Go.Proofs.Try.f25 [1, 0, 0])) []]) fun w => by kernel_rfl) (fun _ _ => trivial) hS ?_
          refine RunAny.y 15 (by kernel_rfl) (yl_pure (d := some 8) (v := .int .i64 (rd a0 3)) (k2 := [.inRegion (opsOf (pl Go.Proofs.Try.f25 [1, 0, 0])) []]) fun w => by kernel_rfl) (fun _ _ => trivial) hS ?_
          refine RunAny.done (by kernel_rfl) ?_
          clear hS
          refine RunF.go 2 [1, 5, 6, 7, 8] (k' := (pl Go.Proofs.Try.f25 [1, 0, 1, 1])) (L' := [(1, .slice Ap1 a1.length cp1), (5, .int .i64 (rd a0 0)), (6, .int .i64 (rd a0 1)), (7, .int .i64 (rd a0 2)), (8, .int .i64 (rd a0 3))]) (w' := W1) (by kernel_rfl) ?_
          have l0 : ∀ (k_ : Nat), k_ ≤ k → ∀ (A1_0 : Option Addr) (c1_0 : Nat) (x1_0 : List Int) (x5_0 : Int) (x6_0 : Int) (x7_0 : Int) (x8_0 : Int) (W : World) (hM : Mem w W []) (hrx1_0 : Rd w (.slice A1_0 x1_0.length c1_0) (nums .i64 x1_0)) (h : idea_turn.l0 k_  x1_0 x5_0 x6_0 x7_0 x8_0 = some r), RunF Go.Proofs.Try.prog (Ret fun v w' => ∃ A0' n0' c0', v = .slice A0' n0' c0' ∧ Mem w w' [⟨.slice A0' n0' c0', 3, 1, nums .i64 r⟩]) 25 (pl Go.Proofs.Try.f25 [1, 0, 1, 1]) 89 [(1, .slice A1_0 x1_0.length c1_0), (5, .int .i64 x5_0), (6, .int .i64 x6_0), (7, .int .i64 x7_0), (8, .int .i64 x8_0)] W := by
            intro k_
            induction k_ using Nat.strongRecOn with
            | _ k_ ih0 =>
              intro hk A1_0 c1_0 x1_0 x5_0 x6_0 x7_0 x8_0 W hM hrx1_0 h
              cases k_ with
              | zero => exact absurd h (by simp [idea_turn.l0])
              | succ k =>
                simp only [idea_turn.l0] at h
                replace ih0 : ∀ m, m ≤ k → _ := fun m hm => ih0 m (by omega) (by omega)
                refine RunF.go 1 [1, 5, 6, 7, 8] (k' := (pl Go.Proofs.Try.f25 [1, 0, 1, 1, 0])) (L' := [(1, .slice A1_0 x1_0.length c1_0), (5, .int .i64 x5_0), (6, .int .i64 x6_0), (7, .int .i64 x7_0), (8, .int .i64 x8_0)]) (w' := W) (by kernel_rfl) ?_
                refine RunF.draw (Still ({ W with drawn := W.drawn + 1 } : World) []) (by kernel_rfl) (by kernel_rfl) ?_
                have hMd12 := hM.drew
                have hS := Still.refl ({ W with drawn := W.drawn + 1 } : World) []
                generalize ({ W with drawn := W.drawn + 1 } : World) = W11 at hMd12 hS ⊢
                replace hM := hMd12
                refine RunAny.y 0 (by kernel_rfl) (yl_pure (d := some 23) (v := .int .i64 x5_0) (k2 := [.inRegion (opsOf (pl Go.Proofs.Try.f25 [1, 0, 1, 1, 0])) []]) fun w => by kernel_rfl) (fun _ _ => trivial) hS ?_
                refine RunAny.y 1 (by kernel_rfl) (yl_pure (d := some 24) (v := .slice A1_0 x1_0.length c1_0) (k2 := [.inRegion (opsOf (pl Go.Proofs.Try.f25 [1, 0, 1, 1, 0])) []]) fun w => by kernel_rfl) (fun _ _ => trivial) hS ?_
                rcases two (decide (0 < (x1_0.length : Int))) with c14 | c14
                · replace h := of_true h c14
                  obtain ⟨q13, hAq13, hcq13⟩ := Rd.num (hrx1_0.mono hM.below) (i := 0) (by omega) (by have h_ := of_decide_eq_true c14; omega)
                  refine RunAny.y 2 (by kernel_rfl) (idx_y (d := some 25) (A := A1_0) (m := x1_0.length) (i := 0) (k2 := [.inRegion (opsOf (pl Go.Proofs.Try.f25 [1, 0, 1, 1, 0])) []]) (by kernel_rfl) (by omega) (by have h_ := of_decide_eq_true c14; omega) hAq13) (fun _ _ => trivial) hS ?_
                  refine RunAny.y 3 (by kernel_rfl) (ld_y (d := some 26) (p := (q13.add (0 : Int).toNat)) (k2 := [.inRegion (opsOf (pl Go.Proofs.Try.f25 [1, 0, 1, 1, 0])) []]) (.int .i64 (rd x1_0 0)) (by kernel_rfl)) (fun _ hs => hs.cell hcq13 (by simp)) hS ?_
                  refine RunAny.y 5 (by kernel_rfl) (yl_pure (d := some 28) (v := .int .i64 x6_0) (k2 := [.inRegion (opsOf (pl Go.Proofs.Try.f25 [1, 0, 1, 1, 0])) []]) fun w => by kernel_rfl) (fun _ _ => trivial) hS ?_
                  refine RunAny.y 6 (by kernel_rfl) (yl_pure (d := some 29) (v := .slice A1_0 x1_0.length c1_0) (k2 := [.inRegion (opsOf (pl Go.Proofs.Try.f25 [1, 0, 1, 1, 0])) []]) fun w => by kernel_rfl) (fun _ _ => trivial) hS ?_
                  rcases two (decide (1 < (x1_0.length : Int))) with c16 | c16
                  · replace h := of_true h c16
                    obtain ⟨q15, hAq15, hcq15⟩ := Rd.num (hrx1_0.mono hM.below) (i := 1) (by omega) (by have h_ := of_decide_eq_true c16; omega)
                    refine RunAny.y 7 (by kernel_rfl) (idx_y (d := some 30) (A := A1_0) (m := x1_0.length) (i := 1) (k2 := [.inRegion (opsOf (pl Go.Proofs.Try.f25 [1, 0, 1, 1, 0])) []]) (by kernel_rfl) (by omega) (by have h_ := of_decide_eq_true c16; omega) hAq15) (fun _ _ => trivial) hS ?_
                    refine RunAny.y 8 (by kernel_rfl) (ld_y (d := some 31) (p := (q15.add (1 : Int).toNat)) (k2 := [.inRegion (opsOf (pl Go.Proofs.Try.f25 [1, 0, 1, 1, 0])) []]) (.int .i64 (rd x1_0 1)) (by kernel_rfl)) (fun _ hs => hs.cell hcq15 (by simp)) hS ?_
                    refine RunAny.y 10 (by kernel_rfl) (yl_pure (d := some 33) (v := .int .i64 x7_0) (k2 := [.inRegion (opsOf (pl Go.Proofs.Try.f25 [1, 0, 1, 1, 0])) []]) fun w => by kernel_rfl) (fun _ _ => trivial) hS ?_
                    refine RunAny.y 11 (by kernel_rfl) (yl_pure (d := some 34) (v := .slice A1_0 x1_0.length c1_0) (k2 := [.inRegion (opsOf (pl Go.Proofs.Try.f25 [1, 0, 1, 1, 0])) []]) fun w => by kernel_rfl) (fun _ _ => trivial) hS ?_
                    rcases two (decide (2 < (x1_0.length : Int))) with c18 | c18
                    · replace h := of_true h c18
                      obtain ⟨q17, hAq17, hcq17⟩ := Rd.num (hrx1_0.mono hM.below) (i := 2) (by omega) (by have h_ := of_decide_eq_true c18; omega)
                      refine RunAny.y 12 (by kernel_rfl) (idx_y (d := some 35) (A := A1_0) (m := x1_0.length) (i := 2) (k2 := [.inRegion (opsOf (pl Go.Proofs.Try.f25 [1, 0, 1, 1, 0])) []]) (by kernel_rfl) (by omega) (by have h_ := of_decide_eq_true c18; omega) hAq17) (fun _ _ => trivial) hS ?_
                      refine RunAny.y 13 (by kernel_rfl) (ld_y (d := some 36) (p := (q17.add (2 : Int).toNat)) (k2 := [.inRegion (opsOf (pl Go.Proofs.Try.f25 [1, 0, 1, 1, 0])) []]) (.int .i64 (rd x1_0 2)) (by kernel_rfl)) (fun _ hs => hs.cell hcq17 (by simp)) hS ?_
                      refine RunAny.y 15 (by kernel_rfl) (yl_pure (d := some 38) (v := .int .i64 x8_0) (k2 := [.inRegion (opsOf (pl Go.Proofs.Try.f25 [1, 0, 1, 1, 0])) []]) fun w => by kernel_rfl) (fun _ _ => trivial) hS ?_
                      refine RunAny.y 16 (by kernel_rfl) (yl_pure (d := some 39) (v := .slice A1_0 x1_0.length c1_0) (k2 := [.inRegion (opsOf (pl Go.Proofs.Try.f25 [1, 0, 1, 1, 0])) []]) fun w => by kernel_rfl) (fun _ _ => trivial) hS ?_
                      rcases two (decide (3 < (x1_0.length : Int))) with c20 | c20
                      · replace h := of_true h c20
                        obtain ⟨q19, hAq19, hcq19⟩ := Rd.num (hrx1_0.mono hM.below) (i := 3) (by omega) (by have h_ := of_decide_eq_true c20; omega)
                        refine RunAny.y 17 (by kernel_rfl) (idx_y (d := some 40) (A := A1_0) (m := x1_0.length) (i := 3) (k2 := [.inRegion (opsOf (pl Go.Proofs.Try.f25 [1, 0, 1, 1, 0])) []]) (by kernel_rfl) (by omega) (by have h_ := of_decide_eq_true c20; omega) hAq19) (fun _ _ => trivial) hS ?_
                        refine RunAny.y 18 (by kernel_rfl) (ld_y (d := some 41) (p := (q19.add (3 : Int).toNat)) (k2 := [.inRegion (opsOf (pl Go.Proofs.Try.f25 [1, 0, 1, 1, 0])) []]) (.int .i64 (rd x1_0 3)) (by kernel_rfl)) (fun _ hs => hs.cell hcq19 (by simp)) hS ?_
                        obtain ⟨t22, ht22, h⟩ := Option.bind_eq_some_iff.mp h
                        refine RunAny.call 4 (d := some 27) (g := 13) (args := #[.int .i64 x5_0, .int .i64 (rd x1_0 0)]) (by kernel_rfl) (by kernel_rfl) (idea_Mul.calls k x5_0 (rd x1_0 0) t22 _ ht22) (by rintro _ _ ⟨rfl, hM_⟩; exact hS.below hM_.below) ?_
                        rintro _ W21 ⟨rfl, hM_⟩
                        replace hS := hS.below hM_.below
                        replace hM := hM.call hM_
                        clear hM_ ht22
                        refine RunAny.rebase hS ?_
                        replace hS := Still.refl W21 []
                        obtain ⟨t24, ht24, h⟩ := Option.bind_eq_some_iff.mp h
                        refine RunAny.call 9 (d := some 32) (g := 29) (args := #[.int .i64 x6_0, .int .i64 (rd x1_0 1)]) (by kernel_rfl) (by kernel_rfl) (idea_add.calls k x6_0 (rd x1_0 1) t24 _ ht24) (by rintro _ _ ⟨rfl, hM_⟩; exact hS.below hM_.below) ?_
                        rintro _ W23 ⟨rfl, hM_⟩
                        replace hS := hS.below hM_.below
                        replace hM := hM.call hM_
                        clear hM_ ht24
                        refine RunAny.rebase hS ?_
                        replace hS := Still.refl W23 []
                        obtain ⟨t26, ht26, h⟩ := Option.bind_eq_some_iff.mp h
                        refine RunAny.call 14 (d := some 37) (g := 29) (args := #[.int .i64 x7_0, .int .i64 (rd x1_0 2)]) (by kernel_rfl) (by kernel_rfl) (idea_add.calls k x7_0 (rd x1_0 2) t26 _ ht26) (by rintro _ _ ⟨rfl, hM_⟩; exact hS.below hM_.below) ?_
                        rintro _ W25 ⟨rfl, hM_⟩
                        replace hS := hS.below hM_.below
                        replace hM := hM.call hM_
                        clear hM_ ht26
                        refine RunAny.rebase hS ?_
                        replace hS := Still.refl W25 []
                        obtain ⟨t28, ht28, h⟩ := Option.bind_eq_some_iff.mp h
                        refine RunAny.call 19 (d := some 42) (g := 13) (args := #[.int .i64 x8_0, .int .i64 (rd x1_0 3)]) (by kernel_rfl) (by kernel_rfl) (idea_Mul.calls k x8_0 (rd x1_0 3) t28 _ ht28) (by rintro _ _ ⟨rfl, hM_⟩; exact hS.below hM_.below) ?_
                        rintro _ W27 ⟨rfl, hM_⟩
                        replace hS := hS.below hM_.below
                        replace hM := hM.call hM_
                        clear hM_ ht28
                        refine RunAny.rebase hS ?_
                        replace hS := Still.refl W27 []
                        refine RunAny.y 20 (by kernel_rfl) (yl_pure (d := some 5) (v := .int .i64 t22) (k2 := [.inRegion (opsOf (pl Go.Proofs.Try.f25 [1, 0, 1, 1, 0])) []]) fun w => by kernel_rfl) (fun _ _ => trivial) hS ?_
                        refine RunAny.y 21 (by kernel_rfl) (yl_pure (d := some 6) (v := .int .i64 t24) (k2 := [.inRegion (opsOf (pl Go.Proofs.Try.f25 [1, 0, 1, 1, 0])) []]) fun w => by kernel_rfl) (fun _ _ => trivial) hS ?_
                        refine RunAny.y 22 (by kernel_rfl) (yl_pure (d := some 7) (v := .int .i64 t26) (k2 := [.inRegion (opsOf (pl Go.Proofs.Try.f25 [1, 0, 1, 1, 0])) []]) fun w => by kernel_rfl) (fun _ _ => trivial) hS ?_
                        refine RunAny.y 23 (by kernel_rfl) (yl_pure (d := some 8) (v := .int .i64 t28) (k2 := [.inRegion (opsOf (pl Go.Proofs.Try.f25 [1, 0, 1, 1, 0])) []]) fun w => by kernel_rfl) (fun _ _ => trivial) hS ?_
                        refine RunAny.done (by kernel_rfl) ?_
                        clear hS
                        refine RunF.go 7 [1, 5, 6, 7, 8, 45] (k' := (pl Go.Proofs.Try.f25 [1, 0, 1, 1, 1, 0, 1])) (L' := [(1, .slice A1_0 x1_0.length c1_0), (5, .int .i64 t22), (6, .int .i64 t24), (7, .int .i64 t26), (8, .int .i64 t28), (45, .bool (decide ((x1_0.length : Int) > 4)))]) (w' := W27) (by kernel_rfl) ?_
                        rcases two (decide ((x1_0.length : Int) > 4)) with c29 | c29
                        · replace h := of_true h c29
                          refine RunF.know 45 (b := true) (by kernel_rfl) c29 ?_
                          refine RunF.go 7 [1, 5, 6, 7, 8, 48, 49] (k' := (pin Go.Proofs.Try.f25 [1, 0, 1, 1, 1, 0, 1, 0, 0] 4)) (L' := [(1, .slice A1_0 x1_0.length c1_0), (5, .int .i64 t22), (6, .int .i64 t24), (7, .int .i64 t26), (8, .int .i64 t28), (48, .int .i64 (bxor .i64 t22 t26)), (49, .slice A1_0 x1_0.length c1_0)]) (w' := W27) (by kernel_rfl) ?_
                          rcases two (decide (4 < (x1_0.length : Int))) with c31 | c31
                          · replace h := of_true h c31
                            obtain ⟨q30, hAq30, hcq30⟩ := Rd.num (hrx1_0.mono hM.below) (i := 4) (by omega) (by have h_ := of_decide_eq_true c31; omega)
                            refine RunF.y (idx_y (d := some 50) (A := A1_0) (m := x1_0.length) (i := 4) (k2 := (pin Go.Proofs.Try.f25 [1, 0, 1, 1, 1, 0, 1, 0, 0] 5)) (by kernel_rfl) (by omega) (by have h_ := of_decide_eq_true c31; omega) hAq30) trivial ?_
                            refine RunF.y (ld_y (d := some 51) (p := (q30.add (4 : Int).toNat)) (k2 := (pin Go.Proofs.Try.f25 [1, 0, 1, 1, 1, 0, 1, 0, 0] 6)) (.int .i64 (rd x1_0 4)) (by kernel_rfl)) hcq30 ?_
                            obtain ⟨t33, ht33, h⟩ := Option.bind_eq_some_iff.mp h
                            refine RunF.call (d := some 52) (g := 13) (args := #[.int .i64 (bxor .i64 t22 t26), .int .i64 (rd x1_0 4)]) (k2 := (pin Go.Proofs.Try.f25 [1, 0, 1, 1, 1, 0, 1, 0, 0] 7)) (by kernel_rfl) (idea_Mul.calls k (bxor .i64 t22 t26) (rd x1_0 4) t33 _ ht33) ?_
                            rintro _ W32 ⟨rfl, hM_⟩
                            replace hM := hM.call hM_
                            clear hM_ ht33
                            refine RunF.go 3 [1, 5, 6, 7, 8, 9] (k' := (pl Go.Proofs.Try.f25 [1, 0, 1, 1, 1, 0, 1, 0, 1, 0])) (L' := [(1, .slice A1_0 x1_0.length c1_0), (5, .int .i64 t22), (6, .int .i64 t24), (7, .int .i64 t26), (8, .int .i64 t28), (9, .int .i64 t33)]) (w' := W32) (by kernel_rfl) ?_
                            refine RunF.draw (Still ({ W32 with drawn := W32.drawn + 1 } : World) []) (by kernel_rfl) (by kernel_rfl) ?_
                            have hMd35 := hM.drew
                            have hS := Still.refl ({ W32 with drawn := W32.drawn + 1 } : World) []
                            generalize ({ W32 with drawn := W32.drawn + 1 } : World) = W34 at hMd35 hS ⊢
                            replace hM := hMd35
                            refine RunAny.y 0 (by kernel_rfl) (yl_pure (d := some 53) (v := .int .i64 t24) (k2 := [.inRegion (opsOf (pl Go.Proofs.Try.f25 [1, 0, 1, 1, 1, 0, 1, 0, 1, 0])) []]) fun w => by kernel_rfl) (fun _ _ => trivial) hS ?_
                            refine RunAny.y 1 (by kernel_rfl) (yl_pure (d := some 54) (v := .int .i64 t28) (k2 := [.inRegion (opsOf (pl Go.Proofs.Try.f25 [1, 0, 1, 1, 1, 0, 1, 0, 1, 0])) []]) fun w => by kernel_rfl) (fun _ _ => trivial) hS ?_
                            refine RunAny.y 2 (by kernel_rfl) (yl_pure (d := some 55) (v := .int .i64 (bxor .i64 t24 t28)) (k2 := [.inRegion (opsOf (pl Go.Proofs.Try.f25 [1, 0, 1, 1, 1, 0, 1, 0, 1, 0])) []]) fun w => by kernel_rfl) (fun _ _ => trivial) hS ?_
                            refine RunAny.y 3 (by kernel_rfl) (yl_pure (d := some 56) (v := .int .i64 t33) (k2 := [.inRegion (opsOf (pl Go.Proofs.Try.f25 [1, 0, 1, 1, 1, 0, 1, 0, 1, 0])) []]) fun w => by kernel_rfl) (fun _ _ => trivial) hS ?_
                            refine RunAny.y 5 (by kernel_rfl) (yl_pure (d := some 58) (v := .slice A1_0 x1_0.length c1_0) (k2 := [.inRegion (opsOf (pl Go.Proofs.Try.f25 [1, 0, 1, 1, 1, 0, 1, 0, 1, 0])) []]) fun w => by kernel_rfl) (fun _ _ => trivial) hS ?_
                            rcases two (decide (5 < (x1_0.length : Int))) with c37 | c37
                            · replace h := of_true h c37
                              obtain ⟨q36, hAq36, hcq36⟩ := Rd.num (hrx1_0.mono hM.below) (i := 5) (by omega) (by have h_ := of_decide_eq_true c37; omega)
                              refine RunAny.y 6 (by kernel_rfl) (idx_y (d := some 59) (A := A1_0) (m := x1_0.length) (i := 5) (k2 := [.inRegion (opsOf (pl Go.Proofs.Try.f25 [1, 0, 1, 1, 1, 0, 1, 0, 1, 0])) []]) (by kernel_rfl) (by omega) (by have h_ := of_decide_eq_true c37; omega) hAq36) (fun _ _ => trivial) hS ?_
                              refine RunAny.y 7 (by kernel_rfl) (ld_y (d := some 60) (p := (q36.add (5 : Int).toNat)) (k2 := [.inRegion (opsOf (pl Go.Proofs.Try.f25 [1, 0, 1, 1, 1, 0, 1, 0, 1, 0])) []]) (.int .i64 (rd x1_0 5)) (by kernel_rfl)) (fun _ hs => hs.cell hcq36 (by simp)) hS ?_
                              obtain ⟨t39, ht39, h⟩ := Option.bind_eq_some_iff.mp h
                              refine RunAny.call 4 (d := some 57) (g := 29) (args := #[.int .i64 (bxor .i64 t24 t28), .int .i64 t33]) (by kernel_rfl) (by kernel_rfl) (idea_add.calls k (bxor .i64 t24 t28) t33 t39 _ ht39) (by rintro _ _ ⟨rfl, hM_⟩; exact hS.below hM_.below) ?_
                              rintro _ W38 ⟨rfl, hM_⟩
                              replace hS := hS.below hM_.below
                              replace hM := hM.call hM_
                              clear hM_ ht39
                              refine RunAny.rebase hS ?_
                              replace hS := Still.refl W38 []
                              obtain ⟨t41, ht41, h⟩ := Option.bind_eq_some_iff.mp h
                              refine RunAny.call 8 (d := some 61) (g := 13) (args := #[.int .i64 t39, .int .i64 (rd x1_0 5)]) (by kernel_rfl) (by kernel_rfl) (idea_Mul.calls k t39 (rd x1_0 5) t41 _ ht41) (by rintro _ _ ⟨rfl, hM_⟩; exact hS.below hM_.below) ?_
                              rintro _ W40 ⟨rfl, hM_⟩
                              replace hS := hS.below hM_.below
                              replace hM := hM.call hM_
                              clear hM_ ht41
                              refine RunAny.rebase hS ?_
                              replace hS := Still.refl W40 []
                              refine RunAny.y 9 (by kernel_rfl) (yl_pure (d := some 10) (v := .int .i64 t41) (k2 := [.inRegion (opsOf (pl Go.Proofs.Try.f25 [1, 0, 1, 1, 1, 0, 1, 0, 1, 0])) []]) fun w => by kernel_rfl) (fun _ _ => trivial) hS ?_
                              refine RunAny.done (by kernel_rfl) ?_
                              clear hS
                              refine RunF.go 4 [1, 5, 6, 7, 8, 10, 62, 63] (k' := (pin Go.Proofs.Try.f25 [1, 0, 1, 1, 1, 0, 1, 0, 1, 1, 0] 2)) (L' := [(1, .slice A1_0 x1_0.length c1_0), (5, .int .i64 t22), (6, .int .i64 t24), (7, .int .i64 t26), (8, .int .i64 t28), (10, .int .i64 t41), (62, .int .i64 t33), (63, .int .i64 t41)]) (w' := W40) (by kernel_rfl) ?_
                              obtain ⟨t43, ht43, h⟩ := Option.bind_eq_some_iff.mp h
                              refine RunF.call (d := some 64) (g := 29) (args := #[.int .i64 t33, .int .i64 t41]) (k2 := (pin Go.Proofs.Try.f25 [1, 0, 1, 1, 1, 0, 1, 0, 1, 1, 0] 3)) (by kernel_rfl) (idea_add.calls k t33 t41 t43 _ ht43) ?_
                              rintro _ W42 ⟨rfl, hM_⟩
                              replace hM := hM.call hM_
                              clear hM_ ht43
                              refine RunF.go 25 [5, 6, 7, 8, 77] (k' := (pin Go.Proofs.Try.f25 [1, 0, 1, 1, 1, 0, 1, 0, 1, 1, 1, 1, 0, 0] 1)) (L' := [(5, .int .i64 (bxor .i64 t22 t41)), (6, .int .i64 (bxor .i64 t26 t41)), (7, .int .i64 (bxor .i64 t24 t43)), (8, .int .i64 (bxor .i64 t28 t43)), (77, .slice A1_0 x1_0.length c1_0)]) (w' := W42) (by kernel_rfl) ?_
                              rcases two (decide (6 ≤ (x1_0.length : Int))) with c44 | c44
                              · replace h := of_true h c44
                                have zc44 := of_decide_eq_true c44
                                obtain ⟨A45, n46, c47, hy48, rfl, hs49⟩ := cut (P := Go.Proofs.Try.prog) (n := 89) (k := (pin Go.Proofs.Try.f25 [1, 0, 1, 1, 1, 0, 1, 0, 1, 1, 1, 1, 0, 0] 1)) (L := [(5, .int .i64 (bxor .i64 t22 t41)), (6, .int .i64 (bxor .i64 t26 t41)), (7, .int .i64 (bxor .i64 t24 t43)), (8, .int .i64 (bxor .i64 t28 t43)), (77, .slice A1_0 x1_0.length c1_0)]) (d := some 78) (A := A1_0) (m := x1_0.length) (c := c1_0) (l := 6) (h := (x1_0.length : Int)) (k2 := (pin Go.Proofs.Try.f25 [1, 0, 1, 1, 1, 0, 1, 0, 1, 1, 1, 1, 0, 0] 2)) .i64 x1_0 (by kernel_rfl) (by omega) (by omega) (by omega) (hrx1_0.mono hM.below)
                                clear zc44
                                refine RunF.y hy48 trivial ?_
                                refine RunF.go 8 [1, 5, 6, 7, 8, 81] (k' := (pl Go.Proofs.Try.f25 [1, 0, 1, 1, 1, 0, 1, 0, 1, 1, 1, 1, 0, 1, 1])) (L' := [(1, .slice A45 (((x1_0.take ((x1_0.length : Int) : Int).toNat).drop (6 : Int).toNat).length) c47), (5, .int .i64 (bxor .i64 t22 t41)), (6, .int .i64 (bxor .i64 t26 t41)), (7, .int .i64 (bxor .i64 t24 t43)), (8, .int .i64 (bxor .i64 t28 t43)), (81, .bool ((((x1_0.take ((x1_0.length : Int) : Int).toNat).drop (6 : Int).toNat).length : Int) == 4))]) (w' := W42) (by kernel_rfl) ?_
                                obtain ⟨y50, hy, h⟩ := Option.bind_eq_some_iff.mp h
                                rw [show (((((x1_0.take ((x1_0.length : Int) : Int).toNat).drop (6 : Int).toNat).length : Int) == 4)) = y50 from Option.some.inj hy]
                                clear hy
                                rcases two (y50) with c51 | c51
                                · replace h := of_true h c51
                                  refine RunF.know 81 (b := true) (by kernel_rfl) c51 ?_
                                  refine RunF.go 10 [1, 5, 6, 7, 8] (k' := (pl Go.Proofs.Try.f25 [1, 0, 1, 1])) (L' := [(1, .slice A45 (((x1_0.take ((x1_0.length : Int) : Int).toNat).drop (6 : Int).toNat).length) c47), (5, .int .i64 (bxor .i64 t22 t41)), (6, .int .i64 (bxor .i64 t24 t43)), (7, .int .i64 (bxor .i64 t26 t41)), (8, .int .i64 (bxor .i64 t28 t43))]) (w' := W42) (by kernel_rfl) ?_
                                  exact ih0 k (by omega) A45 c47 ((x1_0.take ((x1_0.length : Int) : Int).toNat).drop (6 : Int).toNat) (bxor .i64 t22 t41) (bxor .i64 t24 t43) (bxor .i64 t26 t41) (bxor .i64 t28 t43) _ (hM.pick [] rfl rfl) (hs49 _ hrx1_0) h
                                · replace h := of_false h c51
                                  refine RunF.know 81 (b := false) (by kernel_rfl) c51 ?_
                                  refine RunF.go 5 [1, 5, 6, 7, 8] (k' := (pl Go.Proofs.Try.f25 [1, 0, 1, 1])) (L' := [(1, .slice A45 (((x1_0.take ((x1_0.length : Int) : Int).toNat).drop (6 : Int).toNat).length) c47), (5, .int .i64 (bxor .i64 t22 t41)), (6, .int .i64 (bxor .i64 t26 t41)), (7, .int .i64 (bxor .i64 t24 t43)), (8, .int .i64 (bxor .i64 t28 t43))]) (w' := W42) (by kernel_rfl) ?_
                                  exact ih0 k (by omega) A45 c47 ((x1_0.take ((x1_0.length : Int) : Int).toNat).drop (6 : Int).toNat) (bxor .i64 t22 t41) (bxor .i64 t26 t41) (bxor .i64 t24 t43) (bxor .i64 t28 t43) _ (hM.pick [] rfl rfl) (hs49 _ hrx1_0) h
                              · replace h := of_false h c44
                                cases h
                            · replace h := of_false h c37
                              cases h
                          · replace h := of_false h c31
                            cases h
                        · replace h := of_false h c29
                          refine RunF.know 45 (b := false) (by kernel_rfl) c29 ?_
                          refine RunF.go 8 [84, 85, 86, 87] (k' := (pin Go.Proofs.Try.f25 [1, 0, 1, 1, 1, 1, 0] 4)) (L' := [(84, .int .i64 t22), (85, .int .i64 t24), (86, .int .i64 t26), (87, .int .i64 t28)]) (w' := W27) (by kernel_rfl) ?_
                          refine RunF.new 3 1 4 (nums .i64 [t22, t24, t26, t28]) (d := some 88) (k2 := (pin Go.Proofs.Try.f25 [1, 0, 1, 1, 1, 1, 0] 5)) hM (by simp [nums, bools, strs]) (by kernel_rfl) (by kernel_rfl) ?_
                          replace hM := hM
                          intro g52 W53 hM
                          refine RunF.go 2 [4] (k' := (pl Go.Proofs.Try.f25 [1, 0, 1, 1, 1, 1, 1])) (L' := [(4, .slice (some ⟨g52, 0, none⟩) 4 4)]) (w' := W53) (by kernel_rfl) ?_
                          obtain rfl := Option.some.inj h
                          exact RunF.ret1 4 (.slice (some ⟨g52, 0, none⟩) 4 4) (fn := Go.Proofs.Try.f25) Go.Proofs.Try.func25 (by kernel_rfl) (by kernel_rfl) (by kernel_rfl) ⟨_, rfl, (some ⟨g52, 0, none⟩), 4, 4, rfl, (hM.pick [0] rfl rfl)⟩
                      · replace h := of_false h c20
                        cases h
                    · replace h := of_false h c18
                      cases h
                  · replace h := of_false h c16
                    cases h
                · replace h := of_false h c14
                  cases h
          exact l0 k (Nat.le_refl _) Ap1 cp1 a1 (rd a0 0) (rd a0 1) (rd a0 2) (rd a0 3) _ (hM.pick [] rfl rfl) hr1 h
        · replace h := of_false h c10
          cases h
      · replace h := of_false h c8
        cases h
    · replace h := of_false h c6
      cases h
  · replace h := of_false h c4
    cases h

/-! ### (*scrim/idea.Idea).Block: function 18 -/
mutual
def idea_Idea_Block.l0 : Nat → (List Int) → (List Int) → Int → Option (List Int × Int)
  | 0, _, _, _ => none
  | k + 1, t16, x9_0, x30_0 => if (decide (x30_0 < (t16.length : Int))) = true then (if (decide (0 ≤ x30_0)) = true then (if (decide (x30_0 < (t16.length : Int))) = true then (if (decide (x9_0.length + ([U8 (shr (rd t16 x30_0) 8), U8 (rd t16 x30_0)] : List Int).length ≤ 1000000000)) = true then (idea_Idea_Block.l0 k t16 (x9_0 ++ ([U8 (shr (rd t16 x30_0) 8), U8 (rd t16 x30_0)] : List Int)) (I64 (x30_0 + 1))) else (none)) else (none)) else (none)) else (some (x9_0, 0))
def idea_Idea_Block.l1 : Nat → (List Int) → (List Int) → Int → Option (List Int × Int)
  | 0, _, _, _ => none
  | k + 1, t46, x9_1, x30_1 => if (decide (x30_1 < (t46.length : Int))) = true then (if (decide (0 ≤ x30_1)) = true then (if (decide (x30_1 < (t46.length : Int))) = true then (if (decide (x9_1.length + ([U8 (shr (rd t46 x30_1) 8), U8 (rd t46 x30_1)] : List Int).length ≤ 1000000000)) = true then (idea_Idea_Block.l1 k t46 (x9_1 ++ ([U8 (shr (rd t46 x30_1) 8), U8 (rd t46 x30_1)] : List Int)) (I64 (x30_1 + 1))) else (none)) else (none)) else (none)) else (some (x9_1, 0))
end
def idea_Idea_Block.f (k : Nat) (a0 : ((List Int) × (List Int))) (a1 : List Int) (a2 : Bool) : Option (List Int × Int) := if ((a1.length : Int) != 8) = true then (some (([] : List Int), 1)) else (if a2 = true then (if (decide (0 ≤ 8)) = true then ((idea_load.f k a1).bind fun t10 => ((idea_turn.f k t10 a0.2).bind fun t16 => (idea_Idea_Block.l0 k t16 (List.replicate 0 (0 : Int)) 0))) else (none)) else (if (decide (0 ≤ 8)) = true then ((idea_load.f k a1).bind fun t40 => ((idea_turn.f k t40 a0.1).bind fun t46 => (idea_Idea_Block.l1 k t46 (List.replicate 0 (0 : Int)) 0))) else (none)))
set_option maxRecDepth 100000 in
set_option maxHeartbeats 8000000 in
theorem idea_Idea_Block.calls (k : Nat) (vp0 : Value) (Zp0 : Zp) (a0 : ((List Int) × (List Int))) (Ap1 : Option Addr) (np1 cp1 : Nat) (a1 : List Int) (a2 : Bool) (r : List Int × Int) (w : World) (hr1 : Rd w (.slice Ap1 np1 cp1) (nums .u8 a1)) (hp0 : (rPtr Rs_idea_Idea) Zp0 vp0 a0) (hZp0 : ∀ W, Kept w W → Zp0 W) (h : idea_Idea_Block.f k a0 a1 a2 = some r) :
    Calls Go.Proofs.Try.prog 18 #[vp0, (.slice Ap1 np1 cp1), .bool a2] w (Ret fun v w' => ∃ A0' n0' c0', v = .tuple #[.slice A0' n0' c0', .int .i64 r.2] ∧ Mem w w' [⟨.slice A0' n0' c0', 5, 1, nums .u8 r.1⟩]) := by
  obtain rfl : a1.length = np1 := by have h_ := hr1.1; simpa [nums_length, bools_length, strs_length] using h_
  obtain ⟨gp0, _, rfl, hco1, _, _, rfl, ⟨Ao1_0, co1_0, rfl, ho1_0⟩, ⟨Ao1_1, co1_1, rfl, ho1_1⟩⟩ := id hp0
  unfold idea_Idea_Block.f at h
  refine calls_of [.pointer (some ⟨gp0, 0, none⟩), .slice Ap1 a1.length cp1, .bool a2] (fn := Go.Proofs.Try.f18) Go.Proofs.Try.func18 (by kernel_rfl) (by kernel_rfl) ?_
  have hM := Mem.refl w
  refine RunF.go 12 [0, 1, 2, 14] (k' := (pl Go.Proofs.Try.f18 [1, 0, 1])) (L' := [(0, .pointer (some ⟨gp0, 0, none⟩)), (1, .slice Ap1 a1.length cp1), (2, .bool a2), (14, .bool ((a1.length : Int) != 8))]) (w' := w) (by kernel_rfl) ?_
  rcases two (((a1.length : Int) != 8)) with c2 | c2
  · replace h := of_true h c2
    refine RunF.know 14 (b := true) (by kernel_rfl) c2 ?_
    refine RunF.go 6 [6, 7] (k' := (pl Go.Proofs.Try.f18 [1, 0, 1, 0, 1])) (L' := [(6, .slice none 0 0), (7, .int .i64 1)]) (w' := w) (by kernel_rfl) ?_
    replace hM := hM.nil 5
    obtain rfl := Option.some.inj h
    exact RunF.ret2 6 7 (.slice none 0 0) (.int .i64 1) (fn := Go.Proofs.Try.f18) Go.Proofs.Try.func18 (by kernel_rfl) (by kernel_rfl) (by kernel_rfl) (by kernel_rfl) ⟨_, rfl, none, 0, 0, rfl, (hM.pick [0] rfl rfl)⟩
  · replace h := of_false h c2
    refine RunF.know 14 (b := false) (by kernel_rfl) c2 ?_
    refine RunF.go 7 [0, 1, 2, 17] (k' := (pin Go.Proofs.Try.f18 [1, 1, 0] 3)) (L' := [(0, .pointer (some ⟨gp0, 0, none⟩)), (1, .slice Ap1 a1.length cp1), (2, .bool a2), (17, .pointer (some ⟨gp0, 0, none⟩))]) (w' := w) (by kernel_rfl) ?_
    refine RunF.y (ld_y (d := some 18) (p := ⟨gp0, 0, none⟩) (k2 := (pin Go.Proofs.Try.f18 [1, 1, 0] 4)) (.slice Ao1_0 a0.1.length co1_0) (by kernel_rfl)) (hco1 _ (hZp0 _ hM.kept) 0 _ rfl) ?_
    refine RunF.go 7 [0, 1, 8, 19] (k' := (pl Go.Proofs.Try.f18 [1, 1, 1, 0, 1])) (L' := [(0, .pointer (some ⟨gp0, 0, none⟩)), (1, .slice Ap1 a1.length cp1), (8, .slice Ao1_0 a0.1.length co1_0), (19, .bool a2)]) (w' := w) (by kernel_rfl) ?_
    rcases two (a2) with c4 | c4
    · replace h := of_true h c4
      refine RunF.know 19 (b := true) (by kernel_rfl) c4 ?_
      refine RunF.go 5 [1, 22] (k' := (pin Go.Proofs.Try.f18 [1, 1, 1, 0, 1, 0] 3)) (L' := [(1, .slice Ap1 a1.length cp1), (22, .pointer (some ⟨gp0, 1, none⟩))]) (w' := w) (by kernel_rfl) ?_
      refine RunF.y (ld_y (d := some 23) (p := ⟨gp0, 1, none⟩) (k2 := (pin Go.Proofs.Try.f18 [1, 1, 1, 0, 1, 0] 4)) (.slice Ao1_1 a0.2.length co1_1) (by kernel_rfl)) (hco1 _ (hZp0 _ hM.kept) 1 _ rfl) ?_
      refine RunF.go 4 [1, 8] (k' := (pin Go.Proofs.Try.f18 [1, 1, 1, 1, 0] 0)) (L' := [(1, .slice Ap1 a1.length cp1), (8, .slice Ao1_1 a0.2.length co1_1)]) (w' := w) (by kernel_rfl) ?_
      rcases two (decide (0 ≤ 8)) with c7 | c7
      · replace h := of_true h c7
        have := of_decide_eq_true c7
        obtain ⟨W5, hD, hM', hB_⟩ := mk_does (P := Go.Proofs.Try.prog) (n := 44) (k := (pin Go.Proofs.Try.f18 [1, 1, 1, 1, 0] 0)) (L := [(1, .slice Ap1 a1.length cp1), (8, .slice Ao1_1 a0.2.length co1_1)]) (d := some 24) (e := 5) (z := .int .u8 0) (l := 0) (c := 8) (k2 := (pin Go.Proofs.Try.f18 [1, 1, 1, 1, 0] 1)) (by kernel_rfl) (by omega) (by omega) (by omega) hM
        rw [rep_nums] at hM'
        refine RunF.does hD ?_
        replace hM := hM'; clear hD hM'
        generalize w.heap.size = g6 at hM ⊢
        refine RunF.go 6 [8, 9, 25] (k' := (pin Go.Proofs.Try.f18 [1, 1, 1, 1, 1, 0, 0] 1)) (L' := [(8, .slice Ao1_1 a0.2.length co1_1), (9, .slice (some ⟨g6, 0, none⟩) 0 8), (25, .slice Ap1 a1.length cp1)]) (w' := W5) (by kernel_rfl) ?_
        obtain ⟨t10, ht10, h⟩ := Option.bind_eq_some_iff.mp h
        refine RunF.call (d := some 26) (g := 19) (args := #[.slice Ap1 a1.length cp1]) (k2 := (pin Go.Proofs.Try.f18 [1, 1, 1, 1, 1, 0, 0] 2)) (by kernel_rfl) (idea_load.calls k Ap1 a1.length cp1 a1 t10 _ (hr1.mono hM.below) ht10) ?_
        rintro _ W9 ⟨A11, n12, c13, rfl, hM_⟩
        obtain rfl : t10.length = n12 := by have h_ := (hM_.rd 0 rfl).1; simpa [nums_length, bools_length, strs_length] using h_
        replace hM := hM.call hM_
        clear hM_ ht10
        refine RunF.go 1 [9, 26, 27] (k' := (pin Go.Proofs.Try.f18 [1, 1, 1, 1, 1, 0, 0] 3)) (L' := [(9, .slice (some ⟨g6, 0, none⟩) 0 8), (26, .slice A11 t10.length c13), (27, .slice Ao1_1 a0.2.length co1_1)]) (w' := W9) (by kernel_rfl) ?_
        obtain ⟨t16, ht16, h⟩ := Option.bind_eq_some_iff.mp h
        refine RunF.call (d := some 28) (g := 25) (args := #[.slice A11 t10.length c13, .slice Ao1_1 a0.2.length co1_1]) (k2 := (pin Go.Proofs.Try.f18 [1, 1, 1, 1, 1, 0, 0] 4)) (by kernel_rfl) (idea_turn.calls k A11 t10.length c13 t10 Ao1_1 a0.2.length co1_1 a0.2 t16 _ (hM.rd 0 rfl) (ho1_1 _ (hZp0 _ hM.kept)) ht16) ?_
        rintro _ W15 ⟨A17, n18, c19, rfl, hM_⟩
        obtain rfl : t16.length = n18 := by have h_ := (hM_.rd 0 rfl).1; simpa [nums_length, bools_length, strs_length] using h_
        replace hM := hM.call hM_
        clear hM_ ht16
        refine RunF.go 5 [9, 28, 29, 30] (k' := (pl Go.Proofs.Try.f18 [1, 1, 1, 1, 1, 0, 1, 0, 0])) (L' := [(9, .slice (some ⟨g6, 0, none⟩) 0 8), (28, .slice A17 t16.length c19), (29, .int .i64 (t16.length : Int)), (30, .int .i64 0)]) (w' := W15) (by kernel_rfl) ?_
        have l0 : ∀ (k_ : Nat), k_ ≤ k → ∀ (A9_0 : Option Addr) (c9_0 : Nat) (x9_0 : List Int) (x30_0 : Int) (W : World) (hM : Mem w W [⟨.slice A9_0 x9_0.length c9_0, 5, 1, nums .u8 x9_0⟩, ⟨.slice A17 t16.length c19, 3, 1, nums .i64 t16⟩]) (h : idea_Idea_Block.l0 k_ t16 x9_0 x30_0 = some r), RunF Go.Proofs.Try.prog (Ret fun v w' => ∃ A0' n0' c0', v = .tuple #[.slice A0' n0' c0', .int .i64 r.2] ∧ Mem w w' [⟨.slice A0' n0' c0', 5, 1, nums .u8 r.1⟩]) 18 (pl Go.Proofs.Try.f18 [1, 1, 1, 1, 1, 0, 1, 0, 0]) 44 [(9, .slice A9_0 x9_0.length c9_0), (28, .slice A17 t16.length c19), (29, .int .i64 (t16.length : Int)), (30, .int .i64 x30_0)] W := by
          intro k_
          induction k_ using Nat.strongRecOn with
          | _ k_ ih0 =>
            intro hk A9_0 c9_0 x9_0 x30_0 W hM h
            cases k_ with
            | zero => exact absurd h (by simp [idea_Idea_Block.l0])
            | succ k =>
              simp only [idea_Idea_Block.l0] at h
              replace ih0 : ∀ m, m ≤ k → _ := fun m hm => ih0 m (by omega) (by omega)
              refine RunF.go 5 [9, 28, 29, 30, 31] (k' := (pl Go.Proofs.Try.f18 [1, 1, 1, 1, 1, 0, 1, 0, 0, 1, 0])) (L' := [(9, .slice A9_0 x9_0.length c9_0), (28, .slice A17 t16.length c19), (29, .int .i64 (t16.length : Int)), (30, .int .i64 x30_0), (31, .bool (decide (x30_0 < (t16.length : Int))))]) (w' := W) (by kernel_rfl) ?_
              rcases two (decide (x30_0 < (t16.length : Int))) with c22 | c22
              · replace h := of_true h c22
                refine RunF.know 31 (b := true) (by kernel_rfl) c22 ?_
                refine RunF.go 6 [9, 28, 29, 30] (k' := (pin Go.Proofs.Try.f18 [1, 1, 1, 1, 1, 0, 1, 0, 0, 1, 1, 0, 0, 0] 0)) (L' := [(9, .slice A9_0 x9_0.length c9_0), (28, .slice A17 t16.length c19), (29, .int .i64 (t16.length : Int)), (30, .int .i64 x30_0)]) (w' := W) (by kernel_rfl) ?_
                rcases two (decide (0 ≤ x30_0)) with c24 | c24
                · replace h := of_true h c24
                  rcases two (decide (x30_0 < (t16.length : Int))) with c25 | c25
                  · replace h := of_true h c25
                    obtain ⟨q23, hAq23, hcq23, hfq23, hlq23⟩ := hM.num_at 1 rfl (i := x30_0) (of_decide_eq_true c24) (by have h_ := of_decide_eq_true c25; omega)
                    refine RunF.y (idx_own (d := some 32) (A := A17) (m := t16.length) (i := x30_0) (k2 := (pin Go.Proofs.Try.f18 [1, 1, 1, 1, 1, 0, 1, 0, 0, 1, 1, 0, 0, 0] 1)) (by kernel_rfl) (of_decide_eq_true c24) (by have h_ := of_decide_eq_true c25; omega) hAq23) trivial ?_
                    refine RunF.y (ld_y (d := some 33) (p := ⟨q23, (x30_0 : Int).toNat, none⟩) (k2 := (pin Go.Proofs.Try.f18 [1, 1, 1, 1, 1, 0, 1, 0, 0, 1, 1, 0, 0, 0] 2)) (.int .i64 (rd t16 x30_0)) (by kernel_rfl)) hcq23 ?_
                    refine RunF.go 9 [28, 29, 30, 34, 37, 39] (k' := (pin Go.Proofs.Try.f18 [1, 1, 1, 1, 1, 0, 1, 0, 0, 1, 1, 0, 0, 1] 6)) (L' := [(28, .slice A17 t16.length c19), (29, .int .i64 (t16.length : Int)), (30, .int .i64 x30_0), (34, .slice A9_0 x9_0.length c9_0), (37, .int .u8 (U8 (shr (rd t16 x30_0) 8))), (39, .int .u8 (U8 (rd t16 x30_0)))]) (w' := W) (by kernel_rfl) ?_
                    refine RunF.new 5 1 2 (nums .u8 [U8 (shr (rd t16 x30_0) 8), U8 (rd t16 x30_0)]) (d := some 40) (k2 := (pin Go.Proofs.Try.f18 [1, 1, 1, 1, 1, 0, 1, 0, 0, 1, 1, 0, 0, 1] 7)) hM (by simp [nums, bools, strs]) (by kernel_rfl) (by kernel_rfl) ?_
                    replace hM := hM
                    intro g26 W27 hM
                    rcases two (decide (x9_0.length + ([U8 (shr (rd t16 x30_0) 8), U8 (rd t16 x30_0)] : List Int).length ≤ 1000000000)) with c33 | c33
                    · replace h := of_true h c33
                      have h_ := of_decide_eq_true c33
                      obtain ⟨A29, n30, c31, W32, hD, hM', hS_⟩ := app_does (P := Go.Proofs.Try.prog) (n := 44) (k := (pin Go.Proofs.Try.f18 [1, 1, 1, 1, 1, 0, 1, 0, 0, 1, 1, 0, 0, 1] 7)) (L := (upd [(28, .slice A17 t16.length c19), (29, .int .i64 (t16.length : Int)), (30, .int .i64 x30_0), (34, .slice A9_0 x9_0.length c9_0), (37, .int .u8 (U8 (shr (rd t16 x30_0) 8))), (39, .int .u8 (U8 (rd t16 x30_0)))] (some 40) (.slice (some ⟨g26, 0, none⟩) 2 2))) (d := some 41) (e := 5) (A := A9_0) (m := x9_0.length) (c := c9_0) (A2 := (some ⟨g26, 0, none⟩)) (m2 := 2) (c2 := 2) (cs := nums .u8 x9_0) (ys := nums .u8 ([U8 (shr (rd t16 x30_0) 8), U8 (rd t16 x30_0)] : List Int)) (k2 := (pin Go.Proofs.Try.f18 [1, 1, 1, 1, 1, 0, 1, 0, 0, 1, 1, 0, 0, 1] 8)) [⟨.slice (some ⟨g26, 0, none⟩) 2 2, 5, 1, nums .u8 [U8 (shr (rd t16 x30_0) 8), U8 (rd t16 x30_0)]⟩] [⟨.slice A17 t16.length c19, 3, 1, nums .i64 t16⟩] (by kernel_rfl) (hM.pick [0, 1, 2] rfl rfl) (hM.rd 0 rfl) (one_nums _ _) (by omega)
                      rw [nums_append] at hM'
                      replace hM := hM'; clear h_ hM'
                      obtain rfl : (x9_0 ++ ([U8 (shr (rd t16 x30_0) 8), U8 (rd t16 x30_0)] : List Int)).length = n30 := by have h_ := (hM.rd 1 rfl).1; simpa only [nums_length, bools_length, strs_length] using h_
                      refine RunF.does hD ?_
                      clear hD hS_
                      refine RunF.go 8 [9, 28, 29, 30] (k' := (pl Go.Proofs.Try.f18 [1, 1, 1, 1, 1, 0, 1, 0, 0])) (L' := [(9, .slice A29 ((x9_0 ++ ([U8 (shr (rd t16 x30_0) 8), U8 (rd t16 x30_0)] : List Int)).length) c31), (28, .slice A17 t16.length c19), (29, .int .i64 (t16.length : Int)), (30, .int .i64 (I64 (x30_0 + 1)))]) (w' := W32) (by kernel_rfl) ?_
                      exact ih0 k (by omega) A29 c31 (x9_0 ++ ([U8 (shr (rd t16 x30_0) 8), U8 (rd t16 x30_0)] : List Int)) (I64 (x30_0 + 1)) _ (hM.pick [1, 2] rfl rfl) h
                    · replace h := of_false h c33
                      cases h
                  · replace h := of_false h c25
                    cases h
                · replace h := of_false h c24
                  cases h
              · replace h := of_false h c22
                refine RunF.know 31 (b := false) (by kernel_rfl) c22 ?_
                refine RunF.go 8 [6, 7] (k' := (pl Go.Proofs.Try.f18 [1, 1, 1, 1, 1, 1, 1])) (L' := [(6, .slice A9_0 x9_0.length c9_0), (7, .int .i64 0)]) (w' := W) (by kernel_rfl) ?_
                obtain rfl := Option.some.inj h
                exact RunF.ret2 6 7 (.slice A9_0 x9_0.length c9_0) (.int .i64 0) (fn := Go.Proofs.Try.f18) Go.Proofs.Try.func18 (by kernel_rfl) (by kernel_rfl) (by kernel_rfl) (by kernel_rfl) ⟨_, rfl, A9_0, x9_0.length, c9_0, rfl, (hM.pick [0] rfl rfl)⟩
        exact l0 k (Nat.le_refl _) (some ⟨g6, 0, none⟩) 8 (List.replicate 0 (0 : Int)) 0 _ (hM.pick [2, 0] rfl rfl) h
      · replace h := of_false h c7
        cases h
    · replace h := of_false h c4
      refine RunF.know 19 (b := false) (by kernel_rfl) c4 ?_
      refine RunF.go 4 [1, 8] (k' := (pin Go.Proofs.Try.f18 [1, 1, 1, 1, 0] 0)) (L' := [(1, .slice Ap1 a1.length cp1), (8, .slice Ao1_0 a0.1.length co1_0)]) (w' := w) (by kernel_rfl) ?_
      rcases two (decide (0 ≤ 8)) with c37 | c37
      · replace h := of_true h c37
        have := of_decide_eq_true c37
        obtain ⟨W35, hD, hM', hB_⟩ := mk_does (P := Go.Proofs.Try.prog) (n := 44) (k := (pin Go.Proofs.Try.f18 [1, 1, 1, 1, 0] 0)) (L := [(1, .slice Ap1 a1.length cp1), (8, .slice Ao1_0 a0.1.length co1_0)]) (d := some 24) (e := 5) (z := .int .u8 0) (l := 0) (c := 8) (k2 := (pin Go.Proofs.Try.f18 [1, 1, 1, 1, 0] 1)) (by kernel_rfl) (by omega) (by omega) (by omega) hM
        rw [rep_nums] at hM'
        refine RunF.does hD ?_
        replace hM := hM'; clear hD hM'
        generalize w.heap.size = g36 at hM ⊢
        refine RunF.go 6 [8, 9, 25] (k' := (pin Go.Proofs.Try.f18 [1, 1, 1, 1, 1, 0, 0] 1)) (L' := [(8, .slice Ao1_0 a0.1.length co1_0), (9, .slice (some ⟨g36, 0, none⟩) 0 8), (25, .slice Ap1 a1.length cp1)]) (w' := W35) (by kernel_rfl) ?_
        obtain ⟨t40, ht40, h⟩ := Option.bind_eq_some_iff.mp h
        refine RunF.call (d := some 26) (g := 19) (args := #[.slice Ap1 a1.length cp1]) (k2 := (pin Go.Proofs.Try.f18 [1, 1, 1, 1, 1, 0, 0] 2)) (by kernel_rfl) (idea_load.calls k Ap1 a1.length cp1 a1 t40 _ (hr1.mono hM.below) ht40) ?_
        rintro _ W39 ⟨A41, n42, c43, rfl, hM_⟩
        obtain rfl : t40.length = n42 := by have h_ := (hM_.rd 0 rfl).1; simpa [nums_length, bools_length, strs_length] using h_
        replace hM := hM.call hM_
        clear hM_ ht40
        refine RunF.go 1 [9, 26, 27] (k' := (pin Go.Proofs.Try.f18 [1, 1, 1, 1, 1, 0, 0] 3)) (L' := [(9, .slice (some ⟨g36, 0, none⟩) 0 8), (26, .slice A41 t40.length c43), (27, .slice Ao1_0 a0.1.length co1_0)]) (w' := W39) (by kernel_rfl) ?_
        obtain ⟨t46, ht46, h⟩ := Option.bind_eq_some_iff.mp h
        refine RunF.call (d := some 28) (g := 25) (args := #[.slice A41 t40.length c43, .slice Ao1_0 a0.1.length co1_0]) (k2 := (pin Go.Proofs.Try.f18 [1, 1, 1, 1, 1, 0, 0] 4)) (by kernel_rfl) (idea_turn.calls k A41 t40.length c43 t40 Ao1_0 a0.1.length co1_0 a0.1 t46 _ (hM.rd 0 rfl) (ho1_0 _ (hZp0 _ hM.kept)) ht46) ?_
        rintro _ W45 ⟨A47, n48, c49, rfl, hM_⟩
        obtain rfl : t46.length = n48 := by have h_ := (hM_.rd 0 rfl).1; simpa [nums_length, bools_length, strs_length] using h_
        replace hM := hM.call hM_
        clear hM_ ht46
        refine RunF.go 5 [9, 28, 29, 30] (k' := (pl Go.Proofs.Try.f18 [1, 1, 1, 1, 1, 0, 1, 0, 0])) (L' := [(9, .slice (some ⟨g36, 0, none⟩) 0 8), (28, .slice A47 t46.length c49), (29, .int .i64 (t46.length : Int)), (30, .int .i64 0)]) (w' := W45) (by kernel_rfl) ?_
        have l1 : ∀ (k_ : Nat), k_ ≤ k → ∀ (A9_1 : Option Addr) (c9_1 : Nat) (x9_1 : List Int) (x30_1 : Int) (W : World) (hM : Mem w W [⟨.slice A9_1 x9_1.length c9_1, 5, 1, nums .u8 x9_1⟩, ⟨.slice A47 t46.length c49, 3, 1, nums .i64 t46⟩]) (h : idea_Idea_Block.l1 k_ t46 x9_1 x30_1 = some r), RunF Go.Proofs.Try.prog (Ret fun v w' => ∃ A0' n0' c0', v = .tuple #[.slice A0' n0' c0', .int .i64 r.2] ∧ Mem w w' [⟨.slice A0' n0' c0', 5, 1, nums .u8 r.1⟩]) 18 (pl Go.Proofs.Try.f18 [1, 1, 1, 1, 1, 0, 1, 0, 0]) 44 [(9, .slice A9_1 x9_1.length c9_1), (28, .slice A47 t46.length c49), (29, .int .i64 (t46.length : Int)), (30, .int .i64 x30_1)] W := by
          intro k_
          induction k_ using Nat.strongRecOn with
          | _ k_ ih1 =>
            intro hk A9_1 c9_1 x9_1 x30_1 W hM h
            cases k_ with
            | zero => exact absurd h (by simp [idea_Idea_Block.l1])
            | succ k =>
              simp only [idea_Idea_Block.l1] at h
              replace ih1 : ∀ m, m ≤ k → _ := fun m hm => ih1 m (by omega) (by omega)
              refine RunF.go 5 [9, 28, 29, 30, 31] (k' := (pl Go.Proofs.Try.f18 [1, 1, 1, 1, 1, 0, 1, 0, 0, 1, 0])) (L' := [(9, .slice A9_1 x9_1.length c9_1), (28, .slice A47 t46.length c49), (29, .int .i64 (t46.length : Int)), (30, .int .i64 x30_1), (31, .bool (decide (x30_1 < (t46.length : Int))))]) (w' := W) (by kernel_rfl) ?_
              rcases two (decide (x30_1 < (t46.length : Int))) with c52 | c52
              · replace h := of_true h c52
                refine RunF.know 31 (b := true) (by kernel_rfl) c52 ?_
                refine RunF.go 6 [9, 28, 29, 30] (k' := (pin Go.Proofs.Try.f18 [1, 1, 1, 1, 1, 0, 1, 0, 0, 1, 1, 0, 0, 0] 0)) (L' := [(9, .slice A9_1 x9_1.length c9_1), (28, .slice A47 t46.length c49), (29, .int .i64 (t46.length : Int)), (30, .int .i64 x30_1)]) (w' := W) (by kernel_rfl) ?_
                rcases two (decide (0 ≤ x30_1)) with c54 | c54
                · replace h := of_true h c54
                  rcases two (decide (x30_1 < (t46.length : Int))) with c55 | c55
                  · replace h := of_true h c55
                    obtain ⟨q53, hAq53, hcq53, hfq53, hlq53⟩ := hM.num_at 1 rfl (i := x30_1) (of_decide_eq_true c54) (by have h_ := of_decide_eq_true c55; omega)
                    refine RunF.y (idx_own (d := some 32) (A := A47) (m := t46.length) (i := x30_1) (k2 := (pin Go.Proofs.Try.f18 [1, 1, 1, 1, 1, 0, 1, 0, 0, 1, 1, 0, 0, 0] 1)) (by kernel_rfl) (of_decide_eq_true c54) (by have h_ := of_decide_eq_true c55; omega) hAq53) trivial ?_
                    refine RunF.y (ld_y (d := some 33) (p := ⟨q53, (x30_1 : Int).toNat, none⟩) (k2 := (pin Go.Proofs.Try.f18 [1, 1, 1, 1, 1, 0, 1, 0, 0, 1, 1, 0, 0, 0] 2)) (.int .i64 (rd t46 x30_1)) (by kernel_rfl)) hcq53 ?_
                    refine RunF.go 9 [28, 29, 30, 34, 37, 39] (k' := (pin Go.Proofs.Try.f18 [1, 1, 1, 1, 1, 0, 1, 0, 0, 1, 1, 0, 0, 1] 6)) (L' := [(28, .slice A47 t46.length c49), (29, .int .i64 (t46.length : Int)), (30, .int .i64 x30_1), (34, .slice A9_1 x9_1.length c9_1), (37, .int .u8 (U8 (shr (rd t46 x30_1) 8))), (39, .int .u8 (U8 (rd t46 x30_1)))]) (w' := W) (by kernel_rfl) ?_
                    refine RunF.new 5 1 2 (nums .u8 [U8 (shr (rd t46 x30_1) 8), U8 (rd t46 x30_1)]) (d := some 40) (k2 := (pin Go.Proofs.Try.f18 [1, 1, 1, 1, 1, 0, 1, 0, 0, 1, 1, 0, 0, 1] 7)) hM (by simp [nums, bools, strs]) (by kernel_rfl) (by kernel_rfl) ?_
                    replace hM := hM
                    intro g56 W57 hM
                    rcases two (decide (x9_1.length + ([U8 (shr (rd t46 x30_1) 8), U8 (rd t46 x30_1)] : List Int).length ≤ 1000000000)) with c63 | c63
                    · replace h := of_true h c63
                      have h_ := of_decide_eq_true c63
                      obtain ⟨A59, n60, c61, W62, hD, hM', hS_⟩ := app_does (P := Go.Proofs.Try.prog) (n := 44) (k := (pin Go.Proofs.Try.f18 [1, 1, 1, 1, 1, 0, 1, 0, 0, 1, 1, 0, 0, 1] 7)) (L := (upd [(28, .slice A47 t46.length c49), (29, .int .i64 (t46.length : Int)), (30, .int .i64 x30_1), (34, .slice A9_1 x9_1.length c9_1), (37, .int .u8 (U8 (shr (rd t46 x30_1) 8))), (39, .int .u8 (U8 (rd t46 x30_1)))] (some 40) (.slice (some ⟨g56, 0, none⟩) 2 2))) (d := some 41) (e := 5) (A := A9_1) (m := x9_1.length) (c := c9_1) (A2 := (some ⟨g56, 0, none⟩)) (m2 := 2) (c2 := 2) (cs := nums .u8 x9_1) (ys := nums .u8 ([U8 (shr (rd t46 x30_1) 8), U8 (rd t46 x30_1)] : List Int)) (k2 := (pin Go.Proofs.Try.f18 [1, 1, 1, 1, 1, 0, 1, 0, 0, 1, 1, 0, 0, 1] 8)) [⟨.slice (some ⟨g56, 0, none⟩) 2 2, 5, 1, nums .u8 [U8 (shr (rd t46 x30_1) 8), U8 (rd t46 x30_1)]⟩] [⟨.slice A47 t46.length c49, 3, 1, nums .i64 t46⟩] (by kernel_rfl) (hM.pick [0, 1, 2] rfl rfl) (hM.rd 0 rfl) (one_nums _ _) (by omega)
                      rw [nums_append] at hM'
                      replace hM := hM'; clear h_ hM'
                      obtain rfl : (x9_1 ++ ([U8 (shr (rd t46 x30_1) 8), U8 (rd t46 x30_1)] : List Int)).length = n60 := by have h_ := (hM.rd 1 rfl).1; simpa only [nums_length, bools_length, strs_length] using h_
                      refine RunF.does hD ?_
                      clear hD hS_
                      refine RunF.go 8 [9, 28, 29, 30] (k' := (pl Go.Proofs.Try.f18 [1, 1, 1, 1, 1, 0, 1, 0, 0])) (L' := [(9, .slice A59 ((x9_1 ++ ([U8 (shr (rd t46 x30_1) 8), U8 (rd t46 x30_1)] : List Int)).length) c61), (28, .slice A47 t46.length c49), (29, .int .i64 (t46.length : Int)), (30, .int .i64 (I64 (x30_1 + 1)))]) (w' := W62) (by kernel_rfl) ?_
                      exact ih1 k (by omega) A59 c61 (x9_1 ++ ([U8 (shr (rd t46 x30_1) 8), U8 (rd t46 x30_1)] : List Int)) (I64 (x30_1 + 1)) _ (hM.pick [1, 2] rfl rfl) h
                    · replace h := of_false h c63
                      cases h
                  · replace h := of_false h c55
                    cases h
                · replace h := of_false h c54
                  cases h
              · replace h := of_false h c52
                refine RunF.know 31 (b := false) (by kernel_rfl) c52 ?_
                refine RunF.go 8 [6, 7] (k' := (pl Go.Proofs.Try.f18 [1, 1, 1, 1, 1, 1, 1])) (L' := [(6, .slice A9_1 x9_1.length c9_1), (7, .int .i64 0)]) (w' := W) (by kernel_rfl) ?_
                obtain rfl := Option.some.inj h
                exact RunF.ret2 6 7 (.slice A9_1 x9_1.length c9_1) (.int .i64 0) (fn := Go.Proofs.Try.f18) Go.Proofs.Try.func18 (by kernel_rfl) (by kernel_rfl) (by kernel_rfl) (by kernel_rfl) ⟨_, rfl, A9_1, x9_1.length, c9_1, rfl, (hM.pick [0] rfl rfl)⟩
        exact l1 k (Nat.le_refl _) (some ⟨g36, 0, none⟩) 8 (List.replicate 0 (0 : Int)) 0 _ (hM.pick [2, 0] rfl rfl) h
      · replace h := of_false h c37
        cases h

/-! ### scrim/scrimlaw7.known: function 8 -/
def scrimlaw7_known.f (k : Nat)  : Option (Bool) := (idea_New.f k ([] : List Int)).bind fun t2 => ((idea_New.f k (List.replicate 16 (0 : Int))).bind fun t7 => (if (t2.2 != 4) = true then (some false) else (if (t7.2 != 0) = true then (some false) else (if t7.1.isSome = true then ((t7.1).bind fun s11 => ((idea_Idea_Block.f k s11 (List.replicate 8 (0 : Int)) false).bind fun t18 => ((idea_Idea_Block.f k s11 t18.1 true).bind fun t24 => (if (t18.2 == 0) = true then (if (t24.2 == 0) = true then (if ((t18.1.length : Int) == 8) = true then (if (!((strOf t18.1).toList == (strOf t24.1).toList)) = true then (some ((strOf t24.1).toList == (strOf (List.replicate 8 (0 : Int))).toList)) else (some false)) else (some false)) else (some false)) else (some false))))) else (some false)))))
set_option maxRecDepth 100000 in
set_option maxHeartbeats 8000000 in
theorem scrimlaw7_known.calls (k : Nat)  (r : Bool) (w : World) (h : scrimlaw7_known.f k = some r) :
    Calls Go.Proofs.Try.prog 8 #[] w (Ret fun v w' => v = .bool r ∧ Mem w w' []) := by
  unfold scrimlaw7_known.f at h
  refine calls_of [] (fn := Go.Proofs.Try.f8) Go.Proofs.Try.func8 (by kernel_rfl) (by kernel_rfl) ?_
  have hM := Mem.refl w
  refine RunF.go 6 [] (k' := (pin Go.Proofs.Try.f8 [1, 0] 0)) (L' := []) (w' := w) (by kernel_rfl) ?_
  obtain ⟨t2, ht2, h⟩ := Option.bind_eq_some_iff.mp h
  refine RunF.call (d := some 10) (g := 17) (args := #[.slice none 0 0]) (k2 := (pin Go.Proofs.Try.f8 [1, 0] 1)) (by kernel_rfl) (idea_New.calls k none 0 0 ([] : List Int) t2 _ (Rd.nil _ .u8) ht2) ?_
  rintro _ W1 ⟨vt2_0, Ft2_0, rfl, hRt2_0, hM_⟩
  replace hM : Mem w W1 (Gs [] [Ft2_0]) := (Mem.callG (hM.as (H' := Gs [] []) rfl) hM_).as rfl
  clear hM_ ht2
  refine RunF.go 8 [2] (k' := (pin Go.Proofs.Try.f8 [1, 1, 0] 0)) (L' := [(2, .int .i64 t2.2)]) (w' := W1) (by kernel_rfl) ?_
  obtain ⟨W3, hD, hM', hB_⟩ := mk_does (P := Go.Proofs.Try.prog) (n := 65) (k := (pin Go.Proofs.Try.f8 [1, 1, 0] 0)) (L := [(2, .int .i64 t2.2)]) (d := some 14) (e := 5) (z := .int .u8 0) (l := 16) (c := 16) (k2 := (pin Go.Proofs.Try.f8 [1, 1, 0] 1)) (by kernel_rfl) (by omega) (by omega) (by omega) hM
  rw [rep_nums] at hM'
  refine RunF.does hD ?_
  replace hM := hM'; clear hD hM'
  generalize W1.heap.size = g4 at hM ⊢
  obtain ⟨t7, ht7, h⟩ := Option.bind_eq_some_iff.mp h
  refine RunF.call (d := some 15) (g := 17) (args := #[.slice (some ⟨g4, 0, none⟩) 16 16]) (k2 := (pin Go.Proofs.Try.f8 [1, 1, 0] 2)) (by kernel_rfl) (idea_New.calls k (some ⟨g4, 0, none⟩) 16 16 (List.replicate 16 (0 : Int)) t7 _ (hM.rd 0 rfl) ht7) ?_
  rintro _ W6 ⟨vt7_0, Ft7_0, rfl, hRt7_0, hM_⟩
  replace hM : Mem w W6 (Gs [⟨.slice (some ⟨g4, 0, none⟩) 16 16, 5, 1, nums .u8 (List.replicate 16 (0 : Int))⟩] [Ft7_0, Ft2_0]) := (Mem.callG (hM.as (H' := Gs [⟨.slice (some ⟨g4, 0, none⟩) 16 16, 5, 1, nums .u8 (List.replicate 16 (0 : Int))⟩] [Ft2_0]) rfl) hM_).as rfl
  clear hM_ ht7
  refine RunF.go 12 [3, 4, 20] (k' := (pin Go.Proofs.Try.f8 [1, 1, 1, 0, 0] 3)) (L' := [(3, vt7_0), (4, .int .i64 t7.2), (20, .bool (t2.2 != 4))]) (w' := W6) (by kernel_rfl) ?_
  rcases two ((t2.2 != 4)) with c8 | c8
  · replace h := of_true h c8
    refine RunF.know 20 (b := true) (by kernel_rfl) c8 ?_
    refine RunF.go 13 [0] (k' := (pl Go.Proofs.Try.f8 [1, 1, 1, 0, 1, 0, 1])) (L' := [(0, .bool false)]) (w' := W6) (by kernel_rfl) ?_
    obtain rfl := Option.some.inj h
    exact RunF.ret1 0 (.bool false) (fn := Go.Proofs.Try.f8) Go.Proofs.Try.func8 (by kernel_rfl) (by kernel_rfl) (by kernel_rfl) ⟨_, rfl, rfl, (Mem.pickF (hM.as (H' := Gs [⟨.slice (some ⟨g4, 0, none⟩) 16 16, 5, 1, nums .u8 (List.replicate 16 (0 : Int))⟩] [Ft7_0, Ft2_0]) rfl) [] rfl rfl rfl).ungrp⟩
  · replace h := of_false h c8
    refine RunF.know 20 (b := false) (by kernel_rfl) c8 ?_
    refine RunF.go 4 [3, 24] (k' := (pin Go.Proofs.Try.f8 [1, 1, 1, 0, 0] 7)) (L' := [(3, vt7_0), (24, .bool (t7.2 != 0))]) (w' := W6) (by kernel_rfl) ?_
    rcases two ((t7.2 != 0)) with c9 | c9
    · replace h := of_true h c9
      refine RunF.know 24 (b := true) (by kernel_rfl) c9 ?_
      refine RunF.go 9 [0] (k' := (pl Go.Proofs.Try.f8 [1, 1, 1, 0, 1, 0, 1])) (L' := [(0, .bool false)]) (w' := W6) (by kernel_rfl) ?_
      obtain rfl := Option.some.inj h
      exact RunF.ret1 0 (.bool false) (fn := Go.Proofs.Try.f8) Go.Proofs.Try.func8 (by kernel_rfl) (by kernel_rfl) (by kernel_rfl) ⟨_, rfl, rfl, (Mem.pickF (hM.as (H' := Gs [⟨.slice (some ⟨g4, 0, none⟩) 16 16, 5, 1, nums .u8 (List.replicate 16 (0 : Int))⟩] [Ft7_0, Ft2_0]) rfl) [] rfl rfl rfl).ungrp⟩
    · replace h := of_false h c9
      refine RunF.know 24 (b := false) (by kernel_rfl) c9 ?_
      refine RunF.go 1 [3, 24, 25] (k' := (pin Go.Proofs.Try.f8 [1, 1, 1, 0, 0] 8)) (L' := [(3, vt7_0), (24, .bool false), (25, vt7_0)]) (w' := W6) (by kernel_rfl) ?_
      rcases two (t7.1.isSome) with c10 | c10
      · replace h := of_true h c10
        obtain ⟨s11, hx_, h⟩ := Option.bind_eq_some_iff.mp h
        have hps11 := rOpt.some hRt7_0 hx_
        obtain ⟨g12, _, rfl, hco13, _, _, rfl, ⟨Ao13_0, co13_0, rfl, ho13_0⟩, ⟨Ao13_1, co13_1, rfl, ho13_1⟩⟩ := id hps11
        refine RunF.go 8 [3, 29] (k' := (pin Go.Proofs.Try.f8 [1, 1, 1, 1, 0] 1)) (L' := [(3, .pointer (some ⟨g12, 0, none⟩)), (29, .pointer (some ⟨g12, 0, none⟩))]) (w' := W6) (by kernel_rfl) ?_
        obtain ⟨W14, hD, hM', hB_⟩ := mk_does (P := Go.Proofs.Try.prog) (n := 65) (k := (pin Go.Proofs.Try.f8 [1, 1, 1, 1, 0] 1)) (L := [(3, .pointer (some ⟨g12, 0, none⟩)), (29, .pointer (some ⟨g12, 0, none⟩))]) (d := some 30) (e := 5) (z := .int .u8 0) (l := 8) (c := 8) (k2 := (pin Go.Proofs.Try.f8 [1, 1, 1, 1, 0] 2)) (by kernel_rfl) (by omega) (by omega) (by omega) hM
        rw [rep_nums] at hM'
        refine RunF.does hD ?_
        replace hM := hM'; clear hD hM'
        generalize W6.heap.size = g15 at hM ⊢
        obtain ⟨t18, ht18, h⟩ := Option.bind_eq_some_iff.mp h
        refine RunF.call (d := some 31) (g := 18) (args := #[.pointer (some ⟨g12, 0, none⟩), .slice (some ⟨g15, 0, none⟩) 8 8, .bool false]) (k2 := (pin Go.Proofs.Try.f8 [1, 1, 1, 1, 0] 3)) (by kernel_rfl) (idea_Idea_Block.calls k (.pointer (some ⟨g12, 0, none⟩)) (Oks Ft7_0) s11 (some ⟨g15, 0, none⟩) 8 8 (List.replicate 8 (0 : Int)) false t18 _ (hM.rd 0 rfl) hps11 (fun _ hb_ => ((Mem.oks (hM.as (H' := Gs [⟨.slice (some ⟨g15, 0, none⟩) 8 8, 5, 1, nums .u8 (List.replicate 8 (0 : Int))⟩, ⟨.slice (some ⟨g4, 0, none⟩) 16 16, 5, 1, nums .u8 (List.replicate 16 (0 : Int))⟩] [Ft7_0, Ft2_0]) rfl) 0 rfl).kept hb_)) ht18) ?_
        rintro _ W17 ⟨A19, n20, c21, rfl, hM_⟩
        obtain rfl : t18.1.length = n20 := by have h_ := (hM_.rd 0 rfl).1; simpa [nums_length, bools_length, strs_length] using h_
        replace hM : Mem w W17 (Gs [⟨.slice A19 t18.1.length c21, 5, 1, nums .u8 t18.1⟩, ⟨.slice (some ⟨g15, 0, none⟩) 8 8, 5, 1, nums .u8 (List.replicate 8 (0 : Int))⟩, ⟨.slice (some ⟨g4, 0, none⟩) 16 16, 5, 1, nums .u8 (List.replicate 16 (0 : Int))⟩] [Ft7_0, Ft2_0]) := (Mem.callG (hM.as (H' := Gs [⟨.slice (some ⟨g15, 0, none⟩) 8 8, 5, 1, nums .u8 (List.replicate 8 (0 : Int))⟩, ⟨.slice (some ⟨g4, 0, none⟩) 16 16, 5, 1, nums .u8 (List.replicate 16 (0 : Int))⟩] [Ft7_0, Ft2_0]) rfl) hM_.grp).as rfl
        clear hM_ ht18
        refine RunF.go 10 [5, 6, 35, 36] (k' := (pin Go.Proofs.Try.f8 [1, 1, 1, 1, 1, 0] 2)) (L' := [(5, .slice A19 t18.1.length c21), (6, .int .i64 t18.2), (35, .pointer (some ⟨g12, 0, none⟩)), (36, .slice A19 t18.1.length c21)]) (w' := W17) (by kernel_rfl) ?_
        obtain ⟨t24, ht24, h⟩ := Option.bind_eq_some_iff.mp h
        refine RunF.call (d := some 37) (g := 18) (args := #[.pointer (some ⟨g12, 0, none⟩), .slice A19 t18.1.length c21, .bool true]) (k2 := (pin Go.Proofs.Try.f8 [1, 1, 1, 1, 1, 0] 3)) (by kernel_rfl) (idea_Idea_Block.calls k (.pointer (some ⟨g12, 0, none⟩)) (Oks Ft7_0) s11 A19 t18.1.length c21 t18.1 true t24 _ (hM.rd 0 rfl) hps11 (fun _ hb_ => ((Mem.oks (hM.as (H' := Gs [⟨.slice A19 t18.1.length c21, 5, 1, nums .u8 t18.1⟩, ⟨.slice (some ⟨g15, 0, none⟩) 8 8, 5, 1, nums .u8 (List.replicate 8 (0 : Int))⟩, ⟨.slice (some ⟨g4, 0, none⟩) 16 16, 5, 1, nums .u8 (List.replicate 16 (0 : Int))⟩] [Ft7_0, Ft2_0]) rfl) 0 rfl).kept hb_)) ht24) ?_
        rintro _ W23 ⟨A25, n26, c27, rfl, hM_⟩
        obtain rfl : t24.1.length = n26 := by have h_ := (hM_.rd 0 rfl).1; simpa [nums_length, bools_length, strs_length] using h_
        replace hM : Mem w W23 (Gs [⟨.slice A25 t24.1.length c27, 5, 1, nums .u8 t24.1⟩, ⟨.slice A19 t18.1.length c21, 5, 1, nums .u8 t18.1⟩, ⟨.slice (some ⟨g15, 0, none⟩) 8 8, 5, 1, nums .u8 (List.replicate 8 (0 : Int))⟩, ⟨.slice (some ⟨g4, 0, none⟩) 16 16, 5, 1, nums .u8 (List.replicate 16 (0 : Int))⟩] [Ft7_0, Ft2_0]) := (Mem.callG (hM.as (H' := Gs [⟨.slice A19 t18.1.length c21, 5, 1, nums .u8 t18.1⟩, ⟨.slice (some ⟨g15, 0, none⟩) 8 8, 5, 1, nums .u8 (List.replicate 8 (0 : Int))⟩, ⟨.slice (some ⟨g4, 0, none⟩) 16 16, 5, 1, nums .u8 (List.replicate 16 (0 : Int))⟩] [Ft7_0, Ft2_0]) rfl) hM_.grp).as rfl
        clear hM_ ht24
        refine RunF.go 7 [5, 6, 7, 8] (k' := (pl Go.Proofs.Try.f8 [1, 1, 1, 1, 1, 1, 0])) (L' := [(5, .slice A19 t18.1.length c21), (6, .int .i64 t18.2), (7, .slice A25 t24.1.length c27), (8, .int .i64 t24.2)]) (w' := W23) (by kernel_rfl) ?_
        refine RunF.draw (Still ({ W23 with drawn := W23.drawn + 1 } : World) []) (by kernel_rfl) (by kernel_rfl) ?_
        have hMd30 := hM.drew
        have hS := Still.refl ({ W23 with drawn := W23.drawn + 1 } : World) []
        generalize ({ W23 with drawn := W23.drawn + 1 } : World) = W29 at hMd30 hS ⊢
        replace hM := hMd30
        refine RunAny.y 0 (by kernel_rfl) (yl_pure (d := some 40) (v := .int .i64 t18.2) (k2 := [.inRegion (opsOf (pl Go.Proofs.Try.f8 [1, 1, 1, 1, 1, 1, 0])) []]) fun w => by kernel_rfl) (fun _ _ => trivial) hS ?_
        refine RunAny.y 1 (by kernel_rfl) (yl_pure (d := some 41) (v := .bool (t18.2 == 0)) (k2 := [.inRegion (opsOf (pl Go.Proofs.Try.f8 [1, 1, 1, 1, 1, 1, 0])) []]) fun w => by kernel_rfl) (fun _ _ => trivial) hS ?_
        refine RunAny.y 2 (by kernel_rfl) (yl_pure (d := some 42) (v := .bool (t18.2 == 0)) (k2 := [.inRegion (opsOf (pl Go.Proofs.Try.f8 [1, 1, 1, 1, 1, 1, 0])) []]) fun w => by kernel_rfl) (fun _ _ => trivial) hS ?_
        rcases two ((t18.2 == 0)) with c31 | c31
        · replace h := of_true h c31
          refine RunAny.know 42 (b := true) (by kernel_rfl) c31 ?_
          refine RunAny.y 3 (by kernel_rfl) (yl_pure (d := some 43) (v := .int .i64 t24.2) (k2 := [.inRegion (opsOf (pl Go.Proofs.Try.f8 [1, 1, 1, 1, 1, 1, 0])) []]) fun w => by kernel_rfl) (fun _ _ => trivial) hS ?_
          refine RunAny.y 4 (by kernel_rfl) (yl_pure (d := some 44) (v := .bool (t24.2 == 0)) (k2 := [.inRegion (opsOf (pl Go.Proofs.Try.f8 [1, 1, 1, 1, 1, 1, 0])) []]) fun w => by kernel_rfl) (fun _ _ => trivial) hS ?_
          refine RunAny.y 5 (by kernel_rfl) (yl_pure (d := some 45) (v := .bool (t24.2 == 0)) (k2 := [.inRegion (opsOf (pl Go.Proofs.Try.f8 [1, 1, 1, 1, 1, 1, 0])) []]) fun w => by kernel_rfl) (fun _ _ => trivial) hS ?_
          refine RunAny.y 6 (by kernel_rfl) (yl_pure (d := some 46) (v := .bool (t24.2 == 0)) (k2 := [.inRegion (opsOf (pl Go.Proofs.Try.f8 [1, 1, 1, 1, 1, 1, 0])) []]) fun w => by kernel_rfl) (fun _ _ => trivial) hS ?_
          rcases two ((t24.2 == 0)) with c32 | c32
          · replace h := of_true h c32
            refine RunAny.know 46 (b := true) (by kernel_rfl) c32 ?_
            refine RunAny.y 7 (by kernel_rfl) (yl_pure (d := some 47) (v := .slice A19 t18.1.length c21) (k2 := [.inRegion (opsOf (pl Go.Proofs.Try.f8 [1, 1, 1, 1, 1, 1, 0])) []]) fun w => by kernel_rfl) (fun _ _ => trivial) hS ?_
            refine RunAny.y 8 (by kernel_rfl) (yl_pure (d := some 48) (v := .int .i64 (t18.1.length : Int)) (k2 := [.inRegion (opsOf (pl Go.Proofs.Try.f8 [1, 1, 1, 1, 1, 1, 0])) []]) fun w => by kernel_rfl) (fun _ _ => trivial) hS ?_
            refine RunAny.y 9 (by kernel_rfl) (yl_pure (d := some 49) (v := .bool ((t18.1.length : Int) == 8)) (k2 := [.inRegion (opsOf (pl Go.Proofs.Try.f8 [1, 1, 1, 1, 1, 1, 0])) []]) fun w => by kernel_rfl) (fun _ _ => trivial) hS ?_
            refine RunAny.y 10 (by kernel_rfl) (yl_pure (d := some 50) (v := .bool ((t18.1.length : Int) == 8)) (k2 := [.inRegion (opsOf (pl Go.Proofs.Try.f8 [1, 1, 1, 1, 1, 1, 0])) []]) fun w => by kernel_rfl) (fun _ _ => trivial) hS ?_
            refine RunAny.y 11 (by kernel_rfl) (yl_pure (d := some 51) (v := .bool ((t18.1.length : Int) == 8)) (k2 := [.inRegion (opsOf (pl Go.Proofs.Try.f8 [1, 1, 1, 1, 1, 1, 0])) []]) fun w => by kernel_rfl) (fun _ _ => trivial) hS ?_
            rcases two (((t18.1.length : Int) == 8)) with c33 | c33
            · replace h := of_true h c33
              refine RunAny.know 51 (b := true) (by kernel_rfl) c33 ?_
              refine RunAny.y 12 (by kernel_rfl) (yl_pure (d := some 52) (v := .slice A19 t18.1.length c21) (k2 := [.inRegion (opsOf (pl Go.Proofs.Try.f8 [1, 1, 1, 1, 1, 1, 0])) []]) fun w => by kernel_rfl) (fun _ _ => trivial) hS ?_
              refine RunAny.y 13 (by kernel_rfl) (str_y (d := some 53) (A := A19) (m := t18.1.length) (c := c21) (k2 := [.inRegion (opsOf (pl Go.Proofs.Try.f8 [1, 1, 1, 1, 1, 1, 0])) []]) t18.1 (by kernel_rfl)) (fun _ hs => ((hM.rd 1 rfl).still hs (by simp))) hS ?_
              refine RunAny.y 14 (by kernel_rfl) (yl_pure (d := some 54) (v := .slice A25 t24.1.length c27) (k2 := [.inRegion (opsOf (pl Go.Proofs.Try.f8 [1, 1, 1, 1, 1, 1, 0])) []]) fun w => by kernel_rfl) (fun _ _ => trivial) hS ?_
              refine RunAny.y 15 (by kernel_rfl) (str_y (d := some 55) (A := A25) (m := t24.1.length) (c := c27) (k2 := [.inRegion (opsOf (pl Go.Proofs.Try.f8 [1, 1, 1, 1, 1, 1, 0])) []]) t24.1 (by kernel_rfl)) (fun _ hs => ((hM.rd 0 rfl).still hs (by simp))) hS ?_
              refine RunAny.y 16 (by kernel_rfl) (yl_pure (d := some 56) (v := .bool (!((strOf t18.1).toList == (strOf t24.1).toList))) (k2 := [.inRegion (opsOf (pl Go.Proofs.Try.f8 [1, 1, 1, 1, 1, 1, 0])) []]) fun w => by kernel_rfl) (fun _ _ => trivial) hS ?_
              refine RunAny.y 17 (by kernel_rfl) (yl_pure (d := some 57) (v := .bool (!((strOf t18.1).toList == (strOf t24.1).toList))) (k2 := [.inRegion (opsOf (pl Go.Proofs.Try.f8 [1, 1, 1, 1, 1, 1, 0])) []]) fun w => by kernel_rfl) (fun _ _ => trivial) hS ?_
              refine RunAny.y 18 (by kernel_rfl) (yl_pure (d := some 58) (v := .bool (!((strOf t18.1).toList == (strOf t24.1).toList))) (k2 := [.inRegion (opsOf (pl Go.Proofs.Try.f8 [1, 1, 1, 1, 1, 1, 0])) []]) fun w => by kernel_rfl) (fun _ _ => trivial) hS ?_
              rcases two (!((strOf t18.1).toList == (strOf t24.1).toList)) with c34 | c34
              · replace h := of_true h c34
                refine RunAny.know 58 (b := true) (by kernel_rfl) c34 ?_
                refine RunAny.y 19 (by kernel_rfl) (yl_pure (d := some 59) (v := .slice A25 t24.1.length c27) (k2 := [.inRegion (opsOf (pl Go.Proofs.Try.f8 [1, 1, 1, 1, 1, 1, 0])) []]) fun w => by kernel_rfl) (fun _ _ => trivial) hS ?_
                refine RunAny.y 20 (by kernel_rfl) (str_y (d := some 60) (A := A25) (m := t24.1.length) (c := c27) (k2 := [.inRegion (opsOf (pl Go.Proofs.Try.f8 [1, 1, 1, 1, 1, 1, 0])) []]) t24.1 (by kernel_rfl)) (fun _ hs => ((hM.rd 0 rfl).still hs (by simp))) hS ?_
                obtain ⟨W35, hD, hM', hB_⟩ := mk_does (P := Go.Proofs.Try.prog) (n := 65) (k := (one (opsOf (pl Go.Proofs.Try.f8 [1, 1, 1, 1, 1, 1, 0])) 21)) (L := (upd (upd (known (upd (upd (upd (upd (upd (upd (upd (known (upd (upd (upd (upd (upd (known (upd (upd (upd (upd (known (upd (upd (upd [(5, .slice A19 t18.1.length c21), (6, .int .i64 t18.2), (7, .slice A25 t24.1.length c27), (8, .int .i64 t24.2)] (some 40) (.int .i64 t18.2)) (some 41) (.bool (t18.2 == 0))) (some 42) (.bool (t18.2 == 0))) 42 true) (some 43) (.int .i64 t24.2)) (some 44) (.bool (t24.2 == 0))) (some 45) (.bool (t24.2 == 0))) (some 46) (.bool (t24.2 == 0))) 46 true) (some 47) (.slice A19 t18.1.length c21)) (some 48) (.int .i64 (t18.1.length : Int))) (some 49) (.bool ((t18.1.length : Int) == 8))) (some 50) (.bool ((t18.1.length : Int) == 8))) (some 51) (.bool ((t18.1.length : Int) == 8))) 51 true) (some 52) (.slice A19 t18.1.length c21)) (some 53) (.string (strOf t18.1))) (some 54) (.slice A25 t24.1.length c27)) (some 55) (.string (strOf t24.1))) (some 56) (.bool (!((strOf t18.1).toList == (strOf t24.1).toList)))) (some 57) (.bool (!((strOf t18.1).toList == (strOf t24.1).toList)))) (some 58) (.bool (!((strOf t18.1).toList == (strOf t24.1).toList)))) 58 true) (some 59) (.slice A25 t24.1.length c27)) (some 60) (.string (strOf t24.1)))) (d := some 61) (e := 5) (z := .int .u8 0) (l := 8) (c := 8) (k2 := [.inRegion (opsOf (pl Go.Proofs.Try.f8 [1, 1, 1, 1, 1, 1, 0])) []]) (by kernel_rfl) (by omega) (by omega) (by omega) hM
                rw [rep_nums] at hM'
                refine RunAny.does 21 (by kernel_rfl) hD (hS.below hB_) ?_
                replace hS := hS.below hB_; clear hB_
                replace hM := hM'; clear hD hM'
                generalize W29.heap.size = g36 at hM ⊢
                refine RunAny.rebase hS ?_
                replace hS := Still.refl W35 []
                refine RunAny.y 22 (by kernel_rfl) (str_y (d := some 62) (A := (some ⟨g36, 0, none⟩)) (m := 8) (c := 8) (k2 := [.inRegion (opsOf (pl Go.Proofs.Try.f8 [1, 1, 1, 1, 1, 1, 0])) []]) (List.replicate 8 (0 : Int)) (by kernel_rfl)) (fun _ hs => ((hM.rd 0 rfl).still hs (by simp))) hS ?_
                refine RunAny.y 23 (by kernel_rfl) (yl_pure (d := some 63) (v := .bool ((strOf t24.1).toList == (strOf (List.replicate 8 (0 : Int))).toList)) (k2 := [.inRegion (opsOf (pl Go.Proofs.Try.f8 [1, 1, 1, 1, 1, 1, 0])) []]) fun w => by kernel_rfl) (fun _ _ => trivial) hS ?_
                refine RunAny.y 24 (by kernel_rfl) (yl_pure (d := some 64) (v := .bool ((strOf t24.1).toList == (strOf (List.replicate 8 (0 : Int))).toList)) (k2 := [.inRegion (opsOf (pl Go.Proofs.Try.f8 [1, 1, 1, 1, 1, 1, 0])) []]) fun w => by kernel_rfl) (fun _ _ => trivial) hS ?_
                refine RunAny.y 25 (by kernel_rfl) (yl_pure (d := some 0) (v := .bool ((strOf t24.1).toList == (strOf (List.replicate 8 (0 : Int))).toList)) (k2 := [.inRegion (opsOf (pl Go.Proofs.Try.f8 [1, 1, 1, 1, 1, 1, 0])) []]) fun w => by kernel_rfl) (fun _ _ => trivial) hS ?_
                refine RunAny.done (by kernel_rfl) ?_
                clear hS
                obtain rfl := Option.some.inj h
                exact RunF.ret1 0 (.bool ((strOf t24.1).toList == (strOf (List.replicate 8 (0 : Int))).toList)) (fn := Go.Proofs.Try.f8) Go.Proofs.Try.func8 (by kernel_rfl) (by kernel_rfl) (by kernel_rfl) ⟨_, rfl, rfl, (Mem.pickF (hM.as (H' := Gs [⟨.slice (some ⟨g36, 0, none⟩) 8 8, 5, 1, nums .u8 (List.replicate 8 (0 : Int))⟩, ⟨.slice A25 t24.1.length c27, 5, 1, nums .u8 t24.1⟩, ⟨.slice A19 t18.1.length c21, 5, 1, nums .u8 t18.1⟩, ⟨.slice (some ⟨g15, 0, none⟩) 8 8, 5, 1, nums .u8 (List.replicate 8 (0 : Int))⟩, ⟨.slice (some ⟨g4, 0, none⟩) 16 16, 5, 1, nums .u8 (List.replicate 16 (0 : Int))⟩] [Ft7_0, Ft2_0]) rfl) [] rfl rfl rfl).ungrp⟩
              · replace h := of_false h c34
                refine RunAny.know 58 (b := false) (by kernel_rfl) c34 ?_
                refine RunAny.off 19 (d := some 59) (by kernel_rfl) (by kernel_rfl) hS ?_
                refine RunAny.off 20 (d := some 60) (by kernel_rfl) (by kernel_rfl) hS ?_
                refine RunAny.off 21 (d := some 61) (by kernel_rfl) (by kernel_rfl) hS ?_
                refine RunAny.off 22 (d := some 62) (by kernel_rfl) (by kernel_rfl) hS ?_
                refine RunAny.off 23 (d := some 63) (by kernel_rfl) (by kernel_rfl) hS ?_
                refine RunAny.y 24 (by kernel_rfl) (yl_pure (d := some 64) (v := .bool false) (k2 := [.inRegion (opsOf (pl Go.Proofs.Try.f8 [1, 1, 1, 1, 1, 1, 0])) []]) fun w => by kernel_rfl) (fun _ _ => trivial) hS ?_
                refine RunAny.y 25 (by kernel_rfl) (yl_pure (d := some 0) (v := .bool false) (k2 := [.inRegion (opsOf (pl Go.Proofs.Try.f8 [1, 1, 1, 1, 1, 1, 0])) []]) fun w => by kernel_rfl) (fun _ _ => trivial) hS ?_
                refine RunAny.done (by kernel_rfl) ?_
                clear hS
                obtain rfl := Option.some.inj h
                exact RunF.ret1 0 (.bool false) (fn := Go.Proofs.Try.f8) Go.Proofs.Try.func8 (by kernel_rfl) (by kernel_rfl) (by kernel_rfl) ⟨_, rfl, rfl, (Mem.pickF (hM.as (H' := Gs [⟨.slice A25 t24.1.length c27, 5, 1, nums .u8 t24.1⟩, ⟨.slice A19 t18.1.length c21, 5, 1, nums .u8 t18.1⟩, ⟨.slice (some ⟨g15, 0, none⟩) 8 8, 5, 1, nums .u8 (List.replicate 8 (0 : Int))⟩, ⟨.slice (some ⟨g4, 0, none⟩) 16 16, 5, 1, nums .u8 (List.replicate 16 (0 : Int))⟩] [Ft7_0, Ft2_0]) rfl) [] rfl rfl rfl).ungrp⟩
            · replace h := of_false h c33
              refine RunAny.know 51 (b := false) (by kernel_rfl) c33 ?_
              refine RunAny.off 12 (d := some 52) (by kernel_rfl) (by kernel_rfl) hS ?_
              refine RunAny.off 13 (d := some 53) (by kernel_rfl) (by kernel_rfl) hS ?_
              refine RunAny.off 14 (d := some 54) (by kernel_rfl) (by kernel_rfl) hS ?_
              refine RunAny.off 15 (d := some 55) (by kernel_rfl) (by kernel_rfl) hS ?_
              refine RunAny.off 16 (d := some 56) (by kernel_rfl) (by kernel_rfl) hS ?_
              refine RunAny.y 17 (by kernel_rfl) (yl_pure (d := some 57) (v := .bool false) (k2 := [.inRegion (opsOf (pl Go.Proofs.Try.f8 [1, 1, 1, 1, 1, 1, 0])) []]) fun w => by kernel_rfl) (fun _ _ => trivial) hS ?_
              refine RunAny.y 18 (by kernel_rfl) (yl_pure (d := some 58) (v := .bool false) (k2 := [.inRegion (opsOf (pl Go.Proofs.Try.f8 [1, 1, 1, 1, 1, 1, 0])) []]) fun w => by kernel_rfl) (fun _ _ => trivial) hS ?_
              refine RunAny.off 19 (d := some 59) (by kernel_rfl) (by kernel_rfl) hS ?_
              refine RunAny.off 20 (d := some 60) (by kernel_rfl) (by kernel_rfl) hS ?_
              refine RunAny.off 21 (d := some 61) (by kernel_rfl) (by kernel_rfl) hS ?_
              refine RunAny.off 22 (d := some 62) (by kernel_rfl) (by kernel_rfl) hS ?_
              refine RunAny.off 23 (d := some 63) (by kernel_rfl) (by kernel_rfl) hS ?_
              refine RunAny.y 24 (by kernel_rfl) (yl_pure (d := some 64) (v := .bool false) (k2 := [.inRegion (opsOf (pl Go.Proofs.Try.f8 [1, 1, 1, 1, 1, 1, 0])) []]) fun w => by kernel_rfl) (fun _ _ => trivial) hS ?_
              refine RunAny.y 25 (by kernel_rfl) (yl_pure (d := some 0) (v := .bool false) (k2 := [.inRegion (opsOf (pl Go.Proofs.Try.f8 [1, 1, 1, 1, 1, 1, 0])) []]) fun w => by kernel_rfl) (fun _ _ => trivial) hS ?_
              refine RunAny.done (by kernel_rfl) ?_
              clear hS
              obtain rfl := Option.some.inj h
              exact RunF.ret1 0 (.bool false) (fn := Go.Proofs.Try.f8) Go.Proofs.Try.func8 (by kernel_rfl) (by kernel_rfl) (by kernel_rfl) ⟨_, rfl, rfl, (Mem.pickF (hM.as (H' := Gs [⟨.slice A25 t24.1.length c27, 5, 1, nums .u8 t24.1⟩, ⟨.slice A19 t18.1.length c21, 5, 1, nums .u8 t18.1⟩, ⟨.slice (some ⟨g15, 0, none⟩) 8 8, 5, 1, nums .u8 (List.replicate 8 (0 : Int))⟩, ⟨.slice (some ⟨g4, 0, none⟩) 16 16, 5, 1, nums .u8 (List.replicate 16 (0 : Int))⟩] [Ft7_0, Ft2_0]) rfl) [] rfl rfl rfl).ungrp⟩
          · replace h := of_false h c32
            refine RunAny.know 46 (b := false) (by kernel_rfl) c32 ?_
            refine RunAny.off 7 (d := some 47) (by kernel_rfl) (by kernel_rfl) hS ?_
            refine RunAny.off 8 (d := some 48) (by kernel_rfl) (by kernel_rfl) hS ?_
            refine RunAny.off 9 (d := some 49) (by kernel_rfl) (by kernel_rfl) hS ?_
            refine RunAny.y 10 (by kernel_rfl) (yl_pure (d := some 50) (v := .bool false) (k2 := [.inRegion (opsOf (pl Go.Proofs.Try.f8 [1, 1, 1, 1, 1, 1, 0])) []]) fun w => by kernel_rfl) (fun _ _ => trivial) hS ?_
            refine RunAny.y 11 (by kernel_rfl) (yl_pure (d := some 51) (v := .bool false) (k2 := [.inRegion (opsOf (pl Go.Proofs.Try.f8 [1, 1, 1, 1, 1, 1, 0])) []]) fun w => by kernel_rfl) (fun _ _ => trivial) hS ?_
            refine RunAny.off 12 (d := some 52) (by kernel_rfl) (by kernel_rfl) hS ?_
            refine RunAny.off 13 (d := some 53) (by kernel_rfl) (by kernel_rfl) hS ?_
            refine RunAny.off 14 (d := some 54) (by kernel_rfl) (by kernel_rfl) hS ?_
            refine RunAny.off 15 (d := some 55) (by kernel_rfl) (by kernel_rfl) hS ?_
            refine RunAny.off 16 (d := some 56) (by kernel_rfl) (by kernel_rfl) hS ?_
            refine RunAny.y 17 (by kernel_rfl) (yl_pure (d := some 57) (v := .bool false) (k2 := [.inRegion (opsOf (pl Go.Proofs.Try.f8 [1, 1, 1, 1, 1, 1, 0])) []]) fun w => by kernel_rfl) (fun _ _ => trivial) hS ?_
            refine RunAny.y 18 (by kernel_rfl) (yl_pure (d := some 58) (v := .bool false) (k2 := [.inRegion (opsOf (pl Go.Proofs.Try.f8 [1, 1, 1, 1, 1, 1, 0])) []]) fun w => by kernel_rfl) (fun _ _ => trivial) hS ?_
            refine RunAny.off 19 (d := some 59) (by kernel_rfl) (by kernel_rfl) hS ?_
            refine RunAny.off 20 (d := some 60) (by kernel_rfl) (by kernel_rfl) hS ?_
            refine RunAny.off 21 (d := some 61) (by kernel_rfl) (by kernel_rfl) hS ?_
            refine RunAny.off 22 (d := some 62) (by kernel_rfl) (by kernel_rfl) hS ?_
            refine RunAny.off 23 (d := some 63) (by kernel_rfl) (by kernel_rfl) hS ?_
            refine RunAny.y 24 (by kernel_rfl) (yl_pure (d := some 64) (v := .bool false) (k2 := [.inRegion (opsOf (pl Go.Proofs.Try.f8 [1, 1, 1, 1, 1, 1, 0])) []]) fun w => by kernel_rfl) (fun _ _ => trivial) hS ?_
            refine RunAny.y 25 (by kernel_rfl) (yl_pure (d := some 0) (v := .bool false) (k2 := [.inRegion (opsOf (pl Go.Proofs.Try.f8 [1, 1, 1, 1, 1, 1, 0])) []]) fun w => by kernel_rfl) (fun _ _ => trivial) hS ?_
            refine RunAny.done (by kernel_rfl) ?_
            clear hS
            obtain rfl := Option.some.inj h
            exact RunF.ret1 0 (.bool false) (fn := Go.Proofs.Try.f8) Go.Proofs.Try.func8 (by kernel_rfl) (by kernel_rfl) (by kernel_rfl) ⟨_, rfl, rfl, (Mem.pickF (hM.as (H' := Gs [⟨.slice A25 t24.1.length c27, 5, 1, nums .u8 t24.1⟩, ⟨.slice A19 t18.1.length c21, 5, 1, nums .u8 t18.1⟩, ⟨.slice (some ⟨g15, 0, none⟩) 8 8, 5, 1, nums .u8 (List.replicate 8 (0 : Int))⟩, ⟨.slice (some ⟨g4, 0, none⟩) 16 16, 5, 1, nums .u8 (List.replicate 16 (0 : Int))⟩] [Ft7_0, Ft2_0]) rfl) [] rfl rfl rfl).ungrp⟩
        · replace h := of_false h c31
          refine RunAny.know 42 (b := false) (by kernel_rfl) c31 ?_
          refine RunAny.off 3 (d := some 43) (by kernel_rfl) (by kernel_rfl) hS ?_
          refine RunAny.off 4 (d := some 44) (by kernel_rfl) (by kernel_rfl) hS ?_
          refine RunAny.y 5 (by kernel_rfl) (yl_pure (d := some 45) (v := .bool false) (k2 := [.inRegion (opsOf (pl Go.Proofs.Try.f8 [1, 1, 1, 1, 1, 1, 0])) []]) fun w => by kernel_rfl) (fun _ _ => trivial) hS ?_
          refine RunAny.y 6 (by kernel_rfl) (yl_pure (d := some 46) (v := .bool false) (k2 := [.inRegion (opsOf (pl Go.Proofs.Try.f8 [1, 1, 1, 1, 1, 1, 0])) []]) fun w => by kernel_rfl) (fun _ _ => trivial) hS ?_
          refine RunAny.off 7 (d := some 47) (by kernel_rfl) (by kernel_rfl) hS ?_
          refine RunAny.off 8 (d := some 48) (by kernel_rfl) (by kernel_rfl) hS ?_
          refine RunAny.off 9 (d := some 49) (by kernel_rfl) (by kernel_rfl) hS ?_
          refine RunAny.y 10 (by kernel_rfl) (yl_pure (d := some 50) (v := .bool false) (k2 := [.inRegion (opsOf (pl Go.Proofs.Try.f8 [1, 1, 1, 1, 1, 1, 0])) []]) fun w => by kernel_rfl) (fun _ _ => trivial) hS ?_
          refine RunAny.y 11 (by kernel_rfl) (yl_pure (d := some 51) (v := .bool false) (k2 := [.inRegion (opsOf (pl Go.Proofs.Try.f8 [1, 1, 1, 1, 1, 1, 0])) []]) fun w => by kernel_rfl) (fun _ _ => trivial) hS ?_
          refine RunAny.off 12 (d := some 52) (by kernel_rfl) (by kernel_rfl) hS ?_
          refine RunAny.off 13 (d := some 53) (by kernel_rfl) (by kernel_rfl) hS ?_
          refine RunAny.off 14 (d := some 54) (by kernel_rfl) (by kernel_rfl) hS ?_
          refine RunAny.off 15 (d := some 55) (by kernel_rfl) (by kernel_rfl) hS ?_
          refine RunAny.off 16 (d := some 56) (by kernel_rfl) (by kernel_rfl) hS ?_
          refine RunAny.y 17 (by kernel_rfl) (yl_pure (d := some 57) (v := .bool false) (k2 := [.inRegion (opsOf (pl Go.Proofs.Try.f8 [1, 1, 1, 1, 1, 1, 0])) []]) fun w => by kernel_rfl) (fun _ _ => trivial) hS ?_
          refine RunAny.y 18 (by kernel_rfl) (yl_pure (d := some 58) (v := .bool false) (k2 := [.inRegion (opsOf (pl Go.Proofs.Try.f8 [1, 1, 1, 1, 1, 1, 0])) []]) fun w => by kernel_rfl) (fun _ _ => trivial) hS ?_
          refine RunAny.off 19 (d := some 59) (by kernel_rfl) (by kernel_rfl) hS ?_
          refine RunAny.off 20 (d := some 60) (by kernel_rfl) (by kernel_rfl) hS ?_
          refine RunAny.off 21 (d := some 61) (by kernel_rfl) (by kernel_rfl) hS ?_
          refine RunAny.off 22 (d := some 62) (by kernel_rfl) (by kernel_rfl) hS ?_
          refine RunAny.off 23 (d := some 63) (by kernel_rfl) (by kernel_rfl) hS ?_
          refine RunAny.y 24 (by kernel_rfl) (yl_pure (d := some 64) (v := .bool false) (k2 := [.inRegion (opsOf (pl Go.Proofs.Try.f8 [1, 1, 1, 1, 1, 1, 0])) []]) fun w => by kernel_rfl) (fun _ _ => trivial) hS ?_
          refine RunAny.y 25 (by kernel_rfl) (yl_pure (d := some 0) (v := .bool false) (k2 := [.inRegion (opsOf (pl Go.Proofs.Try.f8 [1, 1, 1, 1, 1, 1, 0])) []]) fun w => by kernel_rfl) (fun _ _ => trivial) hS ?_
          refine RunAny.done (by kernel_rfl) ?_
          clear hS
          obtain rfl := Option.some.inj h
          exact RunF.ret1 0 (.bool false) (fn := Go.Proofs.Try.f8) Go.Proofs.Try.func8 (by kernel_rfl) (by kernel_rfl) (by kernel_rfl) ⟨_, rfl, rfl, (Mem.pickF (hM.as (H' := Gs [⟨.slice A25 t24.1.length c27, 5, 1, nums .u8 t24.1⟩, ⟨.slice A19 t18.1.length c21, 5, 1, nums .u8 t18.1⟩, ⟨.slice (some ⟨g15, 0, none⟩) 8 8, 5, 1, nums .u8 (List.replicate 8 (0 : Int))⟩, ⟨.slice (some ⟨g4, 0, none⟩) 16 16, 5, 1, nums .u8 (List.replicate 16 (0 : Int))⟩] [Ft7_0, Ft2_0]) rfl) [] rfl rfl rfl).ungrp⟩
      · replace h := of_false h c10
        obtain rfl := rOpt.none hRt7_0 c10
        refine RunF.go 8 [0] (k' := (pl Go.Proofs.Try.f8 [1, 1, 1, 0, 1, 0, 1])) (L' := [(0, .bool false)]) (w' := W6) (by kernel_rfl) ?_
        obtain rfl := Option.some.inj h
        exact RunF.ret1 0 (.bool false) (fn := Go.Proofs.Try.f8) Go.Proofs.Try.func8 (by kernel_rfl) (by kernel_rfl) (by kernel_rfl) ⟨_, rfl, rfl, (Mem.pickF (hM.as (H' := Gs [⟨.slice (some ⟨g4, 0, none⟩) 16 16, 5, 1, nums .u8 (List.replicate 16 (0 : Int))⟩] [Ft7_0, Ft2_0]) rfl) [] rfl rfl rfl).ungrp⟩

/-! ### scrim/scrimlaw7.Bytes: function 11 -/
def scrimlaw7_Bytes.l0 : Nat → Int → (List Int) → Int → Option (List Int)
  | 0, _, _, _ => none
  | k + 1, a0, x5_0, x6_0 => if (decide (x6_0 < a0)) = true then (if (decide (0 ≤ x6_0)) = true then (if (decide (x6_0 < ((a0 : Int).toNat : Int))) = true then (scrimlaw7_Bytes.l0 k a0 (x5_0.set (x6_0 : Int).toNat (U8 (I64 (x6_0 * 37)))) (I64 (x6_0 + 1))) else (none)) else (none)) else (some x5_0)
def scrimlaw7_Bytes.f (k : Nat) (a0 : Int) (a1 : List Int) : Option (List Int) := if (decide (0 ≤ a0)) = true then (if (decide (a0 ≤ 1000000000)) = true then (scrimlaw7_Bytes.l0 k a0 (a1.take (List.replicate ((a0 : Int).toNat) (0 : Int)).length ++ (List.replicate ((a0 : Int).toNat) (0 : Int)).drop a1.length) (a1.length : Int)) else (none)) else (none)
set_option maxRecDepth 100000 in
theorem scrimlaw7_Bytes.calls (k : Nat) (a0 : Int) (Ap1 : Option Addr) (np1 cp1 : Nat) (a1 : List Int) (r : List Int) (w : World) (hr1 : Rd w (.slice Ap1 np1 cp1) (nums .u8 a1)) (h : scrimlaw7_Bytes.f k a0 a1 = some r) :
    Calls Go.Proofs.Try.prog 11 #[.int .i64 a0, (.slice Ap1 np1 cp1)] w (Ret fun v w' => ∃ A0' n0' c0', v = .slice A0' n0' c0' ∧ Mem w w' [⟨.slice A0' n0' c0', 5, 1, nums .u8 r⟩]) := by
  obtain rfl : a1.length = np1 := by have h_ := hr1.1; simpa [nums_length, bools_length, strs_length] using h_
  unfold scrimlaw7_Bytes.f at h
  refine calls_of [.int .i64 a0, .slice Ap1 a1.length cp1] (fn := Go.Proofs.Try.f11) Go.Proofs.Try.func11 (by kernel_rfl) (by kernel_rfl) ?_
  have hM := Mem.refl w
  refine RunF.go 7 [0, 1, 7] (k' := (pin Go.Proofs.Try.f11 [1, 0] 1)) (L' := [(0, .int .i64 a0), (1, .slice Ap1 a1.length cp1), (7, .int .i64 a0)]) (w' := w) (by kernel_rfl) ?_
  rcases two (decide (0 ≤ a0)) with c3 | c3
  · replace h := of_true h c3
    rcases two (decide (a0 ≤ 1000000000)) with c4 | c4
    · replace h := of_true h c4
      have := of_decide_eq_true c3
      have := of_decide_eq_true c4
      obtain ⟨W1, hD, hM', hB_⟩ := mk_does (P := Go.Proofs.Try.prog) (n := 26) (k := (pin Go.Proofs.Try.f11 [1, 0] 1)) (L := [(0, .int .i64 a0), (1, .slice Ap1 a1.length cp1), (7, .int .i64 a0)]) (d := some 8) (e := 5) (z := .int .u8 0) (l := a0) (c := a0) (k2 := (pin Go.Proofs.Try.f11 [1, 0] 2)) (by kernel_rfl) (by omega) (by omega) (by omega) hM
      rw [rep_nums] at hM'
      refine RunF.does hD ?_
      replace hM := hM'; clear hD hM'
      generalize w.heap.size = g2 at hM ⊢
      refine RunF.go 6 [0, 1, 5, 9, 10] (k' := (pin Go.Proofs.Try.f11 [1, 1, 0] 2)) (L' := [(0, .int .i64 a0), (1, .slice Ap1 a1.length cp1), (5, .slice (some ⟨g2, 0, none⟩) ((a0 : Int).toNat) ((a0 : Int).toNat)), (9, .slice (some ⟨g2, 0, none⟩) ((a0 : Int).toNat) ((a0 : Int).toNat)), (10, .slice Ap1 a1.length cp1)]) (w' := W1) (by kernel_rfl) ?_
      obtain ⟨W6, hD, hM', hS_⟩ := cp_does (P := Go.Proofs.Try.prog) (n := 26) (k := (pin Go.Proofs.Try.f11 [1, 1, 0] 2)) (L := [(0, .int .i64 a0), (1, .slice Ap1 a1.length cp1), (5, .slice (some ⟨g2, 0, none⟩) ((a0 : Int).toNat) ((a0 : Int).toNat)), (9, .slice (some ⟨g2, 0, none⟩) ((a0 : Int).toNat) ((a0 : Int).toNat)), (10, .slice Ap1 a1.length cp1)]) (d := some 11) (ty := 5) (A := (some ⟨g2, 0, none⟩)) (m := (a0 : Int).toNat) (c := (a0 : Int).toNat) (A2 := Ap1) (m2 := a1.length) (c2 := cp1) (cs := nums .u8 (List.replicate ((a0 : Int).toNat) (0 : Int))) (ys := nums .u8 a1) (k2 := (pin Go.Proofs.Try.f11 [1, 1, 0] 3)) [] [] (by kernel_rfl) (hM.pick [0] rfl rfl) (hr1.mono hM.below) (one_nums _ _)
      simp only [nums_length, nums_take, nums_drop, nums_append] at hM'
      refine RunF.does hD ?_
      replace hM := hM'; clear hM' hD hS_
      refine RunF.go 10 [0, 5, 6] (k' := (pl Go.Proofs.Try.f11 [1, 1, 1, 0, 1, 0, 0])) (L' := [(0, .int .i64 a0), (5, .slice (some ⟨g2, 0, none⟩) ((a0 : Int).toNat) ((a0 : Int).toNat)), (6, .int .i64 (a1.length : Int))]) (w' := W6) (by kernel_rfl) ?_
      have l0 : ∀ (k_ : Nat), k_ ≤ k → ∀ (x5_0 : List Int) (x6_0 : Int) (W : World) (hM : Mem w W [⟨.slice (some ⟨g2, 0, none⟩) ((a0 : Int).toNat) ((a0 : Int).toNat), 5, 1, nums .u8 x5_0⟩]) (h : scrimlaw7_Bytes.l0 k_ a0 x5_0 x6_0 = some r), RunF Go.Proofs.Try.prog (Ret fun v w' => ∃ A0' n0' c0', v = .slice A0' n0' c0' ∧ Mem w w' [⟨.slice A0' n0' c0', 5, 1, nums .u8 r⟩]) 11 (pl Go.Proofs.Try.f11 [1, 1, 1, 0, 1, 0, 0]) 26 [(0, .int .i64 a0), (5, .slice (some ⟨g2, 0, none⟩) ((a0 : Int).toNat) ((a0 : Int).toNat)), (6, .int .i64 x6_0)] W := by
        intro k_
        induction k_ using Nat.strongRecOn with
        | _ k_ ih0 =>
          intro hk x5_0 x6_0 W hM h
          cases k_ with
          | zero => exact absurd h (by simp [scrimlaw7_Bytes.l0])
          | succ k =>
            simp only [scrimlaw7_Bytes.l0] at h
            replace ih0 : ∀ m, m ≤ k → _ := fun m hm => ih0 m (by omega) (by omega)
            refine RunF.go 7 [0, 5, 6, 16] (k' := (pl Go.Proofs.Try.f11 [1, 1, 1, 0, 1, 0, 0, 0, 1])) (L' := [(0, .int .i64 a0), (5, .slice (some ⟨g2, 0, none⟩) ((a0 : Int).toNat) ((a0 : Int).toNat)), (6, .int .i64 x6_0), (16, .bool (decide (x6_0 < a0)))]) (w' := W) (by kernel_rfl) ?_
            rcases two (decide (x6_0 < a0)) with c7 | c7
            · replace h := of_true h c7
              refine RunF.know 16 (b := true) (by kernel_rfl) c7 ?_
              refine RunF.go 10 [0, 5, 6, 19, 20, 23] (k' := (pin Go.Proofs.Try.f11 [1, 1, 1, 0, 1, 0, 0, 1, 0, 0] 5)) (L' := [(0, .int .i64 a0), (5, .slice (some ⟨g2, 0, none⟩) ((a0 : Int).toNat) ((a0 : Int).toNat)), (6, .int .i64 x6_0), (19, .slice (some ⟨g2, 0, none⟩) ((a0 : Int).toNat) ((a0 : Int).toNat)), (20, .int .i64 x6_0), (23, .int .u8 (U8 (I64 (x6_0 * 37))))]) (w' := W) (by kernel_rfl) ?_
              rcases two (decide (0 ≤ x6_0)) with c9 | c9
              · replace h := of_true h c9
                rcases two (decide (x6_0 < ((a0 : Int).toNat : Int))) with c10 | c10
                · replace h := of_true h c10
                  obtain ⟨q8, hAq8, hcq8, hfq8, hlq8⟩ := hM.num_at 0 rfl (i := x6_0) (of_decide_eq_true c9) (by have h_ := of_decide_eq_true c10; omega)
                  refine RunF.y (idx_own (d := some 24) (A := (some ⟨g2, 0, none⟩)) (m := (a0 : Int).toNat) (i := x6_0) (k2 := (pin Go.Proofs.Try.f11 [1, 1, 1, 0, 1, 0, 0, 1, 0, 0] 6)) (by kernel_rfl) (of_decide_eq_true c9) (by have h_ := of_decide_eq_true c10; omega) hAq8) trivial ?_
                  obtain ⟨g_, hA_, hc_, hf_, hl_⟩ := hM.num_at 0 rfl (i := x6_0) (of_decide_eq_true c9) (by have h_ := of_decide_eq_true c10; omega)
                  obtain rfl : q8 = g_ := by rw [hAq8] at hA_; injection hA_ with hA_; injection hA_
                  refine RunF.doesU (st_u (p := (⟨q8, (x6_0 : Int).toNat, none⟩ : Addr)) (v := .int .u8 (U8 (I64 (x6_0 * 37)))) (k2 := (pin Go.Proofs.Try.f11 [1, 1, 1, 0, 1, 0, 0, 1, 0, 0] 7)) (by kernel_rfl) hc_ hf_) ?_
                  replace hM : Mem w (W.setCell (⟨q8, (x6_0 : Int).toNat, none⟩ : Addr) (.int .u8 (U8 (I64 (x6_0 * 37))))) [⟨.slice (some ⟨g2, 0, none⟩) ((a0 : Int).toNat) ((a0 : Int).toNat), 5, 1, nums .u8 (x5_0.set (x6_0 : Int).toNat (U8 (I64 (x6_0 * 37))))⟩] := Mem.put_num [] [] (hM.pick [0] rfl rfl) hAq8 _ hl_ _
                  generalize W.setCell (⟨q8, (x6_0 : Int).toNat, none⟩ : Addr) (.int .u8 (U8 (I64 (x6_0 * 37)))) = W11 at hM ⊢
                  clear hc_ hf_ hl_ hA_ hcq8
                  refine RunF.go 8 [0, 5, 6] (k' := (pl Go.Proofs.Try.f11 [1, 1, 1, 0, 1, 0, 0])) (L' := [(0, .int .i64 a0), (5, .slice (some ⟨g2, 0, none⟩) ((a0 : Int).toNat) ((a0 : Int).toNat)), (6, .int .i64 (I64 (x6_0 + 1)))]) (w' := W11) (by kernel_rfl) ?_
                  exact ih0 k (by omega) (x5_0.set (x6_0 : Int).toNat (U8 (I64 (x6_0 * 37)))) (I64 (x6_0 + 1)) _ (hM.pick [0] rfl rfl) h
                · replace h := of_false h c10
                  cases h
              · replace h := of_false h c9
                cases h
            · replace h := of_false h c7
              refine RunF.know 16 (b := false) (by kernel_rfl) c7 ?_
              refine RunF.go 7 [4] (k' := (pl Go.Proofs.Try.f11 [1, 1, 1, 1, 1])) (L' := [(4, .slice (some ⟨g2, 0, none⟩) ((a0 : Int).toNat) ((a0 : Int).toNat))]) (w' := W) (by kernel_rfl) ?_
              obtain rfl := Option.some.inj h
              exact RunF.ret1 4 (.slice (some ⟨g2, 0, none⟩) ((a0 : Int).toNat) ((a0 : Int).toNat)) (fn := Go.Proofs.Try.f11) Go.Proofs.Try.func11 (by kernel_rfl) (by kernel_rfl) (by kernel_rfl) ⟨_, rfl, (some ⟨g2, 0, none⟩), (a0 : Int).toNat, (a0 : Int).toNat, rfl, (hM.pick [0] rfl rfl)⟩
      exact l0 k (Nat.le_refl _) (a1.take (List.replicate ((a0 : Int).toNat) (0 : Int)).length ++ (List.replicate ((a0 : Int).toNat) (0 : Int)).drop a1.length) (a1.length : Int) _ (hM.pick [0] rfl rfl) h
    · replace h := of_false h c4
      cases h
  · replace h := of_false h c3
    cases h


end Go.Scr.S
