/- The functions that the law AriaRounds reaches, as plain functions, and that each call answers so. -/
import Derived.Test.YtekkdjgcbkoepaaDoorProg
import Derived.Test.YtekkdjgcbkoepaaDoorFnAriaRounds1
set_option linter.unusedVariables false
set_option linter.unusedSimpArgs false
set_option linter.unnecessarySimpa false
namespace Go.Scr.S
open Go.RowKit (Below)
/-! ### scrim/scrimlaw10.known: function 9 -/
def scrimlaw10_known.f (k : Nat)  : Option (Bool) := (aria_New.f k ([] : List Int)).bind fun t2 => ((aria_New.f k (List.replicate 16 (0 : Int))).bind fun t7 => (if (t2.2 != 4) = true then (some false) else (if (t7.2 != 0) = true then (some false) else (if t7.1.isSome = true then ((t7.1).bind fun s11 => ((aria_Aria_Block.f k s11 (List.replicate 16 (0 : Int)) false).bind fun t18 => ((aria_Aria_Block.f k s11 t18.1 true).bind fun t24 => (if (t18.2 == 0) = true then (if (t24.2 == 0) = true then (if ((t18.1.length : Int) == 16) = true then (if (!((strOf t18.1).toList == (strOf t24.1).toList)) = true then (some ((strOf t24.1).toList == (strOf (List.replicate 16 (0 : Int))).toList)) else (some false)) else (some false)) else (some false)) else (some false))))) else (some false)))))
set_option maxRecDepth 100000 in
set_option maxHeartbeats 8000000 in
theorem scrimlaw10_known.calls (k : Nat)  (r : Bool) (w : World) (hG0 : Rg w 0 (nums .u8 [1, 2, 4, 8, 16, 32, 64, 128])) (h : scrimlaw10_known.f k = some r) :
    Calls Go.Proofs.Tryd.prog 9 #[] w (Ret fun v w' => v = .bool r ∧ Mem w w' []) := by
  unfold scrimlaw10_known.f at h
  refine calls_of [] (fn := Go.Proofs.Tryd.f9) Go.Proofs.Tryd.func9 (by kernel_rfl) (by kernel_rfl) ?_
  have hM := Mem.refl w
  refine RunF.go 6 [] (k' := (pin Go.Proofs.Tryd.f9 [1, 0] 0)) (L' := []) (w' := w) (by kernel_rfl) ?_
  obtain ⟨t2, ht2, h⟩ := Option.bind_eq_some_iff.mp h
  refine RunF.call (d := some 10) (g := 19) (args := #[.slice none 0 0]) (k2 := (pin Go.Proofs.Tryd.f9 [1, 0] 1)) (by kernel_rfl) (aria_New.calls k none 0 0 ([] : List Int) t2 _ (Rd.nil _ .u8) (hG0.mono hM.below) ht2) ?_
  rintro _ W1 ⟨vt2_0, Ft2_0, rfl, hRt2_0, hM_⟩
  replace hM : Mem w W1 (Gs [] [Ft2_0]) := (Mem.callG (hM.as (H' := Gs [] []) rfl) hM_).as rfl
  clear hM_ ht2
  refine RunF.go 8 [2] (k' := (pin Go.Proofs.Tryd.f9 [1, 1, 0] 0)) (L' := [(2, .int .i64 t2.2)]) (w' := W1) (by kernel_rfl) ?_
  obtain ⟨W3, hD, hM', hB_⟩ := mk_does (P := Go.Proofs.Tryd.prog) (n := 65) (k := (pin Go.Proofs.Tryd.f9 [1, 1, 0] 0)) (L := [(2, .int .i64 t2.2)]) (d := some 14) (e := 5) (z := .int .u8 0) (l := 16) (c := 16) (k2 := (pin Go.Proofs.Tryd.f9 [1, 1, 0] 1)) (by kernel_rfl) (by omega) (by omega) (by omega) hM
  rw [rep_nums] at hM'
  refine RunF.does hD ?_
  replace hM := hM'; clear hD hM'
  generalize W1.heap.size = g4 at hM ⊢
  obtain ⟨t7, ht7, h⟩ := Option.bind_eq_some_iff.mp h
  refine RunF.call (d := some 15) (g := 19) (args := #[.slice (some ⟨g4, 0, none⟩) 16 16]) (k2 := (pin Go.Proofs.Tryd.f9 [1, 1, 0] 2)) (by kernel_rfl) (aria_New.calls k (some ⟨g4, 0, none⟩) 16 16 (List.replicate 16 (0 : Int)) t7 _ (hM.rd 0 rfl) (hG0.mono hM.below) ht7) ?_
  rintro _ W6 ⟨vt7_0, Ft7_0, rfl, hRt7_0, hM_⟩
  replace hM : Mem w W6 (Gs [⟨.slice (some ⟨g4, 0, none⟩) 16 16, 5, 1, nums .u8 (List.replicate 16 (0 : Int))⟩] [Ft7_0, Ft2_0]) := (Mem.callG (hM.as (H' := Gs [⟨.slice (some ⟨g4, 0, none⟩) 16 16, 5, 1, nums .u8 (List.replicate 16 (0 : Int))⟩] [Ft2_0]) rfl) hM_).as rfl
  clear hM_ ht7
  refine RunF.go 12 [3, 4, 20] (k' := (pin Go.Proofs.Tryd.f9 [1, 1, 1, 0, 0] 3)) (L' := [(3, vt7_0), (4, .int .i64 t7.2), (20, .bool (t2.2 != 4))]) (w' := W6) (by kernel_rfl) ?_
  rcases two ((t2.2 != 4)) with c8 | c8
  · replace h := of_true h c8
    refine RunF.know 20 (b := true) (by kernel_rfl) c8 ?_
    refine RunF.go 13 [0] (k' := (pl Go.Proofs.Tryd.f9 [1, 1, 1, 0, 1, 0, 1])) (L' := [(0, .bool false)]) (w' := W6) (by kernel_rfl) ?_
    obtain rfl := Option.some.inj h
    exact RunF.ret1 0 (.bool false) (fn := Go.Proofs.Tryd.f9) Go.Proofs.Tryd.func9 (by kernel_rfl) (by kernel_rfl) (by kernel_rfl) ⟨_, rfl, rfl, (Mem.pickF (hM.as (H' := Gs [⟨.slice (some ⟨g4, 0, none⟩) 16 16, 5, 1, nums .u8 (List.replicate 16 (0 : Int))⟩] [Ft7_0, Ft2_0]) rfl) [] rfl rfl rfl).ungrp⟩
  · replace h := of_false h c8
    refine RunF.know 20 (b := false) (by kernel_rfl) c8 ?_
    refine RunF.go 4 [3, 24] (k' := (pin Go.Proofs.Tryd.f9 [1, 1, 1, 0, 0] 7)) (L' := [(3, vt7_0), (24, .bool (t7.2 != 0))]) (w' := W6) (by kernel_rfl) ?_
    rcases two ((t7.2 != 0)) with c9 | c9
    · replace h := of_true h c9
      refine RunF.know 24 (b := true) (by kernel_rfl) c9 ?_
      refine RunF.go 9 [0] (k' := (pl Go.Proofs.Tryd.f9 [1, 1, 1, 0, 1, 0, 1])) (L' := [(0, .bool false)]) (w' := W6) (by kernel_rfl) ?_
      obtain rfl := Option.some.inj h
      exact RunF.ret1 0 (.bool false) (fn := Go.Proofs.Tryd.f9) Go.Proofs.Tryd.func9 (by kernel_rfl) (by kernel_rfl) (by kernel_rfl) ⟨_, rfl, rfl, (Mem.pickF (hM.as (H' := Gs [⟨.slice (some ⟨g4, 0, none⟩) 16 16, 5, 1, nums .u8 (List.replicate 16 (0 : Int))⟩] [Ft7_0, Ft2_0]) rfl) [] rfl rfl rfl).ungrp⟩
    · replace h := of_false h c9
      refine RunF.know 24 (b := false) (by kernel_rfl) c9 ?_
      refine RunF.go 1 [3, 24, 25] (k' := (pin Go.Proofs.Tryd.f9 [1, 1, 1, 0, 0] 8)) (L' := [(3, vt7_0), (24, .bool false), (25, vt7_0)]) (w' := W6) (by kernel_rfl) ?_
      rcases two (t7.1.isSome) with c10 | c10
      · replace h := of_true h c10
        obtain ⟨s11, hx_, h⟩ := Option.bind_eq_some_iff.mp h
        have hps11 := rOpt.some hRt7_0 hx_
        obtain ⟨g12, _, rfl, hco13, co13_0, _, rfl, hlo13_0, hqo13_0, ⟨Ao13_1, co13_1, cso13_1, rfl, hro13_1, hqo13_1⟩⟩ := id hps11
        refine RunF.go 8 [3, 29] (k' := (pin Go.Proofs.Tryd.f9 [1, 1, 1, 1, 0] 1)) (L' := [(3, .pointer (some ⟨g12, 0, none⟩)), (29, .pointer (some ⟨g12, 0, none⟩))]) (w' := W6) (by kernel_rfl) ?_
        obtain ⟨W14, hD, hM', hB_⟩ := mk_does (P := Go.Proofs.Tryd.prog) (n := 65) (k := (pin Go.Proofs.Tryd.f9 [1, 1, 1, 1, 0] 1)) (L := [(3, .pointer (some ⟨g12, 0, none⟩)), (29, .pointer (some ⟨g12, 0, none⟩))]) (d := some 30) (e := 5) (z := .int .u8 0) (l := 16) (c := 16) (k2 := (pin Go.Proofs.Tryd.f9 [1, 1, 1, 1, 0] 2)) (by kernel_rfl) (by omega) (by omega) (by omega) hM
        rw [rep_nums] at hM'
        refine RunF.does hD ?_
        replace hM := hM'; clear hD hM'
        generalize W6.heap.size = g15 at hM ⊢
        obtain ⟨t18, ht18, h⟩ := Option.bind_eq_some_iff.mp h
        refine RunF.call (d := some 31) (g := 21) (args := #[.pointer (some ⟨g12, 0, none⟩), .slice (some ⟨g15, 0, none⟩) 16 16, .bool false]) (k2 := (pin Go.Proofs.Tryd.f9 [1, 1, 1, 1, 0] 3)) (by kernel_rfl) (aria_Aria_Block.calls k (.pointer (some ⟨g12, 0, none⟩)) (Oks Ft7_0) s11 (some ⟨g15, 0, none⟩) 16 16 (List.replicate 16 (0 : Int)) false t18 _ (hM.rd 0 rfl) hps11 (fun _ hb_ => ((Mem.oks (hM.as (H' := Gs [⟨.slice (some ⟨g15, 0, none⟩) 16 16, 5, 1, nums .u8 (List.replicate 16 (0 : Int))⟩, ⟨.slice (some ⟨g4, 0, none⟩) 16 16, 5, 1, nums .u8 (List.replicate 16 (0 : Int))⟩] [Ft7_0, Ft2_0]) rfl) 0 rfl).kept hb_)) ht18) ?_
        rintro _ W17 ⟨A19, n20, c21, rfl, hM_⟩
        obtain rfl : t18.1.length = n20 := by have h_ := (hM_.rd 0 rfl).1; simpa [nums_length, bools_length, strs_length] using h_
        replace hM : Mem w W17 (Gs [⟨.slice A19 t18.1.length c21, 5, 1, nums .u8 t18.1⟩, ⟨.slice (some ⟨g15, 0, none⟩) 16 16, 5, 1, nums .u8 (List.replicate 16 (0 : Int))⟩, ⟨.slice (some ⟨g4, 0, none⟩) 16 16, 5, 1, nums .u8 (List.replicate 16 (0 : Int))⟩] [Ft7_0, Ft2_0]) := (Mem.callG (hM.as (H' := Gs [⟨.slice (some ⟨g15, 0, none⟩) 16 16, 5, 1, nums .u8 (List.replicate 16 (0 : Int))⟩, ⟨.slice (some ⟨g4, 0, none⟩) 16 16, 5, 1, nums .u8 (List.replicate 16 (0 : Int))⟩] [Ft7_0, Ft2_0]) rfl) hM_.grp).as rfl
        clear hM_ ht18
        refine RunF.go 10 [5, 6, 35, 36] (k' := (pin Go.Proofs.Tryd.f9 [1, 1, 1, 1, 1, 0] 2)) (L' := [(5, .slice A19 t18.1.length c21), (6, .int .i64 t18.2), (35, .pointer (some ⟨g12, 0, none⟩)), (36, .slice A19 t18.1.length c21)]) (w' := W17) (by kernel_rfl) ?_
        obtain ⟨t24, ht24, h⟩ := Option.bind_eq_some_iff.mp h
        refine RunF.call (d := some 37) (g := 21) (args := #[.pointer (some ⟨g12, 0, none⟩), .slice A19 t18.1.length c21, .bool true]) (k2 := (pin Go.Proofs.Tryd.f9 [1, 1, 1, 1, 1, 0] 3)) (by kernel_rfl) (aria_Aria_Block.calls k (.pointer (some ⟨g12, 0, none⟩)) (Oks Ft7_0) s11 A19 t18.1.length c21 t18.1 true t24 _ (hM.rd 0 rfl) hps11 (fun _ hb_ => ((Mem.oks (hM.as (H' := Gs [⟨.slice A19 t18.1.length c21, 5, 1, nums .u8 t18.1⟩, ⟨.slice (some ⟨g15, 0, none⟩) 16 16, 5, 1, nums .u8 (List.replicate 16 (0 : Int))⟩, ⟨.slice (some ⟨g4, 0, none⟩) 16 16, 5, 1, nums .u8 (List.replicate 16 (0 : Int))⟩] [Ft7_0, Ft2_0]) rfl) 0 rfl).kept hb_)) ht24) ?_
        rintro _ W23 ⟨A25, n26, c27, rfl, hM_⟩
        obtain rfl : t24.1.length = n26 := by have h_ := (hM_.rd 0 rfl).1; simpa [nums_length, bools_length, strs_length] using h_
        replace hM : Mem w W23 (Gs [⟨.slice A25 t24.1.length c27, 5, 1, nums .u8 t24.1⟩, ⟨.slice A19 t18.1.length c21, 5, 1, nums .u8 t18.1⟩, ⟨.slice (some ⟨g15, 0, none⟩) 16 16, 5, 1, nums .u8 (List.replicate 16 (0 : Int))⟩, ⟨.slice (some ⟨g4, 0, none⟩) 16 16, 5, 1, nums .u8 (List.replicate 16 (0 : Int))⟩] [Ft7_0, Ft2_0]) := (Mem.callG (hM.as (H' := Gs [⟨.slice A19 t18.1.length c21, 5, 1, nums .u8 t18.1⟩, ⟨.slice (some ⟨g15, 0, none⟩) 16 16, 5, 1, nums .u8 (List.replicate 16 (0 : Int))⟩, ⟨.slice (some ⟨g4, 0, none⟩) 16 16, 5, 1, nums .u8 (List.replicate 16 (0 : Int))⟩] [Ft7_0, Ft2_0]) rfl) hM_.grp).as rfl
        clear hM_ ht24
        refine RunF.go 7 [5, 6, 7, 8] (k' := (pl Go.Proofs.Tryd.f9 [1, 1, 1, 1, 1, 1, 0])) (L' := [(5, .slice A19 t18.1.length c21), (6, .int .i64 t18.2), (7, .slice A25 t24.1.length c27), (8, .int .i64 t24.2)]) (w' := W23) (by kernel_rfl) ?_
        refine RunF.draw (Still ({ W23 with drawn := W23.drawn + 1 } : World) []) (by kernel_rfl) (by kernel_rfl) ?_
        have hMd30 := hM.drew
        have hS := Still.refl ({ W23 with drawn := W23.drawn + 1 } : World) []
        generalize ({ W23 with drawn := W23.drawn + 1 } : World) = W29 at hMd30 hS ⊢
        replace hM := hMd30
        refine RunAny.y 0 (by kernel_rfl) (yl_pure (d := some 40) (v := .int .i64 t18.2) (k2 := [.inRegion (opsOf (pl Go.Proofs.Tryd.f9 [1, 1, 1, 1, 1, 1, 0])) []]) fun w => by kernel_rfl) (fun _ _ => trivial) hS ?_
        refine RunAny.y 1 (by kernel_rfl) (yl_pure (d := some 41) (v := .bool (t18.2 == 0)) (k2 := [.inRegion (opsOf (pl Go.Proofs.Tryd.f9 [1, 1, 1, 1, 1, 1, 0])) []]) fun w => by kernel_rfl) (fun _ _ => trivial) hS ?_
        refine RunAny.y 2 (by kernel_rfl) (yl_pure (d := some 42) (v := .bool (t18.2 == 0)) (k2 := [.inRegion (opsOf (pl Go.Proofs.Tryd.f9 [1, 1, 1, 1, 1, 1, 0])) []]) fun w => by kernel_rfl) (fun _ _ => trivial) hS ?_
        rcases two ((t18.2 == 0)) with c31 | c31
        · replace h := of_true h c31
          refine RunAny.know 42 (b := true) (by kernel_rfl) c31 ?_
          refine RunAny.y 3 (by kernel_rfl) (yl_pure (d := some 43) (v := .int .i64 t24.2) (k2 := [.inRegion (opsOf (pl Go.Proofs.Tryd.f9 [1, 1, 1, 1, 1, 1, 0])) []]) fun w => by kernel_rfl) (fun _ _ => trivial) hS ?_
          refine RunAny.y 4 (by kernel_rfl) (yl_pure (d := some 44) (v := .bool (t24.2 == 0)) (k2 := [.inRegion (opsOf (pl Go.Proofs.Tryd.f9 [1, 1, 1, 1, 1, 1, 0])) []]) fun w => by kernel_rfl) (fun _ _ => trivial) hS ?_
          refine RunAny.y 5 (by kernel_rfl) (yl_pure (d := some 45) (v := .bool (t24.2 == 0)) (k2 := [.inRegion (opsOf (pl Go.Proofs.Tryd.f9 [1, 1, 1, 1, 1, 1, 0])) []]) fun w => by kernel_rfl) (fun _ _ => trivial) hS ?_
          refine RunAny.y 6 (by kernel_rfl) (yl_pure (d := some 46) (v := .bool (t24.2 == 0)) (k2 := [.inRegion (opsOf (pl Go.Proofs.Tryd.f9 [1, 1, 1, 1, 1, 1, 0])) []]) fun w => by kernel_rfl) (fun _ _ => trivial) hS ?_
          rcases two ((t24.2 == 0)) with c32 | c32
          · replace h := of_true h c32
            refine RunAny.know 46 (b := true) (by kernel_rfl) c32 ?_
            refine RunAny.y 7 (by kernel_rfl) (yl_pure (d := some 47) (v := .slice A19 t18.1.length c21) (k2 := [.inRegion (opsOf (pl Go.Proofs.Tryd.f9 [1, 1, 1, 1, 1, 1, 0])) []]) fun w => by kernel_rfl) (fun _ _ => trivial) hS ?_
            refine RunAny.y 8 (by kernel_rfl) (yl_pure (d := some 48) (v := .int .i64 (t18.1.length : Int)) (k2 := [.inRegion (opsOf (pl Go.Proofs.Tryd.f9 [1, 1, 1, 1, 1, 1, 0])) []]) fun w => by kernel_rfl) (fun _ _ => trivial) hS ?_
            refine RunAny.y 9 (by kernel_rfl) (yl_pure (d := some 49) (v := .bool ((t18.1.length : Int) == 16)) (k2 := [.inRegion (opsOf (pl Go.Proofs.Tryd.f9 [1, 1, 1, 1, 1, 1, 0])) []]) fun w => by kernel_rfl) (fun _ _ => trivial) hS ?_
            refine RunAny.y 10 (by kernel_rfl) (yl_pure (d := some 50) (v := .bool ((t18.1.length : Int) == 16)) (k2 := [.inRegion (opsOf (pl Go.Proofs.Tryd.f9 [1, 1, 1, 1, 1, 1, 0])) []]) fun w => by kernel_rfl) (fun _ _ => trivial) hS ?_
            refine RunAny.y 11 (by kernel_rfl) (yl_pure (d := some 51) (v := .bool ((t18.1.length : Int) == 16)) (k2 := [.inRegion (opsOf (pl Go.Proofs.Tryd.f9 [1, 1, 1, 1, 1, 1, 0])) []]) fun w => by kernel_rfl) (fun _ _ => trivial) hS ?_
            rcases two (((t18.1.length : Int) == 16)) with c33 | c33
            · replace h := of_true h c33
              refine RunAny.know 51 (b := true) (by kernel_rfl) c33 ?_
              refine RunAny.y 12 (by kernel_rfl) (yl_pure (d := some 52) (v := .slice A19 t18.1.length c21) (k2 := [.inRegion (opsOf (pl Go.Proofs.Tryd.f9 [1, 1, 1, 1, 1, 1, 0])) []]) fun w => by kernel_rfl) (fun _ _ => trivial) hS ?_
              refine RunAny.y 13 (by kernel_rfl) (str_y (d := some 53) (A := A19) (m := t18.1.length) (c := c21) (k2 := [.inRegion (opsOf (pl Go.Proofs.Tryd.f9 [1, 1, 1, 1, 1, 1, 0])) []]) t18.1 (by kernel_rfl)) (fun _ hs => ((hM.rd 1 rfl).still hs (by simp))) hS ?_
              refine RunAny.y 14 (by kernel_rfl) (yl_pure (d := some 54) (v := .slice A25 t24.1.length c27) (k2 := [.inRegion (opsOf (pl Go.Proofs.Tryd.f9 [1, 1, 1, 1, 1, 1, 0])) []]) fun w => by kernel_rfl) (fun _ _ => trivial) hS ?_
              refine RunAny.y 15 (by kernel_rfl) (str_y (d := some 55) (A := A25) (m := t24.1.length) (c := c27) (k2 := [.inRegion (opsOf (pl Go.Proofs.Tryd.f9 [1, 1, 1, 1, 1, 1, 0])) []]) t24.1 (by kernel_rfl)) (fun _ hs => ((hM.rd 0 rfl).still hs (by simp))) hS ?_
              refine RunAny.y 16 (by kernel_rfl) (yl_pure (d := some 56) (v := .bool (!((strOf t18.1).toList == (strOf t24.1).toList))) (k2 := [.inRegion (opsOf (pl Go.Proofs.Tryd.f9 [1, 1, 1, 1, 1, 1, 0])) []]) fun w => by kernel_rfl) (fun _ _ => trivial) hS ?_
              refine RunAny.y 17 (by kernel_rfl) (yl_pure (d := some 57) (v := .bool (!((strOf t18.1).toList == (strOf t24.1).toList))) (k2 := [.inRegion (opsOf (pl Go.Proofs.Tryd.f9 [1, 1, 1, 1, 1, 1, 0])) []]) fun w => by kernel_rfl) (fun _ _ => trivial) hS ?_
              refine RunAny.y 18 (by kernel_rfl) (yl_pure (d := some 58) (v := .bool (!((strOf t18.1).toList == (strOf t24.1).toList))) (k2 := [.inRegion (opsOf (pl Go.Proofs.Tryd.f9 [1, 1, 1, 1, 1, 1, 0])) []]) fun w => by kernel_rfl) (fun _ _ => trivial) hS ?_
              rcases two (!((strOf t18.1).toList == (strOf t24.1).toList)) with c34 | c34
              · replace h := of_true h c34
                refine RunAny.know 58 (b := true) (by kernel_rfl) c34 ?_
                refine RunAny.y 19 (by kernel_rfl) (yl_pure (d := some 59) (v := .slice A25 t24.1.length c27) (k2 := [.inRegion (opsOf (pl Go.Proofs.Tryd.f9 [1, 1, 1, 1, 1, 1, 0])) []]) fun w => by kernel_rfl) (fun _ _ => trivial) hS ?_
                refine RunAny.y 20 (by kernel_rfl) (str_y (d := some 60) (A := A25) (m := t24.1.length) (c := c27) (k2 := [.inRegion (opsOf (pl Go.Proofs.Tryd.f9 [1, 1, 1, 1, 1, 1, 0])) []]) t24.1 (by kernel_rfl)) (fun _ hs => ((hM.rd 0 rfl).still hs (by simp))) hS ?_
                obtain ⟨W35, hD, hM', hB_⟩ := mk_does (P := Go.Proofs.Tryd.prog) (n := 65) (k := (one (opsOf (pl Go.Proofs.Tryd.f9 [1, 1, 1, 1, 1, 1, 0])) 21)) (L := (upd (upd (known (upd (upd (upd (upd (upd (upd (upd (known (upd (upd (upd (upd (upd (known (upd (upd (upd (upd (known (upd (upd (upd [(5, .slice A19 t18.1.length c21), (6, .int .i64 t18.2), (7, .slice A25 t24.1.length c27), (8, .int .i64 t24.2)] (some 40) (.int .i64 t18.2)) (some 41) (.bool (t18.2 == 0))) (some 42) (.bool (t18.2 == 0))) 42 true) (some 43) (.int .i64 t24.2)) (some 44) (.bool (t24.2 == 0))) (some 45) (.bool (t24.2 == 0))) (some 46) (.bool (t24.2 == 0))) 46 true) (some 47) (.slice A19 t18.1.length c21)) (some 48) (.int .i64 (t18.1.length : Int))) (some 49) (.bool ((t18.1.length : Int) == 16))) (some 50) (.bool ((t18.1.length : Int) == 16))) (some 51) (.bool ((t18.1.length : Int) == 16))) 51 true) (some 52) (.slice A19 t18.1.length c21)) (some 53) (.string (strOf t18.1))) (some 54) (.slice A25 t24.1.length c27)) (some 55) (.string (strOf t24.1))) (some 56) (.bool (!((strOf t18.1).toList == (strOf t24.1).toList)))) (some 57) (.bool (!((strOf t18.1).toList == (strOf t24.1).toList)))) (some 58) (.bool (!((strOf t18.1).toList == (strOf t24.1).toList)))) 58 true) (some 59) (.slice A25 t24.1.length c27)) (some 60) (.string (strOf t24.1)))) (d := some 61) (e := 5) (z := .int .u8 0) (l := 16) (c := 16) (k2 := [.inRegion (opsOf (pl Go.Proofs.Tryd.f9 [1, 1, 1, 1, 1, 1, 0])) []]) (by kernel_rfl) (by omega) (by omega) (by omega) hM
                rw [rep_nums] at hM'
                refine RunAny.does 21 (by kernel_rfl) hD (hS.below hB_) ?_
                replace hS := hS.below hB_; clear hB_
                replace hM := hM'; clear hD hM'
                generalize W29.heap.size = g36 at hM ⊢
                refine RunAny.rebase hS ?_
                replace hS := Still.refl W35 []
                refine RunAny.y 22 (by kernel_rfl) (str_y (d := some 62) (A := (some ⟨g36, 0, none⟩)) (m := 16) (c := 16) (k2 := [.inRegion (opsOf (pl Go.Proofs.Tryd.f9 [1, 1, 1, 1, 1, 1, 0])) []]) (List.replicate 16 (0 : Int)) (by kernel_rfl)) (fun _ hs => ((hM.rd 0 rfl).still hs (by simp))) hS ?_
                refine RunAny.y 23 (by kernel_rfl) (yl_pure (d := some 63) (v := .bool ((strOf t24.1).toList == (strOf (List.replicate 16 (0 : Int))).toList)) (k2 := [.inRegion (opsOf (pl Go.Proofs.Tryd.f9 [1, 1, 1, 1, 1, 1, 0])) []]) fun w => by kernel_rfl) (fun _ _ => trivial) hS ?_
                refine RunAny.y 24 (by kernel_rfl) (yl_pure (d := some 64) (v := .bool ((strOf t24.1).toList == (strOf (List.replicate 16 (0 : Int))).toList)) (k2 := [.inRegion (opsOf (pl Go.Proofs.Tryd.f9 [1, 1, 1, 1, 1, 1, 0])) []]) fun w => by kernel_rfl) (fun _ _ => trivial) hS ?_
                refine RunAny.y 25 (by kernel_rfl) (yl_pure (d := some 0) (v := .bool ((strOf t24.1).toList == (strOf (List.replicate 16 (0 : Int))).toList)) (k2 := [.inRegion (opsOf (pl Go.Proofs.Tryd.f9 [1, 1, 1, 1, 1, 1, 0])) []]) fun w => by kernel_rfl) (fun _ _ => trivial) hS ?_
                refine RunAny.done (by kernel_rfl) ?_
                clear hS
                obtain rfl := Option.some.inj h
                exact RunF.ret1 0 (.bool ((strOf t24.1).toList == (strOf (List.replicate 16 (0 : Int))).toList)) (fn := Go.Proofs.Tryd.f9) Go.Proofs.Tryd.func9 (by kernel_rfl) (by kernel_rfl) (by kernel_rfl) ⟨_, rfl, rfl, (Mem.pickF (hM.as (H' := Gs [⟨.slice (some ⟨g36, 0, none⟩) 16 16, 5, 1, nums .u8 (List.replicate 16 (0 : Int))⟩, ⟨.slice A25 t24.1.length c27, 5, 1, nums .u8 t24.1⟩, ⟨.slice A19 t18.1.length c21, 5, 1, nums .u8 t18.1⟩, ⟨.slice (some ⟨g15, 0, none⟩) 16 16, 5, 1, nums .u8 (List.replicate 16 (0 : Int))⟩, ⟨.slice (some ⟨g4, 0, none⟩) 16 16, 5, 1, nums .u8 (List.replicate 16 (0 : Int))⟩] [Ft7_0, Ft2_0]) rfl) [] rfl rfl rfl).ungrp⟩
              · replace h := of_false h c34
                refine RunAny.know 58 (b := false) (by kernel_rfl) c34 ?_
                refine RunAny.off 19 (d := some 59) (by kernel_rfl) (by kernel_rfl) hS ?_
                refine RunAny.off 20 (d := some 60) (by kernel_rfl) (by kernel_rfl) hS ?_
                refine RunAny.off 21 (d := some 61) (by kernel_rfl) (by kernel_rfl) hS ?_
                refine RunAny.off 22 (d := some 62) (by kernel_rfl) (by kernel_rfl) hS ?_
                refine RunAny.off 23 (d := some 63) (by kernel_rfl) (by kernel_rfl) hS ?_
                refine RunAny.y 24 (by kernel_rfl) (yl_pure (d := some 64) (v := .bool false) (k2 := [.inRegion (opsOf (pl Go.Proofs.Tryd.f9 [1, 1, 1, 1, 1, 1, 0])) []]) fun w => by kernel_rfl) (fun _ _ => trivial) hS ?_
                refine RunAny.y 25 (by kernel_rfl) (yl_pure (d := some 0) (v := .bool false) (k2 := [.inRegion (opsOf (pl Go.Proofs.Tryd.f9 [1, 1, 1, 1, 1, 1, 0])) []]) fun w => by kernel_rfl) (fun _ _ => trivial) hS ?_
                refine RunAny.done (by kernel_rfl) ?_
                clear hS
                obtain rfl := Option.some.inj h
                exact RunF.ret1 0 (.bool false) (fn := Go.Proofs.Tryd.f9) Go.Proofs.Tryd.func9 (by kernel_rfl) (by kernel_rfl) (by kernel_rfl) ⟨_, rfl, rfl, (Mem.pickF (hM.as (H' := Gs [⟨.slice A25 t24.1.length c27, 5, 1, nums .u8 t24.1⟩, ⟨.slice A19 t18.1.length c21, 5, 1, nums .u8 t18.1⟩, ⟨.slice (some ⟨g15, 0, none⟩) 16 16, 5, 1, nums .u8 (List.replicate 16 (0 : Int))⟩, ⟨.slice (some ⟨g4, 0, none⟩) 16 16, 5, 1, nums .u8 (List.replicate 16 (0 : Int))⟩] [Ft7_0, Ft2_0]) rfl) [] rfl rfl rfl).ungrp⟩
            · replace h := of_false h c33
              refine RunAny.know 51 (b := false) (by kernel_rfl) c33 ?_
              refine RunAny.off 12 (d := some 52) (by kernel_rfl) (by kernel_rfl) hS ?_
              refine RunAny.off 13 (d := some 53) (by kernel_rfl) (by kernel_rfl) hS ?_
              refine RunAny.off 14 (d := some 54) (by kernel_rfl) (by kernel_rfl) hS ?_
              refine RunAny.off 15 (d := some 55) (by kernel_rfl) (by kernel_rfl) hS ?_
              refine RunAny.off 16 (d := some 56) (by kernel_rfl) (by kernel_rfl) hS ?_
              refine RunAny.y 17 (by kernel_rfl) (yl_pure (d := some 57) (v := .bool false) (k2 := [.inRegion (opsOf (pl Go.Proofs.Tryd.f9 [1, 1, 1, 1, 1, 1, 0])) []]) fun w => by kernel_rfl) (fun _ _ => trivial) hS ?_
              refine RunAny.y 18 (by kernel_rfl) (yl_pure (d := some 58) (v := .bool false) (k2 := [.inRegion (opsOf (pl Go.Proofs.Tryd.f9 [1, 1, 1, 1, 1, 1, 0])) []]) fun w => by kernel_rfl) (fun _ _ => trivial) hS ?_
              refine RunAny.off 19 (d := some 59) (by kernel_rfl) (by kernel_rfl) hS ?_
              refine RunAny.off 20 (d := some 60) (by kernel_rfl) (by kernel_rfl) hS ?_
              refine RunAny.off 21 (d := some 61) (by kernel_rfl) (by kernel_rfl) hS ?_
              refine RunAny.off 22 (d := some 62) (by kernel_rfl) (by kernel_rfl) hS ?_
              refine RunAny.off 23 (d := some 63) (by kernel_rfl) (by kernel_rfl) hS ?_
              refine RunAny.y 24 (by kernel_rfl) (yl_pure (d := some 64) (v := .bool false) (k2 := [.inRegion (opsOf (pl Go.Proofs.Tryd.f9 [1, 1, 1, 1, 1, 1, 0])) []]) fun w => by kernel_rfl) (fun _ _ => trivial) hS ?_
              refine RunAny.y 25 (by kernel_rfl) (yl_pure (d := some 0) (v := .bool false) (k2 := [.inRegion (opsOf (pl Go.Proofs.Tryd.f9 [1, 1, 1, 1, 1, 1, 0])) []]) fun w => by kernel_rfl) (fun _ _ => trivial) hS ?_
              refine RunAny.done (by kernel_rfl) ?_
              clear hS
              obtain rfl := Option.some.inj h
              exact RunF.ret1 0 (.bool false) (fn := Go.Proofs.Tryd.f9) Go.Proofs.Tryd.func9 (by kernel_rfl) (by kernel_rfl) (by kernel_rfl) ⟨_, rfl, rfl, (Mem.pickF (hM.as (H' := Gs [⟨.slice A25 t24.1.length c27, 5, 1, nums .u8 t24.1⟩, ⟨.slice A19 t18.1.length c21, 5, 1, nums .u8 t18.1⟩, ⟨.slice (some ⟨g15, 0, none⟩) 16 16, 5, 1, nums .u8 (List.replicate 16 (0 : Int))⟩, ⟨.slice (some ⟨g4, 0, none⟩) 16 16, 5, 1, nums .u8 (List.replicate 16 (0 : Int))⟩] [Ft7_0, Ft2_0]) rfl) [] rfl rfl rfl).ungrp⟩
          · replace h := of_false h c32
            refine RunAny.know 46 (b := false) (by kernel_rfl) c32 ?_
            refine RunAny.off 7 (d := some 47) (by kernel_rfl) (by kernel_rfl) hS ?_
            refine RunAny.off 8 (d := some 48) (by kernel_rfl) (by kernel_rfl) hS ?_
            refine RunAny.off 9 (d := some 49) (by kernel_rfl) (by kernel_rfl) hS ?_
            refine RunAny.y 10 (by kernel_rfl) (yl_pure (d := some 50) (v := .bool false) (k2 := [.inRegion (opsOf (pl Go.Proofs.Tryd.f9 [1, 1, 1, 1, 1, 1, 0])) []]) fun w => by kernel_rfl) (fun _ _ => trivial) hS ?_
            refine RunAny.y 11 (by kernel_rfl) (yl_pure (d := some 51) (v := .bool false) (k2 := [.inRegion (opsOf (pl Go.Proofs.Tryd.f9 [1, 1, 1, 1, 1, 1, 0])) []]) fun w => by kernel_rfl) (fun _ _ => trivial) hS ?_
            refine RunAny.off 12 (d := some 52) (by kernel_rfl) (by kernel_rfl) hS ?_
            refine RunAny.off 13 (d := some 53) (by kernel_rfl) (by kernel_rfl) hS ?_
            refine RunAny.off 14 (d := some 54) (by kernel_rfl) (by kernel_rfl) hS ?_
            refine RunAny.off 15 (d := some 55) (by kernel_rfl) (by kernel_rfl) hS ?_
            refine RunAny.off 16 (d := some 56) (by kernel_rfl) (by kernel_rfl) hS ?_
            refine RunAny.y 17 (by kernel_rfl) (yl_pure (d := some 57) (v := .bool false) (k2 := [.inRegion (opsOf (pl Go.Proofs.Tryd.f9 [1, 1, 1, 1, 1, 1, 0])) []]) fun w => by kernel_rfl) (fun _ _ => trivial) hS ?_
            refine RunAny.y 18 (by kernel_rfl) (yl_pure (d := some 58) (v := .bool false) (k2 := [.inRegion (opsOf (pl Go.Proofs.Tryd.f9 [1, 1, 1, 1, 1, 1, 0])) []]) fun w => by kernel_rfl) (fun _ _ => trivial) hS ?_
            refine RunAny.off 19 (d := some 59) (by kernel_rfl) (by kernel_rfl) hS ?_
            refine RunAny.off 20 (d := some 60) (by kernel_rfl) (by kernel_rfl) hS ?_
            refine RunAny.off 21 (d := some 61) (by kernel_rfl) (by kernel_rfl) hS ?_
            refine RunAny.off 22 (d := some 62) (by kernel_rfl) (by kernel_rfl) hS ?_
            refine RunAny.off 23 (d := some 63) (by kernel_rfl) (by kernel_rfl) hS ?_
            refine RunAny.y 24 (by kernel_rfl) (yl_pure (d := some 64) (v := .bool false) (k2 := [.inRegion (opsOf (pl Go.Proofs.Tryd.f9 [1, 1, 1, 1, 1, 1, 0])) []]) fun w => by kernel_rfl) (fun _ _ => trivial) hS ?_
            refine RunAny.y 25 (by kernel_rfl) (yl_pure (d := some 0) (v := .bool false) (k2 := [.inRegion (opsOf (pl Go.Proofs.Tryd.f9 [1, 1, 1, 1, 1, 1, 0])) []]) fun w => by kernel_rfl) (fun _ _ => trivial) hS ?_
            refine RunAny.done (by kernel_rfl) ?_
            clear hS
            obtain rfl := Option.some.inj h
            exact RunF.ret1 0 (.bool false) (fn := Go.Proofs.Tryd.f9) Go.Proofs.Tryd.func9 (by kernel_rfl) (by kernel_rfl) (by kernel_rfl) ⟨_, rfl, rfl, (Mem.pickF (hM.as (H' := Gs [⟨.slice A25 t24.1.length c27, 5, 1, nums .u8 t24.1⟩, ⟨.slice A19 t18.1.length c21, 5, 1, nums .u8 t18.1⟩, ⟨.slice (some ⟨g15, 0, none⟩) 16 16, 5, 1, nums .u8 (List.replicate 16 (0 : Int))⟩, ⟨.slice (some ⟨g4, 0, none⟩) 16 16, 5, 1, nums .u8 (List.replicate 16 (0 : Int))⟩] [Ft7_0, Ft2_0]) rfl) [] rfl rfl rfl).ungrp⟩
        · replace h := of_false h c31
          refine RunAny.know 42 (b := false) (by kernel_rfl) c31 ?_
          refine RunAny.off 3 (d := some 43) (by kernel_rfl) (by kernel_rfl) hS ?_
          refine RunAny.off 4 (d := some 44) (by kernel_rfl) (by kernel_rfl) hS ?_
          refine RunAny.y 5 (by kernel_rfl) (yl_pure (d := some 45) (v := .bool false) (k2 := [.inRegion (opsOf (pl Go.Proofs.Tryd.f9 [1, 1, 1, 1, 1, 1, 0])) []]) fun w => by kernel_rfl) (fun _ _ => trivial) hS ?_
          refine RunAny.y 6 (by kernel_rfl) (yl_pure (d := some 46) (v := .bool false) (k2 := [.inRegion (opsOf (pl Go.Proofs.Tryd.f9 [1, 1, 1, 1, 1, 1, 0])) []]) fun w => by kernel_rfl) (fun _ _ => trivial) hS ?_
          refine RunAny.off 7 (d := some 47) (by kernel_rfl) (by kernel_rfl) hS ?_
          refine RunAny.off 8 (d := some 48) (by kernel_rfl) (by kernel_rfl) hS ?_
          refine RunAny.off 9 (d := some 49) (by kernel_rfl) (by kernel_rfl) hS ?_
          refine RunAny.y 10 (by kernel_rfl) (yl_pure (d := some 50) (v := .bool false) (k2 := [.inRegion (opsOf (pl Go.Proofs.Tryd.f9 [1, 1, 1, 1, 1, 1, 0])) []]) fun w => by kernel_rfl) (fun _ _ => trivial) hS ?_
          refine RunAny.y 11 (by kernel_rfl) (yl_pure (d := some 51) (v := .bool false) (k2 := [.inRegion (opsOf (pl Go.Proofs.Tryd.f9 [1, 1, 1, 1, 1, 1, 0])) []]) fun w => by kernel_rfl) (fun _ _ => trivial) hS ?_
          refine RunAny.off 12 (d := some 52) (by kernel_rfl) (by kernel_rfl) hS ?_
          refine RunAny.off 13 (d := some 53) (by kernel_rfl) (by kernel_rfl) hS ?_
          refine RunAny.off 14 (d := some 54) (by kernel_rfl) (by kernel_rfl) hS ?_
          refine RunAny.off 15 (d := some 55) (by kernel_rfl) (by kernel_rfl) hS ?_
          refine RunAny.off 16 (d := some 56) (by kernel_rfl) (by kernel_rfl) hS ?_
          refine RunAny.y 17 (by kernel_rfl) (yl_pure (d := some 57) (v := .bool false) (k2 := [.inRegion (opsOf (pl Go.Proofs.Tryd.f9 [1, 1, 1, 1, 1, 1, 0])) []]) fun w => by kernel_rfl) (fun _ _ => trivial) hS ?_
          refine RunAny.y 18 (by kernel_rfl) (yl_pure (d := some 58) (v := .bool false) (k2 := [.inRegion (opsOf (pl Go.Proofs.Tryd.f9 [1, 1, 1, 1, 1, 1, 0])) []]) fun w => by kernel_rfl) (fun _ _ => trivial) hS ?_
          refine RunAny.off 19 (d := some 59) (by kernel_rfl) (by kernel_rfl) hS ?_
          refine RunAny.off 20 (d := some 60) (by kernel_rfl) (by kernel_rfl) hS ?_
          refine RunAny.off 21 (d := some 61) (by kernel_rfl) (by kernel_rfl) hS ?_
          refine RunAny.off 22 (d := some 62) (by kernel_rfl) (by kernel_rfl) hS ?_
          refine RunAny.off 23 (d := some 63) (by kernel_rfl) (by kernel_rfl) hS ?_
          refine RunAny.y 24 (by kernel_rfl) (yl_pure (d := some 64) (v := .bool false) (k2 := [.inRegion (opsOf (pl Go.Proofs.Tryd.f9 [1, 1, 1, 1, 1, 1, 0])) []]) fun w => by kernel_rfl) (fun _ _ => trivial) hS ?_
          refine RunAny.y 25 (by kernel_rfl) (yl_pure (d := some 0) (v := .bool false) (k2 := [.inRegion (opsOf (pl Go.Proofs.Tryd.f9 [1, 1, 1, 1, 1, 1, 0])) []]) fun w => by kernel_rfl) (fun _ _ => trivial) hS ?_
          refine RunAny.done (by kernel_rfl) ?_
          clear hS
          obtain rfl := Option.some.inj h
          exact RunF.ret1 0 (.bool false) (fn := Go.Proofs.Tryd.f9) Go.Proofs.Tryd.func9 (by kernel_rfl) (by kernel_rfl) (by kernel_rfl) ⟨_, rfl, rfl, (Mem.pickF (hM.as (H' := Gs [⟨.slice A25 t24.1.length c27, 5, 1, nums .u8 t24.1⟩, ⟨.slice A19 t18.1.length c21, 5, 1, nums .u8 t18.1⟩, ⟨.slice (some ⟨g15, 0, none⟩) 16 16, 5, 1, nums .u8 (List.replicate 16 (0 : Int))⟩, ⟨.slice (some ⟨g4, 0, none⟩) 16 16, 5, 1, nums .u8 (List.replicate 16 (0 : Int))⟩] [Ft7_0, Ft2_0]) rfl) [] rfl rfl rfl).ungrp⟩
      · replace h := of_false h c10
        obtain rfl := rOpt.none hRt7_0 c10
        refine RunF.go 8 [0] (k' := (pl Go.Proofs.Tryd.f9 [1, 1, 1, 0, 1, 0, 1])) (L' := [(0, .bool false)]) (w' := W6) (by kernel_rfl) ?_
        obtain rfl := Option.some.inj h
        exact RunF.ret1 0 (.bool false) (fn := Go.Proofs.Tryd.f9) Go.Proofs.Tryd.func9 (by kernel_rfl) (by kernel_rfl) (by kernel_rfl) ⟨_, rfl, rfl, (Mem.pickF (hM.as (H' := Gs [⟨.slice (some ⟨g4, 0, none⟩) 16 16, 5, 1, nums .u8 (List.replicate 16 (0 : Int))⟩] [Ft7_0, Ft2_0]) rfl) [] rfl rfl rfl).ungrp⟩

/-! ### scrim/scrimlaw10.Bytes: function 10 -/
def scrimlaw10_Bytes.l0 : Nat → Int → (List Int) → Int → Option (List Int)
  | 0, _, _, _ => none
  | k + 1, a0, x5_0, x6_0 => if (decide (x6_0 < a0)) = true then (if (decide (0 ≤ x6_0)) = true then (if (decide (x6_0 < ((a0 : Int).toNat : Int))) = true then (scrimlaw10_Bytes.l0 k a0 (x5_0.set (x6_0 : Int).toNat (U8 (I64 (x6_0 * 37)))) (I64 (x6_0 + 1))) else (none)) else (none)) else (some x5_0)
def scrimlaw10_Bytes.f (k : Nat) (a0 : Int) (a1 : List Int) : Option (List Int) := if (decide (0 ≤ a0)) = true then (if (decide (a0 ≤ 1000000000)) = true then (scrimlaw10_Bytes.l0 k a0 (a1.take (List.replicate ((a0 : Int).toNat) (0 : Int)).length ++ (List.replicate ((a0 : Int).toNat) (0 : Int)).drop a1.length) (a1.length : Int)) else (none)) else (none)
set_option maxRecDepth 100000 in
theorem scrimlaw10_Bytes.calls (k : Nat) (a0 : Int) (Ap1 : Option Addr) (np1 cp1 : Nat) (a1 : List Int) (r : List Int) (w : World) (hr1 : Rd w (.slice Ap1 np1 cp1) (nums .u8 a1)) (h : scrimlaw10_Bytes.f k a0 a1 = some r) :
    Calls Go.Proofs.Tryd.prog 10 #[.int .i64 a0, (.slice Ap1 np1 cp1)] w (Ret fun v w' => ∃ A0' n0' c0', v = .slice A0' n0' c0' ∧ Mem w w' [⟨.slice A0' n0' c0', 5, 1, nums .u8 r⟩]) := by
  obtain rfl : a1.length = np1 := by have h_ := hr1.1; simpa [nums_length, bools_length, strs_length] using h_
  unfold scrimlaw10_Bytes.f at h
  refine calls_of [.int .i64 a0, .slice Ap1 a1.length cp1] (fn := Go.Proofs.Tryd.f10) Go.Proofs.Tryd.func10 (by kernel_rfl) (by kernel_rfl) ?_
  have hM := Mem.refl w
  refine RunF.go 7 [0, 1, 7] (k' := (pin Go.Proofs.Tryd.f10 [1, 0] 1)) (L' := [(0, .int .i64 a0), (1, .slice Ap1 a1.length cp1), (7, .int .i64 a0)]) (w' := w) (by kernel_rfl) ?_
  rcases two (decide (0 ≤ a0)) with c3 | c3
  · replace h := of_true h c3
    rcases two (decide (a0 ≤ 1000000000)) with c4 | c4
    · replace h := of_true h c4
      have := of_decide_eq_true c3
      have := of_decide_eq_true c4
      obtain ⟨W1, hD, hM', hB_⟩ := mk_does (P := Go.Proofs.Tryd.prog) (n := 26) (k := (pin Go.Proofs.Tryd.f10 [1, 0] 1)) (L := [(0, .int .i64 a0), (1, .slice Ap1 a1.length cp1), (7, .int .i64 a0)]) (d := some 8) (e := 5) (z := .int .u8 0) (l := a0) (c := a0) (k2 := (pin Go.Proofs.Tryd.f10 [1, 0] 2)) (by kernel_rfl) (by omega) (by omega) (by omega) hM
      rw [rep_nums] at hM'
      refine RunF.does hD ?_
      replace hM := hM'; clear hD hM'
      generalize w.heap.size = g2 at hM ⊢
      refine RunF.go 6 [0, 1, 5, 9, 10] (k' := (pin Go.Proofs.Tryd.f10 [1, 1, 0] 2)) (L' := [(0, .int .i64 a0), (1, .slice Ap1 a1.length cp1), (5, .slice (some ⟨g2, 0, none⟩) ((a0 : Int).toNat) ((a0 : Int).toNat)), (9, .slice (some ⟨g2, 0, none⟩) ((a0 : Int).toNat) ((a0 : Int).toNat)), (10, .slice Ap1 a1.length cp1)]) (w' := W1) (by kernel_rfl) ?_
      obtain ⟨W6, hD, hM', hS_⟩ := cp_does (P := Go.Proofs.Tryd.prog) (n := 26) (k := (pin Go.Proofs.Tryd.f10 [1, 1, 0] 2)) (L := [(0, .int .i64 a0), (1, .slice Ap1 a1.length cp1), (5, .slice (some ⟨g2, 0, none⟩) ((a0 : Int).toNat) ((a0 : Int).toNat)), (9, .slice (some ⟨g2, 0, none⟩) ((a0 : Int).toNat) ((a0 : Int).toNat)), (10, .slice Ap1 a1.length cp1)]) (d := some 11) (ty := 5) (A := (some ⟨g2, 0, none⟩)) (m := (a0 : Int).toNat) (c := (a0 : Int).toNat) (A2 := Ap1) (m2 := a1.length) (c2 := cp1) (cs := nums .u8 (List.replicate ((a0 : Int).toNat) (0 : Int))) (ys := nums .u8 a1) (k2 := (pin Go.Proofs.Tryd.f10 [1, 1, 0] 3)) [] [] (by kernel_rfl) (hM.pick [0] rfl rfl) (hr1.mono hM.below) (one_nums _ _)
      simp only [nums_length, nums_take, nums_drop, nums_append] at hM'
      refine RunF.does hD ?_
      replace hM := hM'; clear hM' hD hS_
      refine RunF.go 10 [0, 5, 6] (k' := (pl Go.Proofs.Tryd.f10 [1, 1, 1, 0, 1, 0, 0])) (L' := [(0, .int .i64 a0), (5, .slice (some ⟨g2, 0, none⟩) ((a0 : Int).toNat) ((a0 : Int).toNat)), (6, .int .i64 (a1.length : Int))]) (w' := W6) (by kernel_rfl) ?_
      have l0 : ∀ (k_ : Nat), k_ ≤ k → ∀ (x5_0 : List Int) (x6_0 : Int) (W : World) (hM : Mem w W [⟨.slice (some ⟨g2, 0, none⟩) ((a0 : Int).toNat) ((a0 : Int).toNat), 5, 1, nums .u8 x5_0⟩]) (h : scrimlaw10_Bytes.l0 k_ a0 x5_0 x6_0 = some r), RunF Go.Proofs.Tryd.prog (Ret fun v w' => ∃ A0' n0' c0', v = .slice A0' n0' c0' ∧ Mem w w' [⟨.slice A0' n0' c0', 5, 1, nums .u8 r⟩]) 10 (pl Go.Proofs.Tryd.f10 [1, 1, 1, 0, 1, 0, 0]) 26 [(0, .int .i64 a0), (5, .slice (some ⟨g2, 0, none⟩) ((a0 : Int).toNat) ((a0 : Int).toNat)), (6, .int .i64 x6_0)] W := by
        intro k_
        induction k_ using Nat.strongRecOn with
        | _ k_ ih0 =>
          intro hk x5_0 x6_0 W hM h
          cases k_ with
          | zero => exact absurd h (by simp [scrimlaw10_Bytes.l0])
          | succ k =>
            simp only [scrimlaw10_Bytes.l0] at h
            replace ih0 : ∀ m, m ≤ k → _ := fun m hm => ih0 m (by omega) (by omega)
            refine RunF.go 7 [0, 5, 6, 16] (k' := (pl Go.Proofs.Tryd.f10 [1, 1, 1, 0, 1, 0, 0, 0, 1])) (L' := [(0, .int .i64 a0), (5, .slice (some ⟨g2, 0, none⟩) ((a0 : Int).toNat) ((a0 : Int).toNat)), (6, .int .i64 x6_0), (16, .bool (decide (x6_0 < a0)))]) (w' := W) (by kernel_rfl) ?_
            rcases two (decide (x6_0 < a0)) with c7 | c7
            · replace h := of_true h c7
              refine RunF.know 16 (b := true) (by kernel_rfl) c7 ?_
              refine RunF.go 10 [0, 5, 6, 19, 20, 23] (k' := (pin Go.Proofs.Tryd.f10 [1, 1, 1, 0, 1, 0, 0, 1, 0, 0] 5)) (L' := [(0, .int .i64 a0), (5, .slice (some ⟨g2, 0, none⟩) ((a0 : Int).toNat) ((a0 : Int).toNat)), (6, .int .i64 x6_0), (19, .slice (some ⟨g2, 0, none⟩) ((a0 : Int).toNat) ((a0 : Int).toNat)), (20, .int .i64 x6_0), (23, .int .u8 (U8 (I64 (x6_0 * 37))))]) (w' := W) (by kernel_rfl) ?_
              rcases two (decide (0 ≤ x6_0)) with c9 | c9
              · replace h := of_true h c9
                rcases two (decide (x6_0 < ((a0 : Int).toNat : Int))) with c10 | c10
                · replace h := of_true h c10
                  obtain ⟨q8, hAq8, hcq8, hfq8, hlq8⟩ := hM.num_at 0 rfl (i := x6_0) (of_decide_eq_true c9) (by have h_ := of_decide_eq_true c10; omega)
                  refine RunF.y (idx_own (d := some 24) (A := (some ⟨g2, 0, none⟩)) (m := (a0 : Int).toNat) (i := x6_0) (k2 := (pin Go.Proofs.Tryd.f10 [1, 1, 1, 0, 1, 0, 0, 1, 0, 0] 6)) (by kernel_rfl) (of_decide_eq_true c9) (by have h_ := of_decide_eq_true c10; omega) hAq8) trivial ?_
                  obtain ⟨g_, hA_, hc_, hf_, hl_⟩ := hM.num_at 0 rfl (i := x6_0) (of_decide_eq_true c9) (by have h_ := of_decide_eq_true c10; omega)
                  obtain rfl : q8 = g_ := by rw [hAq8] at hA_; injection hA_ with hA_; injection hA_
                  refine RunF.doesU (st_u (p := (⟨q8, (x6_0 : Int).toNat, none⟩ : Addr)) (v := .int .u8 (U8 (I64 (x6_0 * 37)))) (k2 := (pin Go.Proofs.Tryd.f10 [1, 1, 1, 0, 1, 0, 0, 1, 0, 0] 7)) (by kernel_rfl) hc_ hf_) ?_
                  replace hM : Mem w (W.setCell (⟨q8, (x6_0 : Int).toNat, none⟩ : Addr) (.int .u8 (U8 (I64 (x6_0 * 37))))) [⟨.slice (some ⟨g2, 0, none⟩) ((a0 : Int).toNat) ((a0 : Int).toNat), 5, 1, nums .u8 (x5_0.set (x6_0 : Int).toNat (U8 (I64 (x6_0 * 37))))⟩] := Mem.put_num [] [] (hM.pick [0] rfl rfl) hAq8 _ hl_ _
                  generalize W.setCell (⟨q8, (x6_0 : Int).toNat, none⟩ : Addr) (.int .u8 (U8 (I64 (x6_0 * 37)))) = W11 at hM ⊢
                  clear hc_ hf_ hl_ hA_ hcq8
                  refine RunF.go 8 [0, 5, 6] (k' := (pl Go.Proofs.Tryd.f10 [1, 1, 1, 0, 1, 0, 0])) (L' := [(0, .int .i64 a0), (5, .slice (some ⟨g2, 0, none⟩) ((a0 : Int).toNat) ((a0 : Int).toNat)), (6, .int .i64 (I64 (x6_0 + 1)))]) (w' := W11) (by kernel_rfl) ?_
                  exact ih0 k (by omega) (x5_0.set (x6_0 : Int).toNat (U8 (I64 (x6_0 * 37)))) (I64 (x6_0 + 1)) _ (hM.pick [0] rfl rfl) h
                · replace h := of_false h c10
                  cases h
              · replace h := of_false h c9
                cases h
            · replace h := of_false h c7
              refine RunF.know 16 (b := false) (by kernel_rfl) c7 ?_
              refine RunF.go 7 [4] (k' := (pl Go.Proofs.Tryd.f10 [1, 1, 1, 1, 1])) (L' := [(4, .slice (some ⟨g2, 0, none⟩) ((a0 : Int).toNat) ((a0 : Int).toNat))]) (w' := W) (by kernel_rfl) ?_
              obtain rfl := Option.some.inj h
              exact RunF.ret1 4 (.slice (some ⟨g2, 0, none⟩) ((a0 : Int).toNat) ((a0 : Int).toNat)) (fn := Go.Proofs.Tryd.f10) Go.Proofs.Tryd.func10 (by kernel_rfl) (by kernel_rfl) (by kernel_rfl) ⟨_, rfl, (some ⟨g2, 0, none⟩), (a0 : Int).toNat, (a0 : Int).toNat, rfl, (hM.pick [0] rfl rfl)⟩
      exact l0 k (Nat.le_refl _) (a1.take (List.replicate ((a0 : Int).toNat) (0 : Int)).length ++ (List.replicate ((a0 : Int).toNat) (0 : Int)).drop a1.length) (a1.length : Int) _ (hM.pick [0] rfl rfl) h
    · replace h := of_false h c4
      cases h
  · replace h := of_false h c3
    cases h

/-! ### scrim/aria.Keys: function 13 -/
def aria_Keys.f (k : Nat) (a0 : List Int) : Option (List (List Int) × Int) := (aria_fits.f k a0).bind fun t2 => (if (!t2) = true then (some (([] : List (List Int)), 4)) else ((aria_made.f k).bind fun t5 => ((aria_boxes_keys.f k t5 a0).bind fun t7 => (some (t7, 0)))))
set_option maxRecDepth 100000 in
theorem aria_Keys.calls (k : Nat) (Ap0 : Option Addr) (np0 cp0 : Nat) (a0 : List Int) (r : List (List Int) × Int) (w : World) (hr0 : Rd w (.slice Ap0 np0 cp0) (nums .u8 a0)) (hG0 : Rg w 0 (nums .u8 [1, 2, 4, 8, 16, 32, 64, 128])) (h : aria_Keys.f k a0 = some r) :
    Calls Go.Proofs.Tryd.prog 13 #[(.slice Ap0 np0 cp0)] w (Ret fun v w' => ∃ (v0' : Value) (F0' : List Ent), v = .tuple #[v0', .int .i64 r.2] ∧ (rRows (rNums .u8)) (Oks F0') v0' r.1 ∧ Mem w w' (Gs [] [F0'])) := by
  obtain rfl : a0.length = np0 := by have h_ := hr0.1; simpa [nums_length, bools_length, strs_length] using h_
  unfold aria_Keys.f at h
  refine calls_of [.slice Ap0 a0.length cp0] (fn := Go.Proofs.Tryd.f13) Go.Proofs.Tryd.func13 (by kernel_rfl) (by kernel_rfl) ?_
  have hM := Mem.refl w
  refine RunF.go 9 [0, 4] (k' := (pin Go.Proofs.Tryd.f13 [1, 0, 0] 1)) (L' := [(0, .slice Ap0 a0.length cp0), (4, .slice Ap0 a0.length cp0)]) (w' := w) (by kernel_rfl) ?_
  obtain ⟨t2, ht2, h⟩ := Option.bind_eq_some_iff.mp h
  refine RunF.call (d := some 5) (g := 23) (args := #[.slice Ap0 a0.length cp0]) (k2 := (pin Go.Proofs.Tryd.f13 [1, 0, 0] 2)) (by kernel_rfl) (aria_fits.calls k Ap0 a0.length cp0 a0 t2 _ (hr0.mono hM.below) ht2) ?_
  rintro _ W1 ⟨rfl, hM_⟩
  replace hM := hM.call hM_
  clear hM_ ht2
  refine RunF.go 2 [0, 6] (k' := (pl Go.Proofs.Tryd.f13 [1, 0, 1])) (L' := [(0, .slice Ap0 a0.length cp0), (6, .bool (!t2))]) (w' := W1) (by kernel_rfl) ?_
  rcases two (!t2) with c3 | c3
  · replace h := of_true h c3
    refine RunF.know 6 (b := true) (by kernel_rfl) c3 ?_
    refine RunF.go 6 [2, 3] (k' := (pl Go.Proofs.Tryd.f13 [1, 0, 1, 0, 1])) (L' := [(2, .slice none 0 0), (3, .int .i64 4)]) (w' := W1) (by kernel_rfl) ?_
    obtain rfl := Option.some.inj h
    exact RunF.ret2 2 3 (.slice none 0 0) (.int .i64 4) (fn := Go.Proofs.Tryd.f13) Go.Proofs.Tryd.func13 (by kernel_rfl) (by kernel_rfl) (by kernel_rfl) (by kernel_rfl) ⟨_, rfl, .slice none 0 0, ([] : List Ent), rfl, ⟨_, _, _, rfl, (fun _ _ => ⟨rfl, Nat.le_refl _, fun i u hi => by cases hi⟩), (Each2.nil _)⟩, (Mem.pickF (hM.as (H' := Gs [] []) rfl) [] rfl rfl (by simp [Gs]))⟩
  · replace h := of_false h c3
    refine RunF.know 6 (b := false) (by kernel_rfl) c3 ?_
    refine RunF.go 4 [0] (k' := (pin Go.Proofs.Tryd.f13 [1, 1, 0] 0)) (L' := [(0, .slice Ap0 a0.length cp0)]) (w' := W1) (by kernel_rfl) ?_
    obtain ⟨t5, ht5, h⟩ := Option.bind_eq_some_iff.mp h
    refine RunF.call (d := some 7) (g := 24) (args := #[]) (k2 := (pin Go.Proofs.Tryd.f13 [1, 1, 0] 1)) (by kernel_rfl) (aria_made.calls k t5 _ (hG0.mono hM.below) ht5) ?_
    rintro vt5_0 W4 ⟨_, Ft5_0, rfl, hRt5_0, hM_⟩
    obtain ⟨cst5_0, rfl, hlt5_0, hqt5_0⟩ := hRt5_0
    replace hM : Mem w W4 (Gs [] [Ft5_0]) := (Mem.callG (hM.as (H' := Gs [] []) rfl) hM_).as rfl
    clear hM_ ht5
    refine RunF.go 1 [7, 8] (k' := (pin Go.Proofs.Tryd.f13 [1, 1, 0] 2)) (L' := [(7, .agg (cst5_0).toArray), (8, .slice Ap0 a0.length cp0)]) (w' := W4) (by kernel_rfl) ?_
    obtain ⟨t7, ht7, h⟩ := Option.bind_eq_some_iff.mp h
    refine RunF.call (d := some 9) (g := 25) (args := #[.agg (cst5_0).toArray, .slice Ap0 a0.length cp0]) (k2 := (pin Go.Proofs.Tryd.f13 [1, 1, 0] 3)) (by kernel_rfl) (aria_boxes_keys.calls k (.agg (cst5_0).toArray) (Oks Ft5_0) t5 Ap0 a0.length cp0 a0 t7 _ (hr0.mono hM.below) ⟨_, rfl, hlt5_0, hqt5_0⟩ (fun _ hb_ => ((Mem.oks (hM.as (H' := Gs [] [Ft5_0]) rfl) 0 rfl).kept hb_)) ht7) ?_
    rintro vt7_0 W6 ⟨_, Ft7_0, rfl, hRt7_0, hM_⟩
    obtain ⟨At7_0, ct7_0, cst7_0, rfl, hrt7_0, hqt7_0⟩ := hRt7_0
    replace hM : Mem w W6 (Gs [] [Ft7_0, Ft5_0]) := (Mem.callG (hM.as (H' := Gs [] [Ft5_0]) rfl) hM_).as rfl
    clear hM_ ht7
    refine RunF.go 3 [2, 3] (k' := (pl Go.Proofs.Tryd.f13 [1, 1, 1])) (L' := [(2, .slice At7_0 t7.length ct7_0), (3, .int .i64 0)]) (w' := W6) (by kernel_rfl) ?_
    obtain rfl := Option.some.inj h
    exact RunF.ret2 2 3 (.slice At7_0 t7.length ct7_0) (.int .i64 0) (fn := Go.Proofs.Tryd.f13) Go.Proofs.Tryd.func13 (by kernel_rfl) (by kernel_rfl) (by kernel_rfl) (by kernel_rfl) ⟨_, rfl, .slice At7_0 t7.length ct7_0, Ft7_0, rfl, ⟨_, _, _, rfl, hrt7_0, hqt7_0⟩, (Mem.pickF (hM.as (H' := Gs [] [Ft7_0, Ft5_0]) rfl) [0] rfl rfl rfl)⟩

/-! ### scrim/scrimlaw10.within: function 12 -/
def scrimlaw10_within.f (k : Nat) (a0 : Int) (a1 : Int) : Option (Int) := if (decide (a1 = 0)) = true then (none) else (if (decide ((Int.tmod a0 a1) < 0)) = true then (some (I64 ((Int.tmod a0 a1) + a1))) else (some (Int.tmod a0 a1)))
set_option maxRecDepth 100000 in
theorem scrimlaw10_within.calls (k : Nat) (a0 : Int) (a1 : Int) (r : Int) (w : World) (h : scrimlaw10_within.f k a0 a1 = some r) :
    Calls Go.Proofs.Tryd.prog 12 #[.int .i64 a0, .int .i64 a1] w (Ret fun v w' => v = .int .i64 r ∧ Mem w w' []) := by
  unfold scrimlaw10_within.f at h
  refine calls_of [.int .i64 a0, .int .i64 a1] (fn := Go.Proofs.Tryd.f12) Go.Proofs.Tryd.func12 (by kernel_rfl) (by kernel_rfl) ?_
  have hM := Mem.refl w
  refine RunF.go 8 [1, 6, 7] (k' := (pin Go.Proofs.Tryd.f12 [1, 0] 2)) (L' := [(1, .int .i64 a1), (6, .int .i64 a0), (7, .int .i64 a1)]) (w' := w) (by kernel_rfl) ?_
  rcases two (decide (a1 = 0)) with c1 | c1
  · replace h := of_true h c1
    cases h
  · replace h := of_false h c1
    refine RunF.y (div_y (d := some 8) (b := false) (kd := .i64) (x := a0) (y := a1) (k2 := (pin Go.Proofs.Tryd.f12 [1, 0] 3)) (by kernel_rfl) c1) trivial ?_
    refine RunF.go 8 [1, 5, 10] (k' := (pl Go.Proofs.Tryd.f12 [1, 1, 0, 1])) (L' := [(1, .int .i64 a1), (5, .int .i64 (Int.tmod a0 a1)), (10, .bool (decide ((Int.tmod a0 a1) < 0)))]) (w' := w) (by kernel_rfl) ?_
    rcases two (decide ((Int.tmod a0 a1) < 0)) with c2 | c2
    · replace h := of_true h c2
      refine RunF.know 10 (b := true) (by kernel_rfl) c2 ?_
      refine RunF.go 12 [4] (k' := (pl Go.Proofs.Tryd.f12 [1, 1, 1, 1])) (L' := [(4, .int .i64 (I64 ((Int.tmod a0 a1) + a1)))]) (w' := w) (by kernel_rfl) ?_
      obtain rfl := Option.some.inj h
      exact RunF.ret1 4 (.int .i64 (I64 ((Int.tmod a0 a1) + a1))) (fn := Go.Proofs.Tryd.f12) Go.Proofs.Tryd.func12 (by kernel_rfl) (by kernel_rfl) (by kernel_rfl) ⟨_, rfl, rfl, (hM.pick [] rfl rfl)⟩
    · replace h := of_false h c2
      refine RunF.know 10 (b := false) (by kernel_rfl) c2 ?_
      refine RunF.go 7 [4] (k' := (pl Go.Proofs.Tryd.f12 [1, 1, 1, 1])) (L' := [(4, .int .i64 (Int.tmod a0 a1))]) (w' := w) (by kernel_rfl) ?_
      obtain rfl := Option.some.inj h
      exact RunF.ret1 4 (.int .i64 (Int.tmod a0 a1)) (fn := Go.Proofs.Tryd.f12) Go.Proofs.Tryd.func12 (by kernel_rfl) (by kernel_rfl) (by kernel_rfl) ⟨_, rfl, rfl, (hM.pick [] rfl rfl)⟩

/-! ### scrim/scrimlaw10.key: function 14 -/
def scrimlaw10_key.f (k : Nat) (a0 : List Int) (a1 : Int) : Option (List Int) := (scrimlaw10_within.f k a1 3).bind fun t5 => (if (decide (0 ≤ t5)) = true then (if (decide (t5 < (3 : Int))) = true then ((scrimlaw10_Bytes.f k (rd ([16, 24, 32] : List Int) t5) a0).bind fun t10 => (some t10)) else (none)) else (none))
set_option maxRecDepth 100000 in
theorem scrimlaw10_key.calls (k : Nat) (Ap0 : Option Addr) (np0 cp0 : Nat) (a0 : List Int) (a1 : Int) (r : List Int) (w : World) (hr0 : Rd w (.slice Ap0 np0 cp0) (nums .u8 a0)) (h : scrimlaw10_key.f k a0 a1 = some r) :
    Calls Go.Proofs.Tryd.prog 14 #[(.slice Ap0 np0 cp0), .int .i64 a1] w (Ret fun v w' => ∃ A0' n0' c0', v = .slice A0' n0' c0' ∧ Mem w w' [⟨.slice A0' n0' c0', 5, 1, nums .u8 r⟩]) := by
  obtain rfl : a0.length = np0 := by have h_ := hr0.1; simpa [nums_length, bools_length, strs_length] using h_
  unfold scrimlaw10_key.f at h
  refine calls_of [.slice Ap0 a0.length cp0, .int .i64 a1] (fn := Go.Proofs.Tryd.f14) Go.Proofs.Tryd.func14 (by kernel_rfl) (by kernel_rfl) ?_
  have hM := Mem.refl w
  refine RunF.go 6 [0, 1] (k' := (pin Go.Proofs.Tryd.f14 [1, 0] 0)) (L' := [(0, .slice Ap0 a0.length cp0), (1, .int .i64 a1)]) (w' := w) (by kernel_rfl) ?_
  refine RunF.new 3 1 3 (nums .i64 [16, 24, 32]) (d := some 5) (k2 := (pin Go.Proofs.Tryd.f14 [1, 0] 1)) hM (by simp [nums, bools, strs]) (by kernel_rfl) (by kernel_rfl) ?_
  replace hM := hM
  intro g1 W2 hM
  refine RunF.go 1 [0, 5, 6] (k' := (pin Go.Proofs.Tryd.f14 [1, 0] 2)) (L' := [(0, .slice Ap0 a0.length cp0), (5, .slice (some ⟨g1, 0, none⟩) 3 3), (6, .int .i64 a1)]) (w' := W2) (by kernel_rfl) ?_
  obtain ⟨t5, ht5, h⟩ := Option.bind_eq_some_iff.mp h
  refine RunF.call (d := some 7) (g := 12) (args := #[.int .i64 a1, .int .i64 3]) (k2 := (pin Go.Proofs.Tryd.f14 [1, 0] 3)) (by kernel_rfl) (scrimlaw10_within.calls k a1 3 t5 _ ht5) ?_
  rintro _ W4 ⟨rfl, hM_⟩
  replace hM := hM.call hM_
  clear hM_ ht5
  rcases two (decide (0 ≤ t5)) with c7 | c7
  · replace h := of_true h c7
    rcases two (decide (t5 < (3 : Int))) with c8 | c8
    · replace h := of_true h c8
      obtain ⟨q6, hAq6, hcq6, hfq6, hlq6⟩ := hM.num_at 0 rfl (i := t5) (of_decide_eq_true c7) (by have h_ := of_decide_eq_true c8; omega)
      refine RunF.y (idx_own (d := some 8) (A := (some ⟨g1, 0, none⟩)) (m := 3) (i := t5) (k2 := (pin Go.Proofs.Tryd.f14 [1, 0] 4)) (by kernel_rfl) (of_decide_eq_true c7) (by have h_ := of_decide_eq_true c8; omega) hAq6) trivial ?_
      refine RunF.y (ld_y (d := some 9) (p := ⟨q6, (t5 : Int).toNat, none⟩) (k2 := (pin Go.Proofs.Tryd.f14 [1, 0] 5)) (.int .i64 (rd ([16, 24, 32] : List Int) t5)) (by kernel_rfl)) hcq6 ?_
      refine RunF.go 1 [9, 10] (k' := (pin Go.Proofs.Tryd.f14 [1, 0] 6)) (L' := [(9, .int .i64 (rd ([16, 24, 32] : List Int) t5)), (10, .slice Ap0 a0.length cp0)]) (w' := W4) (by kernel_rfl) ?_
      obtain ⟨t10, ht10, h⟩ := Option.bind_eq_some_iff.mp h
      refine RunF.call (d := some 11) (g := 10) (args := #[.int .i64 (rd ([16, 24, 32] : List Int) t5), .slice Ap0 a0.length cp0]) (k2 := (pin Go.Proofs.Tryd.f14 [1, 0] 7)) (by kernel_rfl) (scrimlaw10_Bytes.calls k (rd ([16, 24, 32] : List Int) t5) Ap0 a0.length cp0 a0 t10 _ (hr0.mono hM.below) ht10) ?_
      rintro _ W9 ⟨A11, n12, c13, rfl, hM_⟩
      obtain rfl : t10.length = n12 := by have h_ := (hM_.rd 0 rfl).1; simpa [nums_length, bools_length, strs_length] using h_
      replace hM := hM.call hM_
      clear hM_ ht10
      refine RunF.go 2 [4] (k' := (pl Go.Proofs.Tryd.f14 [1, 1])) (L' := [(4, .slice A11 t10.length c13)]) (w' := W9) (by kernel_rfl) ?_
      obtain rfl := Option.some.inj h
      exact RunF.ret1 4 (.slice A11 t10.length c13) (fn := Go.Proofs.Tryd.f14) Go.Proofs.Tryd.func14 (by kernel_rfl) (by kernel_rfl) (by kernel_rfl) ⟨_, rfl, A11, t10.length, c13, rfl, (hM.pick [0] rfl rfl)⟩
    · replace h := of_false h c8
      cases h
  · replace h := of_false h c7
    cases h

/-! ### scrim/aria.Layer: function 17 -/
def aria_Layer.f (k : Nat) (a0 : Int) (a1 : List Int) : Option (List Int × Bool) := if ((a1.length : Int) != 16) = true then (some (([] : List Int), false)) else (if (decide (a0 < 1)) = true then (some (([] : List Int), false)) else (if (decide (a0 > 2)) = true then (some (([] : List Int), false)) else ((aria_made.f k).bind fun t8 => ((aria_boxes_layer.f k t8 a0 a1).bind fun t10 => (some (t10, true))))))
set_option maxRecDepth 100000 in
theorem aria_Layer.calls (k : Nat) (a0 : Int) (Ap1 : Option Addr) (np1 cp1 : Nat) (a1 : List Int) (r : List Int × Bool) (w : World) (hr1 : Rd w (.slice Ap1 np1 cp1) (nums .u8 a1)) (hG0 : Rg w 0 (nums .u8 [1, 2, 4, 8, 16, 32, 64, 128])) (h : aria_Layer.f k a0 a1 = some r) :
    Calls Go.Proofs.Tryd.prog 17 #[.int .i64 a0, (.slice Ap1 np1 cp1)] w (Ret fun v w' => ∃ A0' n0' c0', v = .tuple #[.slice A0' n0' c0', .bool r.2] ∧ Mem w w' [⟨.slice A0' n0' c0', 5, 1, nums .u8 r.1⟩]) := by
  obtain rfl : a1.length = np1 := by have h_ := hr1.1; simpa [nums_length, bools_length, strs_length] using h_
  unfold aria_Layer.f at h
  refine calls_of [.int .i64 a0, .slice Ap1 a1.length cp1] (fn := Go.Proofs.Tryd.f17) Go.Proofs.Tryd.func17 (by kernel_rfl) (by kernel_rfl) ?_
  have hM := Mem.refl w
  refine RunF.go 12 [0, 1, 9] (k' := (pin Go.Proofs.Tryd.f17 [1, 0, 0] 4)) (L' := [(0, .int .i64 a0), (1, .slice Ap1 a1.length cp1), (9, .bool ((a1.length : Int) != 16))]) (w' := w) (by kernel_rfl) ?_
  rcases two (((a1.length : Int) != 16)) with c1 | c1
  · replace h := of_true h c1
    refine RunF.know 9 (b := true) (by kernel_rfl) c1 ?_
    refine RunF.go 14 [4, 5] (k' := (pl Go.Proofs.Tryd.f17 [1, 0, 1, 0, 1])) (L' := [(4, .slice none 0 0), (5, .bool false)]) (w' := w) (by kernel_rfl) ?_
    replace hM := hM.nil 5
    obtain rfl := Option.some.inj h
    exact RunF.ret2 4 5 (.slice none 0 0) (.bool false) (fn := Go.Proofs.Tryd.f17) Go.Proofs.Tryd.func17 (by kernel_rfl) (by kernel_rfl) (by kernel_rfl) (by kernel_rfl) ⟨_, rfl, none, 0, 0, rfl, (hM.pick [0] rfl rfl)⟩
  · replace h := of_false h c1
    refine RunF.know 9 (b := false) (by kernel_rfl) c1 ?_
    refine RunF.go 4 [0, 1, 13] (k' := (pin Go.Proofs.Tryd.f17 [1, 0, 0] 8)) (L' := [(0, .int .i64 a0), (1, .slice Ap1 a1.length cp1), (13, .bool (decide (a0 < 1)))]) (w' := w) (by kernel_rfl) ?_
    rcases two (decide (a0 < 1)) with c3 | c3
    · replace h := of_true h c3
      refine RunF.know 13 (b := true) (by kernel_rfl) c3 ?_
      refine RunF.go 10 [4, 5] (k' := (pl Go.Proofs.Tryd.f17 [1, 0, 1, 0, 1])) (L' := [(4, .slice none 0 0), (5, .bool false)]) (w' := w) (by kernel_rfl) ?_
      replace hM := hM.nil 5
      obtain rfl := Option.some.inj h
      exact RunF.ret2 4 5 (.slice none 0 0) (.bool false) (fn := Go.Proofs.Tryd.f17) Go.Proofs.Tryd.func17 (by kernel_rfl) (by kernel_rfl) (by kernel_rfl) (by kernel_rfl) ⟨_, rfl, none, 0, 0, rfl, (hM.pick [0] rfl rfl)⟩
    · replace h := of_false h c3
      refine RunF.know 13 (b := false) (by kernel_rfl) c3 ?_
      refine RunF.go 4 [0, 1, 16] (k' := (pl Go.Proofs.Tryd.f17 [1, 0, 1])) (L' := [(0, .int .i64 a0), (1, .slice Ap1 a1.length cp1), (16, .bool (decide (a0 > 2)))]) (w' := w) (by kernel_rfl) ?_
      rcases two (decide (a0 > 2)) with c5 | c5
      · replace h := of_true h c5
        refine RunF.know 16 (b := true) (by kernel_rfl) c5 ?_
        refine RunF.go 6 [4, 5] (k' := (pl Go.Proofs.Tryd.f17 [1, 0, 1, 0, 1])) (L' := [(4, .slice none 0 0), (5, .bool false)]) (w' := w) (by kernel_rfl) ?_
        replace hM := hM.nil 5
        obtain rfl := Option.some.inj h
        exact RunF.ret2 4 5 (.slice none 0 0) (.bool false) (fn := Go.Proofs.Tryd.f17) Go.Proofs.Tryd.func17 (by kernel_rfl) (by kernel_rfl) (by kernel_rfl) (by kernel_rfl) ⟨_, rfl, none, 0, 0, rfl, (hM.pick [0] rfl rfl)⟩
      · replace h := of_false h c5
        refine RunF.know 16 (b := false) (by kernel_rfl) c5 ?_
        refine RunF.go 4 [0, 1] (k' := (pin Go.Proofs.Tryd.f17 [1, 1, 0] 0)) (L' := [(0, .int .i64 a0), (1, .slice Ap1 a1.length cp1)]) (w' := w) (by kernel_rfl) ?_
        obtain ⟨t8, ht8, h⟩ := Option.bind_eq_some_iff.mp h
        refine RunF.call (d := some 17) (g := 24) (args := #[]) (k2 := (pin Go.Proofs.Tryd.f17 [1, 1, 0] 1)) (by kernel_rfl) (aria_made.calls k t8 _ (hG0.mono hM.below) ht8) ?_
        rintro vt8_0 W7 ⟨_, Ft8_0, rfl, hRt8_0, hM_⟩
        obtain ⟨cst8_0, rfl, hlt8_0, hqt8_0⟩ := hRt8_0
        replace hM : Mem w W7 (Gs [] [Ft8_0]) := (Mem.callG (hM.as (H' := Gs [] []) rfl) hM_).as rfl
        clear hM_ ht8
        refine RunF.go 2 [17, 18, 19] (k' := (pin Go.Proofs.Tryd.f17 [1, 1, 0] 3)) (L' := [(17, .agg (cst8_0).toArray), (18, .int .i64 a0), (19, .slice Ap1 a1.length cp1)]) (w' := W7) (by kernel_rfl) ?_
        obtain ⟨t10, ht10, h⟩ := Option.bind_eq_some_iff.mp h
        refine RunF.call (d := some 20) (g := 29) (args := #[.agg (cst8_0).toArray, .int .i64 a0, .slice Ap1 a1.length cp1]) (k2 := (pin Go.Proofs.Tryd.f17 [1, 1, 0] 4)) (by kernel_rfl) (aria_boxes_layer.calls k (.agg (cst8_0).toArray) (Oks Ft8_0) t8 a0 Ap1 a1.length cp1 a1 t10 _ (hr1.mono hM.below) ⟨_, rfl, hlt8_0, hqt8_0⟩ (fun _ hb_ => ((Mem.oks (hM.as (H' := Gs [] [Ft8_0]) rfl) 0 rfl).kept hb_)) ht10) ?_
        rintro _ W9 ⟨A11, n12, c13, rfl, hM_⟩
        obtain rfl : t10.length = n12 := by have h_ := (hM_.rd 0 rfl).1; simpa [nums_length, bools_length, strs_length] using h_
        replace hM : Mem w W9 (Gs [⟨.slice A11 t10.length c13, 5, 1, nums .u8 t10⟩] [Ft8_0]) := (Mem.callG (hM.as (H' := Gs [] [Ft8_0]) rfl) hM_.grp).as rfl
        clear hM_ ht10
        refine RunF.go 3 [4, 5] (k' := (pl Go.Proofs.Tryd.f17 [1, 1, 1])) (L' := [(4, .slice A11 t10.length c13), (5, .bool true)]) (w' := W9) (by kernel_rfl) ?_
        obtain rfl := Option.some.inj h
        exact RunF.ret2 4 5 (.slice A11 t10.length c13) (.bool true) (fn := Go.Proofs.Tryd.f17) Go.Proofs.Tryd.func17 (by kernel_rfl) (by kernel_rfl) (by kernel_rfl) (by kernel_rfl) ⟨_, rfl, A11, t10.length, c13, rfl, (Mem.pickF (hM.as (H' := Gs [⟨.slice A11 t10.length c13, 5, 1, nums .u8 t10⟩] [Ft8_0]) rfl) [0] rfl rfl rfl).ungrp⟩

/-! ### scrim/scrimref1.Both: function 20 -/
def scrimref1_Both.l0 : Nat → (List Int) → (List Int) → (List Int) → Int → Option (List Int)
  | 0, _, _, _, _ => none
  | k + 1, a0, a1, x5_0, x6_0 => if (decide (x6_0 < (a0.length : Int))) = true then (if (decide (0 ≤ x6_0)) = true then (if (decide (x6_0 < (a0.length : Int))) = true then (if (decide (0 ≤ x6_0)) = true then (if (decide (x6_0 < (a1.length : Int))) = true then (if (decide (0 ≤ x6_0)) = true then (if (decide (x6_0 < (((a0.length : Int)).toNat : Int))) = true then (scrimref1_Both.l0 k a0 a1 (x5_0.set (x6_0 : Int).toNat (bxor .u8 (rd a0 x6_0) (rd a1 x6_0))) (I64 (x6_0 + 1))) else (none)) else (none)) else (none)) else (none)) else (none)) else (none)) else (some x5_0)
def scrimref1_Both.f (k : Nat) (a0 : List Int) (a1 : List Int) : Option (List Int) := if (decide (0 ≤ (a0.length : Int))) = true then (if (decide ((a0.length : Int) ≤ 1000000000)) = true then (scrimref1_Both.l0 k a0 a1 (List.replicate (((a0.length : Int)).toNat) (0 : Int)) 0) else (none)) else (none)
set_option maxRecDepth 100000 in
theorem scrimref1_Both.calls (k : Nat) (Ap0 : Option Addr) (np0 cp0 : Nat) (a0 : List Int) (Ap1 : Option Addr) (np1 cp1 : Nat) (a1 : List Int) (r : List Int) (w : World) (hr0 : Rd w (.slice Ap0 np0 cp0) (nums .u8 a0)) (hr1 : Rd w (.slice Ap1 np1 cp1) (nums .u8 a1)) (h : scrimref1_Both.f k a0 a1 = some r) :
    Calls Go.Proofs.Tryd.prog 20 #[(.slice Ap0 np0 cp0), (.slice Ap1 np1 cp1)] w (Ret fun v w' => ∃ A0' n0' c0', v = .slice A0' n0' c0' ∧ Mem w w' [⟨.slice A0' n0' c0', 5, 1, nums .u8 r⟩]) := by
  obtain rfl : a0.length = np0 := by have h_ := hr0.1; simpa [nums_length, bools_length, strs_length] using h_
  obtain rfl : a1.length = np1 := by have h_ := hr1.1; simpa [nums_length, bools_length, strs_length] using h_
  unfold scrimref1_Both.f at h
  refine calls_of [.slice Ap0 a0.length cp0, .slice Ap1 a1.length cp1] (fn := Go.Proofs.Tryd.f20) Go.Proofs.Tryd.func20 (by kernel_rfl) (by kernel_rfl) ?_
  have hM := Mem.refl w
  refine RunF.go 8 [0, 1, 8] (k' := (pin Go.Proofs.Tryd.f20 [1, 0] 2)) (L' := [(0, .slice Ap0 a0.length cp0), (1, .slice Ap1 a1.length cp1), (8, .int .i64 (a0.length : Int))]) (w' := w) (by kernel_rfl) ?_
  rcases two (decide (0 ≤ (a0.length : Int))) with c3 | c3
  · replace h := of_true h c3
    rcases two (decide ((a0.length : Int) ≤ 1000000000)) with c4 | c4
    · replace h := of_true h c4
      have := of_decide_eq_true c3
      have := of_decide_eq_true c4
      obtain ⟨W1, hD, hM', hB_⟩ := mk_does (P := Go.Proofs.Tryd.prog) (n := 29) (k := (pin Go.Proofs.Tryd.f20 [1, 0] 2)) (L := [(0, .slice Ap0 a0.length cp0), (1, .slice Ap1 a1.length cp1), (8, .int .i64 (a0.length : Int))]) (d := some 9) (e := 5) (z := .int .u8 0) (l := (a0.length : Int)) (c := (a0.length : Int)) (k2 := (pin Go.Proofs.Tryd.f20 [1, 0] 3)) (by kernel_rfl) (by omega) (by omega) (by omega) hM
      rw [rep_nums] at hM'
      refine RunF.does hD ?_
      replace hM := hM'; clear hD hM'
      generalize w.heap.size = g2 at hM ⊢
      refine RunF.go 9 [0, 1, 5, 6] (k' := (pl Go.Proofs.Tryd.f20 [1, 1, 0, 1, 0, 0])) (L' := [(0, .slice Ap0 a0.length cp0), (1, .slice Ap1 a1.length cp1), (5, .slice (some ⟨g2, 0, none⟩) (((a0.length : Int)).toNat) (((a0.length : Int) : Int).toNat)), (6, .int .i64 0)]) (w' := W1) (by kernel_rfl) ?_
      have l0 : ∀ (k_ : Nat), k_ ≤ k → ∀ (x5_0 : List Int) (x6_0 : Int) (W : World) (hM : Mem w W [⟨.slice (some ⟨g2, 0, none⟩) (((a0.length : Int)).toNat) (((a0.length : Int) : Int).toNat), 5, 1, nums .u8 x5_0⟩]) (h : scrimref1_Both.l0 k_ a0 a1 x5_0 x6_0 = some r), RunF Go.Proofs.Tryd.prog (Ret fun v w' => ∃ A0' n0' c0', v = .slice A0' n0' c0' ∧ Mem w w' [⟨.slice A0' n0' c0', 5, 1, nums .u8 r⟩]) 20 (pl Go.Proofs.Tryd.f20 [1, 1, 0, 1, 0, 0]) 29 [(0, .slice Ap0 a0.length cp0), (1, .slice Ap1 a1.length cp1), (5, .slice (some ⟨g2, 0, none⟩) (((a0.length : Int)).toNat) (((a0.length : Int) : Int).toNat)), (6, .int .i64 x6_0)] W := by
        intro k_
        induction k_ using Nat.strongRecOn with
        | _ k_ ih0 =>
          intro hk x5_0 x6_0 W hM h
          cases k_ with
          | zero => exact absurd h (by simp [scrimref1_Both.l0])
          | succ k =>
            simp only [scrimref1_Both.l0] at h
            replace ih0 : ∀ m, m ≤ k → _ := fun m hm => ih0 m (by omega) (by omega)
            refine RunF.go 8 [0, 1, 5, 6, 13] (k' := (pl Go.Proofs.Tryd.f20 [1, 1, 0, 1, 0, 0, 0, 1])) (L' := [(0, .slice Ap0 a0.length cp0), (1, .slice Ap1 a1.length cp1), (5, .slice (some ⟨g2, 0, none⟩) (((a0.length : Int)).toNat) (((a0.length : Int) : Int).toNat)), (6, .int .i64 x6_0), (13, .bool (decide (x6_0 < (a0.length : Int))))]) (w' := W) (by kernel_rfl) ?_
            rcases two (decide (x6_0 < (a0.length : Int))) with c6 | c6
            · replace h := of_true h c6
              refine RunF.know 13 (b := true) (by kernel_rfl) c6 ?_
              refine RunF.go 4 [0, 1, 5, 6] (k' := (pl Go.Proofs.Tryd.f20 [1, 1, 0, 1, 0, 0, 1, 0, 0])) (L' := [(0, .slice Ap0 a0.length cp0), (1, .slice Ap1 a1.length cp1), (5, .slice (some ⟨g2, 0, none⟩) (((a0.length : Int)).toNat) (((a0.length : Int) : Int).toNat)), (6, .int .i64 x6_0)]) (w' := W) (by kernel_rfl) ?_
              refine RunF.draw (Still ({ W with drawn := W.drawn + 1 } : World) [.slice (some ⟨g2, 0, none⟩) (((a0.length : Int)).toNat) (((a0.length : Int) : Int).toNat)]) (by kernel_rfl) (by kernel_rfl) ?_
              have hMd8 := hM.drew
              have hS := Still.refl ({ W with drawn := W.drawn + 1 } : World) [.slice (some ⟨g2, 0, none⟩) (((a0.length : Int)).toNat) (((a0.length : Int) : Int).toNat)]
              generalize ({ W with drawn := W.drawn + 1 } : World) = W7 at hMd8 hS ⊢
              replace hM := hMd8
              refine RunAny.y 0 (by kernel_rfl) (yl_pure (d := some 16) (v := .slice (some ⟨g2, 0, none⟩) (((a0.length : Int)).toNat) (((a0.length : Int) : Int).toNat)) (k2 := [.inRegion (opsOf (pl Go.Proofs.Tryd.f20 [1, 1, 0, 1, 0, 0, 1, 0, 0])) []]) fun w => by kernel_rfl) (fun _ _ => trivial) hS ?_
              refine RunAny.y 1 (by kernel_rfl) (yl_pure (d := some 17) (v := .int .i64 x6_0) (k2 := [.inRegion (opsOf (pl Go.Proofs.Tryd.f20 [1, 1, 0, 1, 0, 0, 1, 0, 0])) []]) fun w => by kernel_rfl) (fun _ _ => trivial) hS ?_
              refine RunAny.y 2 (by kernel_rfl) (yl_pure (d := some 18) (v := .slice Ap0 a0.length cp0) (k2 := [.inRegion (opsOf (pl Go.Proofs.Tryd.f20 [1, 1, 0, 1, 0, 0, 1, 0, 0])) []]) fun w => by kernel_rfl) (fun _ _ => trivial) hS ?_
              refine RunAny.y 3 (by kernel_rfl) (yl_pure (d := some 19) (v := .int .i64 x6_0) (k2 := [.inRegion (opsOf (pl Go.Proofs.Tryd.f20 [1, 1, 0, 1, 0, 0, 1, 0, 0])) []]) fun w => by kernel_rfl) (fun _ _ => trivial) hS ?_
              rcases two (decide (0 ≤ x6_0)) with c10 | c10
              · replace h := of_true h c10
                rcases two (decide (x6_0 < (a0.length : Int))) with c11 | c11
                · replace h := of_true h c11
                  obtain ⟨q9, hAq9, hiq9⟩ := Rd.num hr0 (i := x6_0) (of_decide_eq_true c10) (by have h_ := of_decide_eq_true c11; omega)
                  have hcq9 := (hM.below.cell (World.block_lt_of_cell? _ _ hiq9)).trans hiq9
                  refine RunAny.y 4 (by kernel_rfl) (idx_y (d := some 20) (A := Ap0) (m := a0.length) (i := x6_0) (k2 := [.inRegion (opsOf (pl Go.Proofs.Tryd.f20 [1, 1, 0, 1, 0, 0, 1, 0, 0])) []]) (by kernel_rfl) (of_decide_eq_true c10) (by have h_ := of_decide_eq_true c11; omega) hAq9) (fun _ _ => trivial) hS ?_
                  refine RunAny.y 5 (by kernel_rfl) (ld_y (d := some 21) (p := (q9.add (x6_0 : Int).toNat)) (k2 := [.inRegion (opsOf (pl Go.Proofs.Tryd.f20 [1, 1, 0, 1, 0, 0, 1, 0, 0])) []]) (.int .u8 (rd a0 x6_0)) (by kernel_rfl)) (fun _ hs => hs.cell hcq9 (by intro v hv; simp only [List.mem_cons, List.not_mem_nil, or_false] at hv; rcases hv with rfl; exact (hM.far hiq9 0 rfl))) hS ?_
                  refine RunAny.y 6 (by kernel_rfl) (yl_pure (d := some 22) (v := .slice Ap1 a1.length cp1) (k2 := [.inRegion (opsOf (pl Go.Proofs.Tryd.f20 [1, 1, 0, 1, 0, 0, 1, 0, 0])) []]) fun w => by kernel_rfl) (fun _ _ => trivial) hS ?_
                  refine RunAny.y 7 (by kernel_rfl) (yl_pure (d := some 23) (v := .int .i64 x6_0) (k2 := [.inRegion (opsOf (pl Go.Proofs.Tryd.f20 [1, 1, 0, 1, 0, 0, 1, 0, 0])) []]) fun w => by kernel_rfl) (fun _ _ => trivial) hS ?_
                  rcases two (decide (0 ≤ x6_0)) with c13 | c13
                  · replace h := of_true h c13
                    rcases two (decide (x6_0 < (a1.length : Int))) with c14 | c14
                    · replace h := of_true h c14
                      obtain ⟨q12, hAq12, hiq12⟩ := Rd.num hr1 (i := x6_0) (of_decide_eq_true c13) (by have h_ := of_decide_eq_true c14; omega)
                      have hcq12 := (hM.below.cell (World.block_lt_of_cell? _ _ hiq12)).trans hiq12
                      refine RunAny.y 8 (by kernel_rfl) (idx_y (d := some 24) (A := Ap1) (m := a1.length) (i := x6_0) (k2 := [.inRegion (opsOf (pl Go.Proofs.Tryd.f20 [1, 1, 0, 1, 0, 0, 1, 0, 0])) []]) (by kernel_rfl) (of_decide_eq_true c13) (by have h_ := of_decide_eq_true c14; omega) hAq12) (fun _ _ => trivial) hS ?_
                      refine RunAny.y 9 (by kernel_rfl) (ld_y (d := some 25) (p := (q12.add (x6_0 : Int).toNat)) (k2 := [.inRegion (opsOf (pl Go.Proofs.Tryd.f20 [1, 1, 0, 1, 0, 0, 1, 0, 0])) []]) (.int .u8 (rd a1 x6_0)) (by kernel_rfl)) (fun _ hs => hs.cell hcq12 (by intro v hv; simp only [List.mem_cons, List.not_mem_nil, or_false] at hv; rcases hv with rfl; exact (hM.far hiq12 0 rfl))) hS ?_
                      refine RunAny.y 10 (by kernel_rfl) (yl_pure (d := some 26) (v := .int .u8 (bxor .u8 (rd a0 x6_0) (rd a1 x6_0))) (k2 := [.inRegion (opsOf (pl Go.Proofs.Tryd.f20 [1, 1, 0, 1, 0, 0, 1, 0, 0])) []]) fun w => by kernel_rfl) (fun _ _ => trivial) hS ?_
                      rcases two (decide (0 ≤ x6_0)) with c16 | c16
                      · replace h := of_true h c16
                        rcases two (decide (x6_0 < (((a0.length : Int)).toNat : Int))) with c17 | c17
                        · replace h := of_true h c17
                          obtain ⟨q15, hAq15, hcq15, hfq15, hlq15⟩ := hM.num_at 0 rfl (i := x6_0) (of_decide_eq_true c16) (by have h_ := of_decide_eq_true c17; omega)
                          refine RunAny.y 11 (by kernel_rfl) (idx_own (d := some 27) (A := (some ⟨g2, 0, none⟩)) (m := ((a0.length : Int)).toNat) (i := x6_0) (k2 := [.inRegion (opsOf (pl Go.Proofs.Tryd.f20 [1, 1, 0, 1, 0, 0, 1, 0, 0])) []]) (by kernel_rfl) (of_decide_eq_true c16) (by have h_ := of_decide_eq_true c17; omega) hAq15) (fun _ _ => trivial) hS ?_
                          obtain ⟨g_, hA_, hc_, hf_, hl_⟩ := hM.num_at 0 rfl (i := x6_0) (of_decide_eq_true c16) (by have h_ := of_decide_eq_true c17; omega)
                          obtain rfl : q15 = g_ := by rw [hAq15] at hA_; injection hA_ with hA_; injection hA_
                          have hS' := hS.set (v := .slice (some ⟨g2, 0, none⟩) (((a0.length : Int)).toNat) (((a0.length : Int) : Int).toNat)) (g := q15) (i := (x6_0 : Int).toNat) (by simp) (by rw [hAq15]; rfl) (.int .u8 (bxor .u8 (rd a0 x6_0) (rd a1 x6_0)))
                          refine RunAny.doesU 12 (by kernel_rfl) (st_u (p := (⟨q15, (x6_0 : Int).toNat, none⟩ : Addr)) (v := .int .u8 (bxor .u8 (rd a0 x6_0) (rd a1 x6_0))) (k2 := [.inRegion (opsOf (pl Go.Proofs.Tryd.f20 [1, 1, 0, 1, 0, 0, 1, 0, 0])) []]) (by kernel_rfl) hc_ hf_) hS' ?_
                          replace hM : Mem w (W7.setCell (⟨q15, (x6_0 : Int).toNat, none⟩ : Addr) (.int .u8 (bxor .u8 (rd a0 x6_0) (rd a1 x6_0)))) [⟨.slice (some ⟨g2, 0, none⟩) (((a0.length : Int)).toNat) (((a0.length : Int) : Int).toNat), 5, 1, nums .u8 (x5_0.set (x6_0 : Int).toNat (bxor .u8 (rd a0 x6_0) (rd a1 x6_0)))⟩] := Mem.put_num [] [] (hM.pick [0] rfl rfl) hAq15 _ hl_ _
                          generalize W7.setCell (⟨q15, (x6_0 : Int).toNat, none⟩ : Addr) (.int .u8 (bxor .u8 (rd a0 x6_0) (rd a1 x6_0))) = W18 at hM hS' ⊢
                          clear hc_ hf_ hl_ hA_ hcq15
                          replace hS := hS'
                          refine RunAny.rebase hS ?_
                          replace hS := Still.refl W18 [.slice (some ⟨g2, 0, none⟩) (((a0.length : Int)).toNat) (((a0.length : Int) : Int).toNat)]
                          refine RunAny.done (by kernel_rfl) ?_
                          clear hS
                          refine RunF.go 7 [0, 1, 5, 6] (k' := (pl Go.Proofs.Tryd.f20 [1, 1, 0, 1, 0, 0])) (L' := [(0, .slice Ap0 a0.length cp0), (1, .slice Ap1 a1.length cp1), (5, .slice (some ⟨g2, 0, none⟩) (((a0.length : Int)).toNat) (((a0.length : Int) : Int).toNat)), (6, .int .i64 (I64 (x6_0 + 1)))]) (w' := W18) (by kernel_rfl) ?_
                          exact ih0 k (by omega) (x5_0.set (x6_0 : Int).toNat (bxor .u8 (rd a0 x6_0) (rd a1 x6_0))) (I64 (x6_0 + 1)) _ (hM.pick [0] rfl rfl) h
                        · replace h := of_false h c17
                          cases h
                      · replace h := of_false h c16
                        cases h
                    · replace h := of_false h c14
                      cases h
                  · replace h := of_false h c13
                    cases h
                · replace h := of_false h c11
                  cases h
              · replace h := of_false h c10
                cases h
            · replace h := of_false h c6
              refine RunF.know 13 (b := false) (by kernel_rfl) c6 ?_
              refine RunF.go 7 [4] (k' := (pl Go.Proofs.Tryd.f20 [1, 1, 1, 1])) (L' := [(4, .slice (some ⟨g2, 0, none⟩) (((a0.length : Int)).toNat) (((a0.length : Int) : Int).toNat))]) (w' := W) (by kernel_rfl) ?_
              obtain rfl := Option.some.inj h
              exact RunF.ret1 4 (.slice (some ⟨g2, 0, none⟩) (((a0.length : Int)).toNat) (((a0.length : Int) : Int).toNat)) (fn := Go.Proofs.Tryd.f20) Go.Proofs.Tryd.func20 (by kernel_rfl) (by kernel_rfl) (by kernel_rfl) ⟨_, rfl, (some ⟨g2, 0, none⟩), ((a0.length : Int)).toNat, ((a0.length : Int) : Int).toNat, rfl, (hM.pick [0] rfl rfl)⟩
      exact l0 k (Nat.le_refl _) (List.replicate (((a0.length : Int)).toNat) (0 : Int)) 0 _ (hM.pick [0] rfl rfl) h
    · replace h := of_false h c4
      cases h
  · replace h := of_false h c3
    cases h

/-! ### scrim/scrimlaw10.AriaRounds: function 8 -/
def scrimlaw10_AriaRounds.l0 : Nat → (List Int) → ((List (List Int)) × (List (List Int))) → (List (List Int) × Int) → (List Int) → Int → Option (Bool)
  | 0, _, _, _, _, _ => none
  | k + 1, a2, s23, t19, x11_0, x12_0 => (some (decide (x12_0 < (I64 ((t19.1.length : Int) - 1))) : Bool)).bind fun y34 => (if y34 = true then (if (decide (0 ≤ x12_0)) = true then (if (decide (x12_0 < (t19.1.length : Int))) = true then ((some ((((rdr ([] : List Int) t19.1 x12_0).length : Int) != 16) : Bool)).bind fun y39 => (if y39 = true then (some false) else (if (decide (0 ≤ x12_0)) = true then (if (decide (x12_0 < (t19.1.length : Int))) = true then ((scrimref1_Both.f k x11_0 (rdr ([] : List Int) t19.1 x12_0)).bind fun t45 => ((aria_Layer.f k (I64 (1 + (Int.tmod x12_0 2))) t45).bind fun t51 => (if (!t51.2) = true then (some false) else (if ((t51.1.length : Int) != 16) = true then (some false) else ((some (decide (x12_0 < (I64 ((t19.1.length : Int) - 2))) : Bool)).bind fun y58 => (if y58 = true then ((aria_Mix.f k t51.1).bind fun t61 => (if (!t61.2) = true then (some false) else (if ((t61.1.length : Int) != 16) = true then (some false) else (scrimlaw10_AriaRounds.l0 k a2 s23 t19 t61.1 (I64 (x12_0 + 1)))))) else (scrimlaw10_AriaRounds.l0 k a2 s23 t19 t51.1 (I64 (x12_0 + 1))))))))) else (none)) else (none)))) else (none)) else (none)) else ((scrimlaw10_Bytes.f k 16 a2).bind fun t69 => ((aria_Aria_Block.f k s23 t69 false).bind fun t75 => (if (decide (0 ≤ (I64 ((t19.1.length : Int) - 1)))) = true then (if (decide ((I64 ((t19.1.length : Int) - 1)) < (t19.1.length : Int))) = true then (if (((rdr ([] : List Int) t19.1 (I64 ((t19.1.length : Int) - 1))).length : Int) == 16) = true then (if (decide (0 ≤ (I64 ((t19.1.length : Int) - 1)))) = true then (if (decide ((I64 ((t19.1.length : Int) - 1)) < (t19.1.length : Int))) = true then ((scrimref1_Both.f k x11_0 (rdr ([] : List Int) t19.1 (I64 ((t19.1.length : Int) - 1)))).bind fun t90 => (some ((strOf t75.1).toList == (strOf t90).toList))) else (none)) else (none)) else (some false)) else (none)) else (none)))))
def scrimlaw10_AriaRounds.f (k : Nat) (a0 : List Int) (a1 : Int) (a2 : List Int) : Option (Bool) := (scrimlaw10_known.f k).bind fun t2 => (if (!t2) = true then (some false) else ((scrimlaw10_key.f k a0 a1).bind fun t5 => ((aria_New.f k t5).bind fun t11 => ((scrimlaw10_key.f k a0 a1).bind fun t13 => ((aria_Keys.f k t13).bind fun t19 => (if (t11.2 != 0) = true then (some false) else (if (t19.2 != 0) = true then (some false) else (if t11.1.isSome = true then ((t11.1).bind fun s23 => (if (decide ((t19.1.length : Int) < 13)) = true then (some false) else ((scrimlaw10_Bytes.f k 16 a2).bind fun t28 => (scrimlaw10_AriaRounds.l0 k a2 s23 t19 t28 0)))) else (some false)))))))))
set_option maxRecDepth 100000 in
set_option maxHeartbeats 8000000 in
theorem scrimlaw10_AriaRounds.calls (k : Nat) (Ap0 : Option Addr) (np0 cp0 : Nat) (a0 : List Int) (a1 : Int) (Ap2 : Option Addr) (np2 cp2 : Nat) (a2 : List Int) (r : Bool) (w : World) (hr0 : Rd w (.slice Ap0 np0 cp0) (nums .u8 a0)) (hr2 : Rd w (.slice Ap2 np2 cp2) (nums .u8 a2)) (hG0 : Rg w 0 (nums .u8 [1, 2, 4, 8, 16, 32, 64, 128])) (h : scrimlaw10_AriaRounds.f k a0 a1 a2 = some r) :
    Calls Go.Proofs.Tryd.prog 8 #[(.slice Ap0 np0 cp0), .int .i64 a1, (.slice Ap2 np2 cp2)] w (Ret fun v w' => v = .bool r ∧ Mem w w' []) := by
  obtain rfl : a0.length = np0 := by have h_ := hr0.1; simpa [nums_length, bools_length, strs_length] using h_
  obtain rfl : a2.length = np2 := by have h_ := hr2.1; simpa [nums_length, bools_length, strs_length] using h_
  unfold scrimlaw10_AriaRounds.f at h
  refine calls_of [.slice Ap0 a0.length cp0, .int .i64 a1, .slice Ap2 a2.length cp2] (fn := Go.Proofs.Tryd.f8) Go.Proofs.Tryd.func8 (by kernel_rfl) (by kernel_rfl) ?_
  have hM := Mem.refl w
  refine RunF.go 7 [0, 1, 2] (k' := (pin Go.Proofs.Tryd.f8 [1, 0, 0] 0)) (L' := [(0, .slice Ap0 a0.length cp0), (1, .int .i64 a1), (2, .slice Ap2 a2.length cp2)]) (w' := w) (by kernel_rfl) ?_
  obtain ⟨t2, ht2, h⟩ := Option.bind_eq_some_iff.mp h
  refine RunF.call (d := some 19) (g := 9) (args := #[]) (k2 := (pin Go.Proofs.Tryd.f8 [1, 0, 0] 1)) (by kernel_rfl) (scrimlaw10_known.calls k t2 _ (hG0.mono hM.below) ht2) ?_
  rintro _ W1 ⟨rfl, hM_⟩
  replace hM := hM.call hM_
  clear hM_ ht2
  refine RunF.go 2 [0, 1, 2, 20] (k' := (pl Go.Proofs.Tryd.f8 [1, 0, 1])) (L' := [(0, .slice Ap0 a0.length cp0), (1, .int .i64 a1), (2, .slice Ap2 a2.length cp2), (20, .bool (!t2))]) (w' := W1) (by kernel_rfl) ?_
  rcases two (!t2) with c3 | c3
  · replace h := of_true h c3
    refine RunF.know 20 (b := true) (by kernel_rfl) c3 ?_
    refine RunF.go 5 [6] (k' := (pl Go.Proofs.Tryd.f8 [1, 0, 1, 0, 1])) (L' := [(6, .bool false)]) (w' := W1) (by kernel_rfl) ?_
    obtain rfl := Option.some.inj h
    exact RunF.ret1 6 (.bool false) (fn := Go.Proofs.Tryd.f8) Go.Proofs.Tryd.func8 (by kernel_rfl) (by kernel_rfl) (by kernel_rfl) ⟨_, rfl, rfl, (hM.pick [] rfl rfl)⟩
  · replace h := of_false h c3
    refine RunF.know 20 (b := false) (by kernel_rfl) c3 ?_
    refine RunF.go 6 [0, 1, 2, 22, 23] (k' := (pin Go.Proofs.Tryd.f8 [1, 1, 0] 2)) (L' := [(0, .slice Ap0 a0.length cp0), (1, .int .i64 a1), (2, .slice Ap2 a2.length cp2), (22, .slice Ap0 a0.length cp0), (23, .int .i64 a1)]) (w' := W1) (by kernel_rfl) ?_
    obtain ⟨t5, ht5, h⟩ := Option.bind_eq_some_iff.mp h
    refine RunF.call (d := some 24) (g := 14) (args := #[.slice Ap0 a0.length cp0, .int .i64 a1]) (k2 := (pin Go.Proofs.Tryd.f8 [1, 1, 0] 3)) (by kernel_rfl) (scrimlaw10_key.calls k Ap0 a0.length cp0 a0 a1 t5 _ (hr0.mono hM.below) ht5) ?_
    rintro _ W4 ⟨A6, n7, c8, rfl, hM_⟩
    obtain rfl : t5.length = n7 := by have h_ := (hM_.rd 0 rfl).1; simpa [nums_length, bools_length, strs_length] using h_
    replace hM := hM.call hM_
    clear hM_ ht5
    obtain ⟨t11, ht11, h⟩ := Option.bind_eq_some_iff.mp h
    refine RunF.call (d := some 25) (g := 19) (args := #[.slice A6 t5.length c8]) (k2 := (pin Go.Proofs.Tryd.f8 [1, 1, 0] 4)) (by kernel_rfl) (aria_New.calls k A6 t5.length c8 t5 t11 _ (hM.rd 0 rfl) (hG0.mono hM.below) ht11) ?_
    rintro _ W10 ⟨vt11_0, Ft11_0, rfl, hRt11_0, hM_⟩
    replace hM : Mem w W10 (Gs [⟨.slice A6 t5.length c8, 5, 1, nums .u8 t5⟩] [Ft11_0]) := (Mem.callG (hM.as (H' := Gs [⟨.slice A6 t5.length c8, 5, 1, nums .u8 t5⟩] []) rfl) hM_).as rfl
    clear hM_ ht11
    refine RunF.go 10 [2, 7, 8, 29, 30] (k' := (pin Go.Proofs.Tryd.f8 [1, 1, 1, 0] 2)) (L' := [(2, .slice Ap2 a2.length cp2), (7, vt11_0), (8, .int .i64 t11.2), (29, .slice Ap0 a0.length cp0), (30, .int .i64 a1)]) (w' := W10) (by kernel_rfl) ?_
    obtain ⟨t13, ht13, h⟩ := Option.bind_eq_some_iff.mp h
    refine RunF.call (d := some 31) (g := 14) (args := #[.slice Ap0 a0.length cp0, .int .i64 a1]) (k2 := (pin Go.Proofs.Tryd.f8 [1, 1, 1, 0] 3)) (by kernel_rfl) (scrimlaw10_key.calls k Ap0 a0.length cp0 a0 a1 t13 _ (hr0.mono hM.below) ht13) ?_
    rintro _ W12 ⟨A14, n15, c16, rfl, hM_⟩
    obtain rfl : t13.length = n15 := by have h_ := (hM_.rd 0 rfl).1; simpa [nums_length, bools_length, strs_length] using h_
    replace hM : Mem w W12 (Gs [⟨.slice A14 t13.length c16, 5, 1, nums .u8 t13⟩, ⟨.slice A6 t5.length c8, 5, 1, nums .u8 t5⟩] [Ft11_0]) := (Mem.callG (hM.as (H' := Gs [⟨.slice A6 t5.length c8, 5, 1, nums .u8 t5⟩] [Ft11_0]) rfl) hM_.grp).as rfl
    clear hM_ ht13
    obtain ⟨t19, ht19, h⟩ := Option.bind_eq_some_iff.mp h
    refine RunF.call (d := some 32) (g := 13) (args := #[.slice A14 t13.length c16]) (k2 := (pin Go.Proofs.Tryd.f8 [1, 1, 1, 0] 4)) (by kernel_rfl) (aria_Keys.calls k A14 t13.length c16 t13 t19 _ (hM.rd 0 rfl) (hG0.mono hM.below) ht19) ?_
    rintro _ W18 ⟨vt19_0, Ft19_0, rfl, hRt19_0, hM_⟩
    obtain ⟨At19_0, ct19_0, cst19_0, rfl, hrt19_0, hqt19_0⟩ := hRt19_0
    replace hM : Mem w W18 (Gs [⟨.slice A14 t13.length c16, 5, 1, nums .u8 t13⟩, ⟨.slice A6 t5.length c8, 5, 1, nums .u8 t5⟩] [Ft19_0, Ft11_0]) := (Mem.callG (hM.as (H' := Gs [⟨.slice A14 t13.length c16, 5, 1, nums .u8 t13⟩, ⟨.slice A6 t5.length c8, 5, 1, nums .u8 t5⟩] [Ft11_0]) rfl) hM_).as rfl
    clear hM_ ht19
    refine RunF.go 12 [2, 7, 9, 10, 37] (k' := (pin Go.Proofs.Tryd.f8 [1, 1, 1, 1, 0, 0] 3)) (L' := [(2, .slice Ap2 a2.length cp2), (7, vt11_0), (9, .slice At19_0 t19.1.length ct19_0), (10, .int .i64 t19.2), (37, .bool (t11.2 != 0))]) (w' := W18) (by kernel_rfl) ?_
    rcases two ((t11.2 != 0)) with c20 | c20
    · replace h := of_true h c20
      refine RunF.know 37 (b := true) (by kernel_rfl) c20 ?_
      refine RunF.go 18 [6] (k' := (pl Go.Proofs.Tryd.f8 [1, 1, 1, 1, 0, 1, 0, 1])) (L' := [(6, .bool false)]) (w' := W18) (by kernel_rfl) ?_
      obtain rfl := Option.some.inj h
      exact RunF.ret1 6 (.bool false) (fn := Go.Proofs.Tryd.f8) Go.Proofs.Tryd.func8 (by kernel_rfl) (by kernel_rfl) (by kernel_rfl) ⟨_, rfl, rfl, (Mem.pickF (hM.as (H' := Gs [⟨.slice A14 t13.length c16, 5, 1, nums .u8 t13⟩, ⟨.slice A6 t5.length c8, 5, 1, nums .u8 t5⟩] [Ft19_0, Ft11_0]) rfl) [] rfl rfl rfl).ungrp⟩
    · replace h := of_false h c20
      refine RunF.know 37 (b := false) (by kernel_rfl) c20 ?_
      refine RunF.go 4 [2, 7, 9, 41] (k' := (pin Go.Proofs.Tryd.f8 [1, 1, 1, 1, 0, 0] 7)) (L' := [(2, .slice Ap2 a2.length cp2), (7, vt11_0), (9, .slice At19_0 t19.1.length ct19_0), (41, .bool (t19.2 != 0))]) (w' := W18) (by kernel_rfl) ?_
      rcases two ((t19.2 != 0)) with c21 | c21
      · replace h := of_true h c21
        refine RunF.know 41 (b := true) (by kernel_rfl) c21 ?_
        refine RunF.go 14 [6] (k' := (pl Go.Proofs.Tryd.f8 [1, 1, 1, 1, 0, 1, 0, 1])) (L' := [(6, .bool false)]) (w' := W18) (by kernel_rfl) ?_
        obtain rfl := Option.some.inj h
        exact RunF.ret1 6 (.bool false) (fn := Go.Proofs.Tryd.f8) Go.Proofs.Tryd.func8 (by kernel_rfl) (by kernel_rfl) (by kernel_rfl) ⟨_, rfl, rfl, (Mem.pickF (hM.as (H' := Gs [⟨.slice A14 t13.length c16, 5, 1, nums .u8 t13⟩, ⟨.slice A6 t5.length c8, 5, 1, nums .u8 t5⟩] [Ft19_0, Ft11_0]) rfl) [] rfl rfl rfl).ungrp⟩
      · replace h := of_false h c21
        refine RunF.know 41 (b := false) (by kernel_rfl) c21 ?_
        refine RunF.go 1 [2, 7, 9, 41, 42] (k' := (pin Go.Proofs.Tryd.f8 [1, 1, 1, 1, 0, 0] 8)) (L' := [(2, .slice Ap2 a2.length cp2), (7, vt11_0), (9, .slice At19_0 t19.1.length ct19_0), (41, .bool false), (42, vt11_0)]) (w' := W18) (by kernel_rfl) ?_
        rcases two (t11.1.isSome) with c22 | c22
        · replace h := of_true h c22
          obtain ⟨s23, hx_, h⟩ := Option.bind_eq_some_iff.mp h
          have hps23 := rOpt.some hRt11_0 hx_
          obtain ⟨g24, _, rfl, hco25, co25_0, _, rfl, hlo25_0, hqo25_0, ⟨Ao25_1, co25_1, cso25_1, rfl, hro25_1, hqo25_1⟩⟩ := id hps23
          refine RunF.go 8 [2, 7, 9, 49] (k' := (pl Go.Proofs.Tryd.f8 [1, 1, 1, 1, 0, 1])) (L' := [(2, .slice Ap2 a2.length cp2), (7, .pointer (some ⟨g24, 0, none⟩)), (9, .slice At19_0 t19.1.length ct19_0), (49, .bool (decide ((t19.1.length : Int) < 13)))]) (w' := W18) (by kernel_rfl) ?_
          rcases two (decide ((t19.1.length : Int) < 13)) with c26 | c26
          · replace h := of_true h c26
            refine RunF.know 49 (b := true) (by kernel_rfl) c26 ?_
            refine RunF.go 5 [6] (k' := (pl Go.Proofs.Tryd.f8 [1, 1, 1, 1, 0, 1, 0, 1])) (L' := [(6, .bool false)]) (w' := W18) (by kernel_rfl) ?_
            obtain rfl := Option.some.inj h
            exact RunF.ret1 6 (.bool false) (fn := Go.Proofs.Tryd.f8) Go.Proofs.Tryd.func8 (by kernel_rfl) (by kernel_rfl) (by kernel_rfl) ⟨_, rfl, rfl, (Mem.pickF (hM.as (H' := Gs [⟨.slice A14 t13.length c16, 5, 1, nums .u8 t13⟩, ⟨.slice A6 t5.length c8, 5, 1, nums .u8 t5⟩] [Ft19_0, Ft11_0]) rfl) [] rfl rfl rfl).ungrp⟩
          · replace h := of_false h c26
            refine RunF.know 49 (b := false) (by kernel_rfl) c26 ?_
            refine RunF.go 5 [2, 7, 9, 50] (k' := (pin Go.Proofs.Tryd.f8 [1, 1, 1, 1, 1, 0] 1)) (L' := [(2, .slice Ap2 a2.length cp2), (7, .pointer (some ⟨g24, 0, none⟩)), (9, .slice At19_0 t19.1.length ct19_0), (50, .slice Ap2 a2.length cp2)]) (w' := W18) (by kernel_rfl) ?_
            obtain ⟨t28, ht28, h⟩ := Option.bind_eq_some_iff.mp h
            refine RunF.call (d := some 51) (g := 10) (args := #[.int .i64 16, .slice Ap2 a2.length cp2]) (k2 := (pin Go.Proofs.Tryd.f8 [1, 1, 1, 1, 1, 0] 2)) (by kernel_rfl) (scrimlaw10_Bytes.calls k 16 Ap2 a2.length cp2 a2 t28 _ (hr2.mono hM.below) ht28) ?_
            rintro _ W27 ⟨A29, n30, c31, rfl, hM_⟩
            obtain rfl : t28.length = n30 := by have h_ := (hM_.rd 0 rfl).1; simpa [nums_length, bools_length, strs_length] using h_
            replace hM : Mem w W27 (Gs [⟨.slice A29 t28.length c31, 5, 1, nums .u8 t28⟩, ⟨.slice A14 t13.length c16, 5, 1, nums .u8 t13⟩, ⟨.slice A6 t5.length c8, 5, 1, nums .u8 t5⟩] [Ft19_0, Ft11_0]) := (Mem.callG (hM.as (H' := Gs [⟨.slice A14 t13.length c16, 5, 1, nums .u8 t13⟩, ⟨.slice A6 t5.length c8, 5, 1, nums .u8 t5⟩] [Ft19_0, Ft11_0]) rfl) hM_.grp).as rfl
            clear hM_ ht28
            refine RunF.go 9 [2, 7, 9, 11, 12] (k' := (pl Go.Proofs.Tryd.f8 [1, 1, 1, 1, 1, 1, 0, 1, 0, 0])) (L' := [(2, .slice Ap2 a2.length cp2), (7, .pointer (some ⟨g24, 0, none⟩)), (9, .slice At19_0 t19.1.length ct19_0), (11, .slice A29 t28.length c31), (12, .int .i64 0)]) (w' := W27) (by kernel_rfl) ?_
            have l0 : ∀ (k_ : Nat), k_ ≤ k → ∀ (A11_0 : Option Addr) (c11_0 : Nat) (x11_0 : List Int) (x12_0 : Int) (W : World) (hM : Mem w W (Gs [⟨.slice A11_0 x11_0.length c11_0, 5, 1, nums .u8 x11_0⟩] [Ft19_0, Ft11_0])) (h : scrimlaw10_AriaRounds.l0 k_ a2 s23 t19 x11_0 x12_0 = some r), RunF Go.Proofs.Tryd.prog (Ret fun v w' => v = .bool r ∧ Mem w w' []) 8 (pl Go.Proofs.Tryd.f8 [1, 1, 1, 1, 1, 1, 0, 1, 0, 0]) 133 [(2, .slice Ap2 a2.length cp2), (7, .pointer (some ⟨g24, 0, none⟩)), (9, .slice At19_0 t19.1.length ct19_0), (11, .slice A11_0 x11_0.length c11_0), (12, .int .i64 x12_0)] W := by
              intro k_
              induction k_ using Nat.strongRecOn with
              | _ k_ ih0 =>
                intro hk A11_0 c11_0 x11_0 x12_0 W hM h
                cases k_ with
                | zero => exact absurd h (by simp [scrimlaw10_AriaRounds.l0])
                | succ k =>
                  simp only [scrimlaw10_AriaRounds.l0] at h
                  replace ih0 : ∀ m, m ≤ k → _ := fun m hm => ih0 m (by omega) (by omega)
                  refine RunF.go 9 [2, 7, 9, 11, 12, 56] (k' := (pl Go.Proofs.Tryd.f8 [1, 1, 1, 1, 1, 1, 0, 1, 0, 0, 0, 1])) (L' := [(2, .slice Ap2 a2.length cp2), (7, .pointer (some ⟨g24, 0, none⟩)), (9, .slice At19_0 t19.1.length ct19_0), (11, .slice A11_0 x11_0.length c11_0), (12, .int .i64 x12_0), (56, .bool (decide (x12_0 < (I64 ((t19.1.length : Int) - 1)))))]) (w' := W) (by kernel_rfl) ?_
                  obtain ⟨y34, hy, h⟩ := Option.bind_eq_some_iff.mp h
                  rw [show (decide (x12_0 < (I64 ((t19.1.length : Int) - 1)))) = y34 from Option.some.inj hy]
                  clear hy
                  rcases two (y34) with c35 | c35
                  · replace h := of_true h c35
                    refine RunF.know 56 (b := true) (by kernel_rfl) c35 ?_
                    refine RunF.go 9 [2, 7, 9, 11, 12, 59, 60] (k' := (pin Go.Proofs.Tryd.f8 [1, 1, 1, 1, 1, 1, 0, 1, 0, 0, 1, 0, 0, 0, 0] 2)) (L' := [(2, .slice Ap2 a2.length cp2), (7, .pointer (some ⟨g24, 0, none⟩)), (9, .slice At19_0 t19.1.length ct19_0), (11, .slice A11_0 x11_0.length c11_0), (12, .int .i64 x12_0), (59, .slice At19_0 t19.1.length ct19_0), (60, .int .i64 x12_0)]) (w' := W) (by kernel_rfl) ?_
                    rcases two (decide (0 ≤ x12_0)) with c37 | c37
                    · replace h := of_true h c37
                      rcases two (decide (x12_0 < (t19.1.length : Int))) with c38 | c38
                      · replace h := of_true h c38
                        obtain ⟨uq36, huq36, hvq36⟩ := Each2.at hqt19_0 ([] : List Int) (i := x12_0) (of_decide_eq_true c37) (by have h_ : x12_0 < (t19.1.length : Int) := (of_decide_eq_true c38); first | exact h_ | (simpa using h_))
                        obtain ⟨Aq36, cq36, rfl, hq36⟩ := hvq36
                        obtain ⟨q36, hAq36, hcq36⟩ := RdF.elem hrt19_0 (Mem.oks (hM.as (H' := Gs [⟨.slice A11_0 x11_0.length c11_0, 5, 1, nums .u8 x11_0⟩] [Ft19_0, Ft11_0]) rfl) 0 rfl) huq36
                        refine RunF.y (idx_y (d := some 61) (A := At19_0) (m := t19.1.length) (i := x12_0) (k2 := (pin Go.Proofs.Tryd.f8 [1, 1, 1, 1, 1, 1, 0, 1, 0, 0, 1, 0, 0, 0, 0] 3)) (by kernel_rfl) (of_decide_eq_true c37) (of_decide_eq_true c38) hAq36) trivial ?_
                        refine RunF.y (ld_y (d := some 62) (p := (q36.add (x12_0 : Int).toNat)) (k2 := (pin Go.Proofs.Tryd.f8 [1, 1, 1, 1, 1, 1, 0, 1, 0, 0, 1, 0, 0, 0, 0] 4)) (.slice Aq36 ((rdr ([] : List Int) t19.1 x12_0).length) cq36) (by kernel_rfl)) hcq36 ?_
                        refine RunF.go 3 [2, 7, 9, 11, 12, 64] (k' := (pl Go.Proofs.Tryd.f8 [1, 1, 1, 1, 1, 1, 0, 1, 0, 0, 1, 0, 0, 0, 1])) (L' := [(2, .slice Ap2 a2.length cp2), (7, .pointer (some ⟨g24, 0, none⟩)), (9, .slice At19_0 t19.1.length ct19_0), (11, .slice A11_0 x11_0.length c11_0), (12, .int .i64 x12_0), (64, .bool (((rdr ([] : List Int) t19.1 x12_0).length : Int) != 16))]) (w' := W) (by kernel_rfl) ?_
                        obtain ⟨y39, hy, h⟩ := Option.bind_eq_some_iff.mp h
                        rw [show ((((rdr ([] : List Int) t19.1 x12_0).length : Int) != 16)) = y39 from Option.some.inj hy]
                        clear hy
                        rcases two (y39) with c40 | c40
                        · replace h := of_true h c40
                          refine RunF.know 64 (b := true) (by kernel_rfl) c40 ?_
                          refine RunF.go 5 [6] (k' := (pl Go.Proofs.Tryd.f8 [1, 1, 1, 1, 1, 1, 0, 1, 0, 0, 1, 0, 0, 0, 1, 0, 1])) (L' := [(6, .bool false)]) (w' := W) (by kernel_rfl) ?_
                          obtain rfl := Option.some.inj h
                          exact RunF.ret1 6 (.bool false) (fn := Go.Proofs.Tryd.f8) Go.Proofs.Tryd.func8 (by kernel_rfl) (by kernel_rfl) (by kernel_rfl) ⟨_, rfl, rfl, (Mem.pickF (hM.as (H' := Gs [⟨.slice A11_0 x11_0.length c11_0, 5, 1, nums .u8 x11_0⟩] [Ft19_0, Ft11_0]) rfl) [] rfl rfl rfl).ungrp⟩
                        · replace h := of_false h c40
                          refine RunF.know 64 (b := false) (by kernel_rfl) c40 ?_
                          refine RunF.go 10 [2, 7, 9, 12, 68, 69, 70, 71] (k' := (pin Go.Proofs.Tryd.f8 [1, 1, 1, 1, 1, 1, 0, 1, 0, 0, 1, 0, 0, 1, 0] 6)) (L' := [(2, .slice Ap2 a2.length cp2), (7, .pointer (some ⟨g24, 0, none⟩)), (9, .slice At19_0 t19.1.length ct19_0), (12, .int .i64 x12_0), (68, .int .i64 (I64 (1 + (Int.tmod x12_0 2)))), (69, .slice A11_0 x11_0.length c11_0), (70, .slice At19_0 t19.1.length ct19_0), (71, .int .i64 x12_0)]) (w' := W) (by kernel_rfl) ?_
                          rcases two (decide (0 ≤ x12_0)) with c42 | c42
                          · replace h := of_true h c42
                            rcases two (decide (x12_0 < (t19.1.length : Int))) with c43 | c43
                            · replace h := of_true h c43
                              obtain ⟨uq41, huq41, hvq41⟩ := Each2.at hqt19_0 ([] : List Int) (i := x12_0) (of_decide_eq_true c42) (by have h_ : x12_0 < (t19.1.length : Int) := (of_decide_eq_true c43); first | exact h_ | (simpa using h_))
                              obtain ⟨Aq41, cq41, rfl, hq41⟩ := hvq41
                              obtain ⟨q41, hAq41, hcq41⟩ := RdF.elem hrt19_0 (Mem.oks (hM.as (H' := Gs [⟨.slice A11_0 x11_0.length c11_0, 5, 1, nums .u8 x11_0⟩] [Ft19_0, Ft11_0]) rfl) 0 rfl) huq41
                              refine RunF.y (idx_y (d := some 72) (A := At19_0) (m := t19.1.length) (i := x12_0) (k2 := (pin Go.Proofs.Tryd.f8 [1, 1, 1, 1, 1, 1, 0, 1, 0, 0, 1, 0, 0, 1, 0] 7)) (by kernel_rfl) (of_decide_eq_true c42) (of_decide_eq_true c43) hAq41) trivial ?_
                              refine RunF.y (ld_y (d := some 73) (p := (q41.add (x12_0 : Int).toNat)) (k2 := (pin Go.Proofs.Tryd.f8 [1, 1, 1, 1, 1, 1, 0, 1, 0, 0, 1, 0, 0, 1, 0] 8)) (.slice Aq41 ((rdr ([] : List Int) t19.1 x12_0).length) cq41) (by kernel_rfl)) hcq41 ?_
                              obtain ⟨t45, ht45, h⟩ := Option.bind_eq_some_iff.mp h
                              refine RunF.call (d := some 74) (g := 20) (args := #[.slice A11_0 x11_0.length c11_0, .slice Aq41 ((rdr ([] : List Int) t19.1 x12_0).length) cq41]) (k2 := (pin Go.Proofs.Tryd.f8 [1, 1, 1, 1, 1, 1, 0, 1, 0, 0, 1, 0, 0, 1, 0] 9)) (by kernel_rfl) (scrimref1_Both.calls k A11_0 x11_0.length c11_0 x11_0 Aq41 ((rdr ([] : List Int) t19.1 x12_0).length) cq41 (rdr ([] : List Int) t19.1 x12_0) t45 _ (hM.rd 0 rfl) (hq41 _ (Mem.oks (hM.as (H' := Gs [⟨.slice A11_0 x11_0.length c11_0, 5, 1, nums .u8 x11_0⟩] [Ft19_0, Ft11_0]) rfl) 0 rfl)) ht45) ?_
                              rintro _ W44 ⟨A46, n47, c48, rfl, hM_⟩
                              obtain rfl : t45.length = n47 := by have h_ := (hM_.rd 0 rfl).1; simpa [nums_length, bools_length, strs_length] using h_
                              replace hM : Mem w W44 (Gs [⟨.slice A46 t45.length c48, 5, 1, nums .u8 t45⟩, ⟨.slice A11_0 x11_0.length c11_0, 5, 1, nums .u8 x11_0⟩] [Ft19_0, Ft11_0]) := (Mem.callG (hM.as (H' := Gs [⟨.slice A11_0 x11_0.length c11_0, 5, 1, nums .u8 x11_0⟩] [Ft19_0, Ft11_0]) rfl) hM_.grp).as rfl
                              clear hM_ ht45
                              obtain ⟨t51, ht51, h⟩ := Option.bind_eq_some_iff.mp h
                              refine RunF.call (d := some 75) (g := 17) (args := #[.int .i64 (I64 (1 + (Int.tmod x12_0 2))), .slice A46 t45.length c48]) (k2 := (pin Go.Proofs.Tryd.f8 [1, 1, 1, 1, 1, 1, 0, 1, 0, 0, 1, 0, 0, 1, 0] 10)) (by kernel_rfl) (aria_Layer.calls k (I64 (1 + (Int.tmod x12_0 2))) A46 t45.length c48 t45 t51 _ (hM.rd 0 rfl) (hG0.mono hM.below) ht51) ?_
                              rintro _ W50 ⟨A52, n53, c54, rfl, hM_⟩
                              obtain rfl : t51.1.length = n53 := by have h_ := (hM_.rd 0 rfl).1; simpa [nums_length, bools_length, strs_length] using h_
                              replace hM : Mem w W50 (Gs [⟨.slice A52 t51.1.length c54, 5, 1, nums .u8 t51.1⟩, ⟨.slice A46 t45.length c48, 5, 1, nums .u8 t45⟩, ⟨.slice A11_0 x11_0.length c11_0, 5, 1, nums .u8 x11_0⟩] [Ft19_0, Ft11_0]) := (Mem.callG (hM.as (H' := Gs [⟨.slice A46 t45.length c48, 5, 1, nums .u8 t45⟩, ⟨.slice A11_0 x11_0.length c11_0, 5, 1, nums .u8 x11_0⟩] [Ft19_0, Ft11_0]) rfl) hM_.grp).as rfl
                              clear hM_ ht51
                              refine RunF.go 12 [2, 7, 9, 12, 13, 80] (k' := (pin Go.Proofs.Tryd.f8 [1, 1, 1, 1, 1, 1, 0, 1, 0, 0, 1, 0, 0, 1, 1, 0, 0] 3)) (L' := [(2, .slice Ap2 a2.length cp2), (7, .pointer (some ⟨g24, 0, none⟩)), (9, .slice At19_0 t19.1.length ct19_0), (12, .int .i64 x12_0), (13, .slice A52 t51.1.length c54), (80, .bool (!t51.2))]) (w' := W50) (by kernel_rfl) ?_
                              rcases two (!t51.2) with c56 | c56
                              · replace h := of_true h c56
                                refine RunF.know 80 (b := true) (by kernel_rfl) c56 ?_
                                refine RunF.go 10 [6] (k' := (pl Go.Proofs.Tryd.f8 [1, 1, 1, 1, 1, 1, 0, 1, 0, 0, 1, 0, 0, 1, 1, 0, 1, 0, 1])) (L' := [(6, .bool false)]) (w' := W50) (by kernel_rfl) ?_
                                obtain rfl := Option.some.inj h
                                exact RunF.ret1 6 (.bool false) (fn := Go.Proofs.Tryd.f8) Go.Proofs.Tryd.func8 (by kernel_rfl) (by kernel_rfl) (by kernel_rfl) ⟨_, rfl, rfl, (Mem.pickF (hM.as (H' := Gs [⟨.slice A52 t51.1.length c54, 5, 1, nums .u8 t51.1⟩, ⟨.slice A46 t45.length c48, 5, 1, nums .u8 t45⟩, ⟨.slice A11_0 x11_0.length c11_0, 5, 1, nums .u8 x11_0⟩] [Ft19_0, Ft11_0]) rfl) [] rfl rfl rfl).ungrp⟩
                              · replace h := of_false h c56
                                refine RunF.know 80 (b := false) (by kernel_rfl) c56 ?_
                                refine RunF.go 5 [2, 7, 9, 12, 13, 84] (k' := (pl Go.Proofs.Tryd.f8 [1, 1, 1, 1, 1, 1, 0, 1, 0, 0, 1, 0, 0, 1, 1, 0, 1])) (L' := [(2, .slice Ap2 a2.length cp2), (7, .pointer (some ⟨g24, 0, none⟩)), (9, .slice At19_0 t19.1.length ct19_0), (12, .int .i64 x12_0), (13, .slice A52 t51.1.length c54), (84, .bool ((t51.1.length : Int) != 16))]) (w' := W50) (by kernel_rfl) ?_
                                rcases two (((t51.1.length : Int) != 16)) with c57 | c57
                                · replace h := of_true h c57
                                  refine RunF.know 84 (b := true) (by kernel_rfl) c57 ?_
                                  refine RunF.go 5 [6] (k' := (pl Go.Proofs.Tryd.f8 [1, 1, 1, 1, 1, 1, 0, 1, 0, 0, 1, 0, 0, 1, 1, 0, 1, 0, 1])) (L' := [(6, .bool false)]) (w' := W50) (by kernel_rfl) ?_
                                  obtain rfl := Option.some.inj h
                                  exact RunF.ret1 6 (.bool false) (fn := Go.Proofs.Tryd.f8) Go.Proofs.Tryd.func8 (by kernel_rfl) (by kernel_rfl) (by kernel_rfl) ⟨_, rfl, rfl, (Mem.pickF (hM.as (H' := Gs [⟨.slice A52 t51.1.length c54, 5, 1, nums .u8 t51.1⟩, ⟨.slice A46 t45.length c48, 5, 1, nums .u8 t45⟩, ⟨.slice A11_0 x11_0.length c11_0, 5, 1, nums .u8 x11_0⟩] [Ft19_0, Ft11_0]) rfl) [] rfl rfl rfl).ungrp⟩
                                · replace h := of_false h c57
                                  refine RunF.know 84 (b := false) (by kernel_rfl) c57 ?_
                                  refine RunF.go 15 [2, 7, 9, 11, 12, 13, 90] (k' := (pl Go.Proofs.Tryd.f8 [1, 1, 1, 1, 1, 1, 0, 1, 0, 0, 1, 0, 0, 1, 1, 1, 1, 1])) (L' := [(2, .slice Ap2 a2.length cp2), (7, .pointer (some ⟨g24, 0, none⟩)), (9, .slice At19_0 t19.1.length ct19_0), (11, .slice A52 t51.1.length c54), (12, .int .i64 x12_0), (13, .slice A52 t51.1.length c54), (90, .bool (decide (x12_0 < (I64 ((t19.1.length : Int) - 2)))))]) (w' := W50) (by kernel_rfl) ?_
                                  obtain ⟨y58, hy, h⟩ := Option.bind_eq_some_iff.mp h
                                  rw [show (decide (x12_0 < (I64 ((t19.1.length : Int) - 2)))) = y58 from Option.some.inj hy]
                                  clear hy
                                  rcases two (y58) with c59 | c59
                                  · replace h := of_true h c59
                                    refine RunF.know 90 (b := true) (by kernel_rfl) c59 ?_
                                    refine RunF.go 4 [2, 7, 9, 12, 92] (k' := (pin Go.Proofs.Tryd.f8 [1, 1, 1, 1, 1, 1, 0, 1, 0, 0, 1, 0, 0, 1, 1, 1, 1, 1, 0, 0] 1)) (L' := [(2, .slice Ap2 a2.length cp2), (7, .pointer (some ⟨g24, 0, none⟩)), (9, .slice At19_0 t19.1.length ct19_0), (12, .int .i64 x12_0), (92, .slice A52 t51.1.length c54)]) (w' := W50) (by kernel_rfl) ?_
                                    obtain ⟨t61, ht61, h⟩ := Option.bind_eq_some_iff.mp h
                                    refine RunF.call (d := some 93) (g := 11) (args := #[.slice A52 t51.1.length c54]) (k2 := (pin Go.Proofs.Tryd.f8 [1, 1, 1, 1, 1, 1, 0, 1, 0, 0, 1, 0, 0, 1, 1, 1, 1, 1, 0, 0] 2)) (by kernel_rfl) (aria_Mix.calls k A52 t51.1.length c54 t51.1 t61 _ (hM.rd 0 rfl) ht61) ?_
                                    rintro _ W60 ⟨A62, n63, c64, rfl, hM_⟩
                                    obtain rfl : t61.1.length = n63 := by have h_ := (hM_.rd 0 rfl).1; simpa [nums_length, bools_length, strs_length] using h_
                                    replace hM : Mem w W60 (Gs [⟨.slice A62 t61.1.length c64, 5, 1, nums .u8 t61.1⟩, ⟨.slice A52 t51.1.length c54, 5, 1, nums .u8 t51.1⟩, ⟨.slice A46 t45.length c48, 5, 1, nums .u8 t45⟩, ⟨.slice A11_0 x11_0.length c11_0, 5, 1, nums .u8 x11_0⟩] [Ft19_0, Ft11_0]) := (Mem.callG (hM.as (H' := Gs [⟨.slice A52 t51.1.length c54, 5, 1, nums .u8 t51.1⟩, ⟨.slice A46 t45.length c48, 5, 1, nums .u8 t45⟩, ⟨.slice A11_0 x11_0.length c11_0, 5, 1, nums .u8 x11_0⟩] [Ft19_0, Ft11_0]) rfl) hM_.grp).as rfl
                                    clear hM_ ht61
                                    refine RunF.go 12 [2, 7, 9, 12, 15, 98] (k' := (pin Go.Proofs.Tryd.f8 [1, 1, 1, 1, 1, 1, 0, 1, 0, 0, 1, 0, 0, 1, 1, 1, 1, 1, 0, 1, 0, 0] 3)) (L' := [(2, .slice Ap2 a2.length cp2), (7, .pointer (some ⟨g24, 0, none⟩)), (9, .slice At19_0 t19.1.length ct19_0), (12, .int .i64 x12_0), (15, .slice A62 t61.1.length c64), (98, .bool (!t61.2))]) (w' := W60) (by kernel_rfl) ?_
                                    rcases two (!t61.2) with c66 | c66
                                    · replace h := of_true h c66
                                      refine RunF.know 98 (b := true) (by kernel_rfl) c66 ?_
                                      refine RunF.go 10 [6] (k' := (pl Go.Proofs.Tryd.f8 [1, 1, 1, 1, 1, 1, 0, 1, 0, 0, 1, 0, 0, 1, 1, 1, 1, 1, 0, 1, 0, 1, 0, 1])) (L' := [(6, .bool false)]) (w' := W60) (by kernel_rfl) ?_
                                      obtain rfl := Option.some.inj h
                                      exact RunF.ret1 6 (.bool false) (fn := Go.Proofs.Tryd.f8) Go.Proofs.Tryd.func8 (by kernel_rfl) (by kernel_rfl) (by kernel_rfl) ⟨_, rfl, rfl, (Mem.pickF (hM.as (H' := Gs [⟨.slice A62 t61.1.length c64, 5, 1, nums .u8 t61.1⟩, ⟨.slice A52 t51.1.length c54, 5, 1, nums .u8 t51.1⟩, ⟨.slice A46 t45.length c48, 5, 1, nums .u8 t45⟩, ⟨.slice A11_0 x11_0.length c11_0, 5, 1, nums .u8 x11_0⟩] [Ft19_0, Ft11_0]) rfl) [] rfl rfl rfl).ungrp⟩
                                    · replace h := of_false h c66
                                      refine RunF.know 98 (b := false) (by kernel_rfl) c66 ?_
                                      refine RunF.go 5 [2, 7, 9, 12, 15, 102] (k' := (pl Go.Proofs.Tryd.f8 [1, 1, 1, 1, 1, 1, 0, 1, 0, 0, 1, 0, 0, 1, 1, 1, 1, 1, 0, 1, 0, 1])) (L' := [(2, .slice Ap2 a2.length cp2), (7, .pointer (some ⟨g24, 0, none⟩)), (9, .slice At19_0 t19.1.length ct19_0), (12, .int .i64 x12_0), (15, .slice A62 t61.1.length c64), (102, .bool ((t61.1.length : Int) != 16))]) (w' := W60) (by kernel_rfl) ?_
                                      rcases two (((t61.1.length : Int) != 16)) with c67 | c67
                                      · replace h := of_true h c67
                                        refine RunF.know 102 (b := true) (by kernel_rfl) c67 ?_
                                        refine RunF.go 5 [6] (k' := (pl Go.Proofs.Tryd.f8 [1, 1, 1, 1, 1, 1, 0, 1, 0, 0, 1, 0, 0, 1, 1, 1, 1, 1, 0, 1, 0, 1, 0, 1])) (L' := [(6, .bool false)]) (w' := W60) (by kernel_rfl) ?_
                                        obtain rfl := Option.some.inj h
                                        exact RunF.ret1 6 (.bool false) (fn := Go.Proofs.Tryd.f8) Go.Proofs.Tryd.func8 (by kernel_rfl) (by kernel_rfl) (by kernel_rfl) ⟨_, rfl, rfl, (Mem.pickF (hM.as (H' := Gs [⟨.slice A62 t61.1.length c64, 5, 1, nums .u8 t61.1⟩, ⟨.slice A52 t51.1.length c54, 5, 1, nums .u8 t51.1⟩, ⟨.slice A46 t45.length c48, 5, 1, nums .u8 t45⟩, ⟨.slice A11_0 x11_0.length c11_0, 5, 1, nums .u8 x11_0⟩] [Ft19_0, Ft11_0]) rfl) [] rfl rfl rfl).ungrp⟩
                                      · replace h := of_false h c67
                                        refine RunF.know 102 (b := false) (by kernel_rfl) c67 ?_
                                        refine RunF.go 13 [2, 7, 9, 11, 12] (k' := (pl Go.Proofs.Tryd.f8 [1, 1, 1, 1, 1, 1, 0, 1, 0, 0])) (L' := [(2, .slice Ap2 a2.length cp2), (7, .pointer (some ⟨g24, 0, none⟩)), (9, .slice At19_0 t19.1.length ct19_0), (11, .slice A62 t61.1.length c64), (12, .int .i64 (I64 (x12_0 + 1)))]) (w' := W60) (by kernel_rfl) ?_
                                        exact ih0 k (by omega) A62 c64 t61.1 (I64 (x12_0 + 1)) _ (Mem.pickF (hM.as (H' := Gs [⟨.slice A62 t61.1.length c64, 5, 1, nums .u8 t61.1⟩, ⟨.slice A52 t51.1.length c54, 5, 1, nums .u8 t51.1⟩, ⟨.slice A46 t45.length c48, 5, 1, nums .u8 t45⟩, ⟨.slice A11_0 x11_0.length c11_0, 5, 1, nums .u8 x11_0⟩] [Ft19_0, Ft11_0]) rfl) [0, 4, 5] rfl rfl rfl) h
                                  · replace h := of_false h c59
                                    refine RunF.know 90 (b := false) (by kernel_rfl) c59 ?_
                                    refine RunF.go 9 [2, 7, 9, 11, 12] (k' := (pl Go.Proofs.Tryd.f8 [1, 1, 1, 1, 1, 1, 0, 1, 0, 0])) (L' := [(2, .slice Ap2 a2.length cp2), (7, .pointer (some ⟨g24, 0, none⟩)), (9, .slice At19_0 t19.1.length ct19_0), (11, .slice A52 t51.1.length c54), (12, .int .i64 (I64 (x12_0 + 1)))]) (w' := W50) (by kernel_rfl) ?_
                                    exact ih0 k (by omega) A52 c54 t51.1 (I64 (x12_0 + 1)) _ (Mem.pickF (hM.as (H' := Gs [⟨.slice A52 t51.1.length c54, 5, 1, nums .u8 t51.1⟩, ⟨.slice A46 t45.length c48, 5, 1, nums .u8 t45⟩, ⟨.slice A11_0 x11_0.length c11_0, 5, 1, nums .u8 x11_0⟩] [Ft19_0, Ft11_0]) rfl) [0, 3, 4] rfl rfl rfl) h
                            · replace h := of_false h c43
                              cases h
                          · replace h := of_false h c42
                            cases h
                      · replace h := of_false h c38
                        cases h
                    · replace h := of_false h c37
                      cases h
                  · replace h := of_false h c35
                    refine RunF.know 56 (b := false) (by kernel_rfl) c35 ?_
                    refine RunF.go 6 [9, 11, 105, 106] (k' := (pin Go.Proofs.Tryd.f8 [1, 1, 1, 1, 1, 1, 1, 0] 2)) (L' := [(9, .slice At19_0 t19.1.length ct19_0), (11, .slice A11_0 x11_0.length c11_0), (105, .pointer (some ⟨g24, 0, none⟩)), (106, .slice Ap2 a2.length cp2)]) (w' := W) (by kernel_rfl) ?_
                    obtain ⟨t69, ht69, h⟩ := Option.bind_eq_some_iff.mp h
                    refine RunF.call (d := some 107) (g := 10) (args := #[.int .i64 16, .slice Ap2 a2.length cp2]) (k2 := (pin Go.Proofs.Tryd.f8 [1, 1, 1, 1, 1, 1, 1, 0] 3)) (by kernel_rfl) (scrimlaw10_Bytes.calls k 16 Ap2 a2.length cp2 a2 t69 _ (hr2.mono hM.below) ht69) ?_
                    rintro _ W68 ⟨A70, n71, c72, rfl, hM_⟩
                    obtain rfl : t69.length = n71 := by have h_ := (hM_.rd 0 rfl).1; simpa [nums_length, bools_length, strs_length] using h_
                    replace hM : Mem w W68 (Gs [⟨.slice A70 t69.length c72, 5, 1, nums .u8 t69⟩, ⟨.slice A11_0 x11_0.length c11_0, 5, 1, nums .u8 x11_0⟩] [Ft19_0, Ft11_0]) := (Mem.callG (hM.as (H' := Gs [⟨.slice A11_0 x11_0.length c11_0, 5, 1, nums .u8 x11_0⟩] [Ft19_0, Ft11_0]) rfl) hM_.grp).as rfl
                    clear hM_ ht69
                    obtain ⟨t75, ht75, h⟩ := Option.bind_eq_some_iff.mp h
                    refine RunF.call (d := some 108) (g := 21) (args := #[.pointer (some ⟨g24, 0, none⟩), .slice A70 t69.length c72, .bool false]) (k2 := (pin Go.Proofs.Tryd.f8 [1, 1, 1, 1, 1, 1, 1, 0] 4)) (by kernel_rfl) (aria_Aria_Block.calls k (.pointer (some ⟨g24, 0, none⟩)) (Oks Ft11_0) s23 A70 t69.length c72 t69 false t75 _ (hM.rd 0 rfl) hps23 (fun _ hb_ => ((Mem.oks (hM.as (H' := Gs [⟨.slice A70 t69.length c72, 5, 1, nums .u8 t69⟩, ⟨.slice A11_0 x11_0.length c11_0, 5, 1, nums .u8 x11_0⟩] [Ft19_0, Ft11_0]) rfl) 1 rfl).kept hb_)) ht75) ?_
                    rintro _ W74 ⟨A76, n77, c78, rfl, hM_⟩
                    obtain rfl : t75.1.length = n77 := by have h_ := (hM_.rd 0 rfl).1; simpa [nums_length, bools_length, strs_length] using h_
                    replace hM : Mem w W74 (Gs [⟨.slice A76 t75.1.length c78, 5, 1, nums .u8 t75.1⟩, ⟨.slice A70 t69.length c72, 5, 1, nums .u8 t69⟩, ⟨.slice A11_0 x11_0.length c11_0, 5, 1, nums .u8 x11_0⟩] [Ft19_0, Ft11_0]) := (Mem.callG (hM.as (H' := Gs [⟨.slice A70 t69.length c72, 5, 1, nums .u8 t69⟩, ⟨.slice A11_0 x11_0.length c11_0, 5, 1, nums .u8 x11_0⟩] [Ft19_0, Ft11_0]) rfl) hM_.grp).as rfl
                    clear hM_ ht75
                    refine RunF.go 7 [9, 11, 17] (k' := (pl Go.Proofs.Tryd.f8 [1, 1, 1, 1, 1, 1, 1, 1, 0])) (L' := [(9, .slice At19_0 t19.1.length ct19_0), (11, .slice A11_0 x11_0.length c11_0), (17, .slice A76 t75.1.length c78)]) (w' := W74) (by kernel_rfl) ?_
                    refine RunF.draw (Still ({ W74 with drawn := W74.drawn + 1 } : World) []) (by kernel_rfl) (by kernel_rfl) ?_
                    have hMd81 := hM.drew
                    have hS := Still.refl ({ W74 with drawn := W74.drawn + 1 } : World) []
                    generalize ({ W74 with drawn := W74.drawn + 1 } : World) = W80 at hMd81 hS ⊢
                    replace hM := hMd81
                    refine RunAny.y 0 (by kernel_rfl) (yl_pure (d := some 111) (v := .slice At19_0 t19.1.length ct19_0) (k2 := [.inRegion (opsOf (pl Go.Proofs.Tryd.f8 [1, 1, 1, 1, 1, 1, 1, 1, 0])) []]) fun w => by kernel_rfl) (fun _ _ => trivial) hS ?_
                    refine RunAny.y 1 (by kernel_rfl) (yl_pure (d := some 112) (v := .slice At19_0 t19.1.length ct19_0) (k2 := [.inRegion (opsOf (pl Go.Proofs.Tryd.f8 [1, 1, 1, 1, 1, 1, 1, 1, 0])) []]) fun w => by kernel_rfl) (fun _ _ => trivial) hS ?_
                    refine RunAny.y 2 (by kernel_rfl) (yl_pure (d := some 113) (v := .int .i64 (t19.1.length : Int)) (k2 := [.inRegion (opsOf (pl Go.Proofs.Tryd.f8 [1, 1, 1, 1, 1, 1, 1, 1, 0])) []]) fun w => by kernel_rfl) (fun _ _ => trivial) hS ?_
                    refine RunAny.y 3 (by kernel_rfl) (yl_pure (d := some 114) (v := .int .i64 (I64 ((t19.1.length : Int) - 1))) (k2 := [.inRegion (opsOf (pl Go.Proofs.Tryd.f8 [1, 1, 1, 1, 1, 1, 1, 1, 0])) []]) fun w => by kernel_rfl) (fun _ _ => trivial) hS ?_
                    rcases two (decide (0 ≤ (I64 ((t19.1.length : Int) - 1)))) with c83 | c83
                    · replace h := of_true h c83
                      rcases two (decide ((I64 ((t19.1.length : Int) - 1)) < (t19.1.length : Int))) with c84 | c84
                      · replace h := of_true h c84
                        obtain ⟨uq82, huq82, hvq82⟩ := Each2.at hqt19_0 ([] : List Int) (i := I64 ((t19.1.length : Int) - 1)) (of_decide_eq_true c83) (by have h_ : (I64 ((t19.1.length : Int) - 1)) < (t19.1.length : Int) := (of_decide_eq_true c84); first | exact h_ | (simpa using h_))
                        obtain ⟨Aq82, cq82, rfl, hq82⟩ := hvq82
                        obtain ⟨q82, hAq82, hcq82⟩ := RdF.elem hrt19_0 (Mem.oks (hM.as (H' := Gs [⟨.slice A76 t75.1.length c78, 5, 1, nums .u8 t75.1⟩, ⟨.slice A70 t69.length c72, 5, 1, nums .u8 t69⟩, ⟨.slice A11_0 x11_0.length c11_0, 5, 1, nums .u8 x11_0⟩] [Ft19_0, Ft11_0]) rfl) 0 rfl) huq82
                        refine RunAny.y 4 (by kernel_rfl) (idx_y (d := some 115) (A := At19_0) (m := t19.1.length) (i := I64 ((t19.1.length : Int) - 1)) (k2 := [.inRegion (opsOf (pl Go.Proofs.Tryd.f8 [1, 1, 1, 1, 1, 1, 1, 1, 0])) []]) (by kernel_rfl) (of_decide_eq_true c83) (of_decide_eq_true c84) hAq82) (fun _ _ => trivial) hS ?_
                        refine RunAny.y 5 (by kernel_rfl) (ld_y (d := some 116) (p := (q82.add (I64 ((t19.1.length : Int) - 1) : Int).toNat)) (k2 := [.inRegion (opsOf (pl Go.Proofs.Tryd.f8 [1, 1, 1, 1, 1, 1, 1, 1, 0])) []]) (.slice Aq82 ((rdr ([] : List Int) t19.1 (I64 ((t19.1.length : Int) - 1))).length) cq82) (by kernel_rfl)) (fun _ hs => hs.cell hcq82 (by simp)) hS ?_
                        refine RunAny.y 6 (by kernel_rfl) (yl_pure (d := some 117) (v := .int .i64 ((rdr ([] : List Int) t19.1 (I64 ((t19.1.length : Int) - 1))).length : Int)) (k2 := [.inRegion (opsOf (pl Go.Proofs.Tryd.f8 [1, 1, 1, 1, 1, 1, 1, 1, 0])) []]) fun w => by kernel_rfl) (fun _ _ => trivial) hS ?_
                        refine RunAny.y 7 (by kernel_rfl) (yl_pure (d := some 118) (v := .bool (((rdr ([] : List Int) t19.1 (I64 ((t19.1.length : Int) - 1))).length : Int) == 16)) (k2 := [.inRegion (opsOf (pl Go.Proofs.Tryd.f8 [1, 1, 1, 1, 1, 1, 1, 1, 0])) []]) fun w => by kernel_rfl) (fun _ _ => trivial) hS ?_
                        refine RunAny.y 8 (by kernel_rfl) (yl_pure (d := some 119) (v := .bool (((rdr ([] : List Int) t19.1 (I64 ((t19.1.length : Int) - 1))).length : Int) == 16)) (k2 := [.inRegion (opsOf (pl Go.Proofs.Tryd.f8 [1, 1, 1, 1, 1, 1, 1, 1, 0])) []]) fun w => by kernel_rfl) (fun _ _ => trivial) hS ?_
                        rcases two ((((rdr ([] : List Int) t19.1 (I64 ((t19.1.length : Int) - 1))).length : Int) == 16)) with c85 | c85
                        · replace h := of_true h c85
                          refine RunAny.know 119 (b := true) (by kernel_rfl) c85 ?_
                          refine RunAny.y 9 (by kernel_rfl) (yl_pure (d := some 120) (v := .slice A76 t75.1.length c78) (k2 := [.inRegion (opsOf (pl Go.Proofs.Tryd.f8 [1, 1, 1, 1, 1, 1, 1, 1, 0])) []]) fun w => by kernel_rfl) (fun _ _ => trivial) hS ?_
                          refine RunAny.y 10 (by kernel_rfl) (str_y (d := some 121) (A := A76) (m := t75.1.length) (c := c78) (k2 := [.inRegion (opsOf (pl Go.Proofs.Tryd.f8 [1, 1, 1, 1, 1, 1, 1, 1, 0])) []]) t75.1 (by kernel_rfl)) (fun _ hs => ((hM.rd 0 rfl).still hs (by simp))) hS ?_
                          refine RunAny.y 11 (by kernel_rfl) (yl_pure (d := some 122) (v := .slice A11_0 x11_0.length c11_0) (k2 := [.inRegion (opsOf (pl Go.Proofs.Tryd.f8 [1, 1, 1, 1, 1, 1, 1, 1, 0])) []]) fun w => by kernel_rfl) (fun _ _ => trivial) hS ?_
                          refine RunAny.y 12 (by kernel_rfl) (yl_pure (d := some 123) (v := .slice At19_0 t19.1.length ct19_0) (k2 := [.inRegion (opsOf (pl Go.Proofs.Tryd.f8 [1, 1, 1, 1, 1, 1, 1, 1, 0])) []]) fun w => by kernel_rfl) (fun _ _ => trivial) hS ?_
                          refine RunAny.y 13 (by kernel_rfl) (yl_pure (d := some 124) (v := .slice At19_0 t19.1.length ct19_0) (k2 := [.inRegion (opsOf (pl Go.Proofs.Tryd.f8 [1, 1, 1, 1, 1, 1, 1, 1, 0])) []]) fun w => by kernel_rfl) (fun _ _ => trivial) hS ?_
                          refine RunAny.y 14 (by kernel_rfl) (yl_pure (d := some 125) (v := .int .i64 (t19.1.length : Int)) (k2 := [.inRegion (opsOf (pl Go.Proofs.Tryd.f8 [1, 1, 1, 1, 1, 1, 1, 1, 0])) []]) fun w => by kernel_rfl) (fun _ _ => trivial) hS ?_
                          refine RunAny.y 15 (by kernel_rfl) (yl_pure (d := some 126) (v := .int .i64 (I64 ((t19.1.length : Int) - 1))) (k2 := [.inRegion (opsOf (pl Go.Proofs.Tryd.f8 [1, 1, 1, 1, 1, 1, 1, 1, 0])) []]) fun w => by kernel_rfl) (fun _ _ => trivial) hS ?_
                          rcases two (decide (0 ≤ (I64 ((t19.1.length : Int) - 1)))) with c87 | c87
                          · replace h := of_true h c87
                            rcases two (decide ((I64 ((t19.1.length : Int) - 1)) < (t19.1.length : Int))) with c88 | c88
                            · replace h := of_true h c88
                              obtain ⟨uq86, huq86, hvq86⟩ := Each2.at hqt19_0 ([] : List Int) (i := I64 ((t19.1.length : Int) - 1)) (of_decide_eq_true c87) (by have h_ : (I64 ((t19.1.length : Int) - 1)) < (t19.1.length : Int) := (of_decide_eq_true c88); first | exact h_ | (simpa using h_))
                              obtain ⟨Aq86, cq86, rfl, hq86⟩ := hvq86
                              obtain ⟨q86, hAq86, hcq86⟩ := RdF.elem hrt19_0 (Mem.oks (hM.as (H' := Gs [⟨.slice A76 t75.1.length c78, 5, 1, nums .u8 t75.1⟩, ⟨.slice A70 t69.length c72, 5, 1, nums .u8 t69⟩, ⟨.slice A11_0 x11_0.length c11_0, 5, 1, nums .u8 x11_0⟩] [Ft19_0, Ft11_0]) rfl) 0 rfl) huq86
                              refine RunAny.y 16 (by kernel_rfl) (idx_y (d := some 127) (A := At19_0) (m := t19.1.length) (i := I64 ((t19.1.length : Int) - 1)) (k2 := [.inRegion (opsOf (pl Go.Proofs.Tryd.f8 [1, 1, 1, 1, 1, 1, 1, 1, 0])) []]) (by kernel_rfl) (of_decide_eq_true c87) (of_decide_eq_true c88) hAq86) (fun _ _ => trivial) hS ?_
                              refine RunAny.y 17 (by kernel_rfl) (ld_y (d := some 128) (p := (q86.add (I64 ((t19.1.length : Int) - 1) : Int).toNat)) (k2 := [.inRegion (opsOf (pl Go.Proofs.Tryd.f8 [1, 1, 1, 1, 1, 1, 1, 1, 0])) []]) (.slice Aq86 ((rdr ([] : List Int) t19.1 (I64 ((t19.1.length : Int) - 1))).length) cq86) (by kernel_rfl)) (fun _ hs => hs.cell hcq86 (by simp)) hS ?_
                              obtain ⟨t90, ht90, h⟩ := Option.bind_eq_some_iff.mp h
                              refine RunAny.call 18 (d := some 129) (g := 20) (args := #[.slice A11_0 x11_0.length c11_0, .slice Aq86 ((rdr ([] : List Int) t19.1 (I64 ((t19.1.length : Int) - 1))).length) cq86]) (by kernel_rfl) (by kernel_rfl) (scrimref1_Both.calls k A11_0 x11_0.length c11_0 x11_0 Aq86 ((rdr ([] : List Int) t19.1 (I64 ((t19.1.length : Int) - 1))).length) cq86 (rdr ([] : List Int) t19.1 (I64 ((t19.1.length : Int) - 1))) t90 _ (hM.rd 2 rfl) (hq86 _ (Mem.oks (hM.as (H' := Gs [⟨.slice A76 t75.1.length c78, 5, 1, nums .u8 t75.1⟩, ⟨.slice A70 t69.length c72, 5, 1, nums .u8 t69⟩, ⟨.slice A11_0 x11_0.length c11_0, 5, 1, nums .u8 x11_0⟩] [Ft19_0, Ft11_0]) rfl) 0 rfl)) ht90) (by rintro _ _ ⟨_, _, _, rfl, hM_⟩; exact hS.below hM_.below) ?_
                              rintro _ W89 ⟨A91, n92, c93, rfl, hM_⟩
                              obtain rfl : t90.length = n92 := by have h_ := (hM_.rd 0 rfl).1; simpa [nums_length, bools_length, strs_length] using h_
                              replace hS := hS.below hM_.below
                              replace hM : Mem w W89 (Gs [⟨.slice A91 t90.length c93, 5, 1, nums .u8 t90⟩, ⟨.slice A76 t75.1.length c78, 5, 1, nums .u8 t75.1⟩, ⟨.slice A70 t69.length c72, 5, 1, nums .u8 t69⟩, ⟨.slice A11_0 x11_0.length c11_0, 5, 1, nums .u8 x11_0⟩] [Ft19_0, Ft11_0]) := (Mem.callG (hM.as (H' := Gs [⟨.slice A76 t75.1.length c78, 5, 1, nums .u8 t75.1⟩, ⟨.slice A70 t69.length c72, 5, 1, nums .u8 t69⟩, ⟨.slice A11_0 x11_0.length c11_0, 5, 1, nums .u8 x11_0⟩] [Ft19_0, Ft11_0]) rfl) hM_.grp).as rfl
                              clear hM_ ht90
                              refine RunAny.rebase hS ?_
                              replace hS := Still.refl W89 []
                              refine RunAny.y 19 (by kernel_rfl) (str_y (d := some 130) (A := A91) (m := t90.length) (c := c93) (k2 := [.inRegion (opsOf (pl Go.Proofs.Tryd.f8 [1, 1, 1, 1, 1, 1, 1, 1, 0])) []]) t90 (by kernel_rfl)) (fun _ hs => ((hM.rd 0 rfl).still hs (by simp))) hS ?_
                              refine RunAny.y 20 (by kernel_rfl) (yl_pure (d := some 131) (v := .bool ((strOf t75.1).toList == (strOf t90).toList)) (k2 := [.inRegion (opsOf (pl Go.Proofs.Tryd.f8 [1, 1, 1, 1, 1, 1, 1, 1, 0])) []]) fun w => by kernel_rfl) (fun _ _ => trivial) hS ?_
                              refine RunAny.y 21 (by kernel_rfl) (yl_pure (d := some 132) (v := .bool ((strOf t75.1).toList == (strOf t90).toList)) (k2 := [.inRegion (opsOf (pl Go.Proofs.Tryd.f8 [1, 1, 1, 1, 1, 1, 1, 1, 0])) []]) fun w => by kernel_rfl) (fun _ _ => trivial) hS ?_
                              refine RunAny.y 22 (by kernel_rfl) (yl_pure (d := some 6) (v := .bool ((strOf t75.1).toList == (strOf t90).toList)) (k2 := [.inRegion (opsOf (pl Go.Proofs.Tryd.f8 [1, 1, 1, 1, 1, 1, 1, 1, 0])) []]) fun w => by kernel_rfl) (fun _ _ => trivial) hS ?_
                              refine RunAny.done (by kernel_rfl) ?_
                              clear hS
                              obtain rfl := Option.some.inj h
                              exact RunF.ret1 6 (.bool ((strOf t75.1).toList == (strOf t90).toList)) (fn := Go.Proofs.Tryd.f8) Go.Proofs.Tryd.func8 (by kernel_rfl) (by kernel_rfl) (by kernel_rfl) ⟨_, rfl, rfl, (Mem.pickF (hM.as (H' := Gs [⟨.slice A91 t90.length c93, 5, 1, nums .u8 t90⟩, ⟨.slice A76 t75.1.length c78, 5, 1, nums .u8 t75.1⟩, ⟨.slice A70 t69.length c72, 5, 1, nums .u8 t69⟩, ⟨.slice A11_0 x11_0.length c11_0, 5, 1, nums .u8 x11_0⟩] [Ft19_0, Ft11_0]) rfl) [] rfl rfl rfl).ungrp⟩
                            · replace h := of_false h c88
                              cases h
                          · replace h := of_false h c87
                            cases h
                        · replace h := of_false h c85
                          refine RunAny.know 119 (b := false) (by kernel_rfl) c85 ?_
                          refine RunAny.off 9 (d := some 120) (by kernel_rfl) (by kernel_rfl) hS ?_
                          refine RunAny.off 10 (d := some 121) (by kernel_rfl) (by kernel_rfl) hS ?_
                          refine RunAny.off 11 (d := some 122) (by kernel_rfl) (by kernel_rfl) hS ?_
                          refine RunAny.off 12 (d := some 123) (by kernel_rfl) (by kernel_rfl) hS ?_
                          refine RunAny.off 13 (d := some 124) (by kernel_rfl) (by kernel_rfl) hS ?_
                          refine RunAny.off 14 (d := some 125) (by kernel_rfl) (by kernel_rfl) hS ?_
                          refine RunAny.off 15 (d := some 126) (by kernel_rfl) (by kernel_rfl) hS ?_
                          refine RunAny.off 16 (d := some 127) (by kernel_rfl) (by kernel_rfl) hS ?_
                          refine RunAny.off 17 (d := some 128) (by kernel_rfl) (by kernel_rfl) hS ?_
                          refine RunAny.off 18 (d := some 129) (by kernel_rfl) (by kernel_rfl) hS ?_
                          refine RunAny.off 19 (d := some 130) (by kernel_rfl) (by kernel_rfl) hS ?_
                          refine RunAny.off 20 (d := some 131) (by kernel_rfl) (by kernel_rfl) hS ?_
                          refine RunAny.y 21 (by kernel_rfl) (yl_pure (d := some 132) (v := .bool false) (k2 := [.inRegion (opsOf (pl Go.Proofs.Tryd.f8 [1, 1, 1, 1, 1, 1, 1, 1, 0])) []]) fun w => by kernel_rfl) (fun _ _ => trivial) hS ?_
                          refine RunAny.y 22 (by kernel_rfl) (yl_pure (d := some 6) (v := .bool false) (k2 := [.inRegion (opsOf (pl Go.Proofs.Tryd.f8 [1, 1, 1, 1, 1, 1, 1, 1, 0])) []]) fun w => by kernel_rfl) (fun _ _ => trivial) hS ?_
                          refine RunAny.done (by kernel_rfl) ?_
                          clear hS
                          obtain rfl := Option.some.inj h
                          exact RunF.ret1 6 (.bool false) (fn := Go.Proofs.Tryd.f8) Go.Proofs.Tryd.func8 (by kernel_rfl) (by kernel_rfl) (by kernel_rfl) ⟨_, rfl, rfl, (Mem.pickF (hM.as (H' := Gs [⟨.slice A76 t75.1.length c78, 5, 1, nums .u8 t75.1⟩, ⟨.slice A70 t69.length c72, 5, 1, nums .u8 t69⟩, ⟨.slice A11_0 x11_0.length c11_0, 5, 1, nums .u8 x11_0⟩] [Ft19_0, Ft11_0]) rfl) [] rfl rfl rfl).ungrp⟩
                      · replace h := of_false h c84
                        cases h
                    · replace h := of_false h c83
                      cases h
            exact l0 k (Nat.le_refl _) A29 c31 t28 0 _ (Mem.pickF (hM.as (H' := Gs [⟨.slice A29 t28.length c31, 5, 1, nums .u8 t28⟩, ⟨.slice A14 t13.length c16, 5, 1, nums .u8 t13⟩, ⟨.slice A6 t5.length c8, 5, 1, nums .u8 t5⟩] [Ft19_0, Ft11_0]) rfl) [0, 3, 4] rfl rfl rfl) h
        · replace h := of_false h c22
          obtain rfl := rOpt.none hRt11_0 c22
          refine RunF.go 13 [6] (k' := (pl Go.Proofs.Tryd.f8 [1, 1, 1, 1, 0, 1, 0, 1])) (L' := [(6, .bool false)]) (w' := W18) (by kernel_rfl) ?_
          obtain rfl := Option.some.inj h
          exact RunF.ret1 6 (.bool false) (fn := Go.Proofs.Tryd.f8) Go.Proofs.Tryd.func8 (by kernel_rfl) (by kernel_rfl) (by kernel_rfl) ⟨_, rfl, rfl, (Mem.pickF (hM.as (H' := Gs [⟨.slice A14 t13.length c16, 5, 1, nums .u8 t13⟩, ⟨.slice A6 t5.length c8, 5, 1, nums .u8 t5⟩] [Ft19_0, Ft11_0]) rfl) [] rfl rfl rfl).ungrp⟩


end Go.Scr.S
