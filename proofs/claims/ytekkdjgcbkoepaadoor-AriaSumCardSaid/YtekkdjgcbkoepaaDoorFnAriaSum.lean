/- The functions that the law AriaSum reaches, as plain functions, and that each call answers so. -/
import Derived.Test.YtekkdjgcbkoepaaDoorProg
import Derived.Test.YtekkdjgcbkoepaaDoorFnAriaSum1
set_option linter.unusedVariables false
set_option linter.unusedSimpArgs false
set_option linter.unnecessarySimpa false
namespace Go.Scr.S
open Go.RowKit (Below)
/-! ### scrim/scrimlaw10.known: function 9 -/
def scrimlaw10_known.f (k : Nat)  : Option (Bool) := (aria_New.f k ([] : List Int)).bind fun t2 => ((aria_New.f k (List.replicate 16 (0 : Int))).bind fun t7 => (if (t2.2 != 4) = true then (some false) else (if (t7.2 != 0) = true then (some false) else (if t7.1.isSome = true then ((t7.1).bind fun s11 => ((aria_Aria_Block.f k s11 (List.replicate 16 (0 : Int)) false).bind fun t18 => ((aria_Aria_Block.f k s11 t18.1 true).bind fun t24 => (if (t18.2 == 0) = true then (if (t24.2 == 0) = true then (if ((t18.1.length : Int) == 16) = true then (if (!((strOf t18.1).toList == (strOf t24.1).toList)) = true then (some ((strOf t24.1).toList == (strOf (List.replicate 16 (0 : Int))).toList)) else (some false)) else (some false)) else (some false)) else (some false))))) else (some false)))))
set_option maxRecDepth 100000 in
set_option maxHeartbeats 8000000 in
theorem scrimlaw10_known.calls (k : Nat)  (r : Bool) (w : World) (hG0 : Rg w 0 (nums .u8 [1, 2, 4, 8, 16, 32, 64, 128])) (h : scrimlaw10_known.f k = some r) :
    Calls Go.Proofs.Tryd.prog 9 #[] w (Ret fun v w' => v = .bool r ∧ Mem w w' []) := by
  unfold scrimlaw10_known.f at h
  refine calls_of [] (fn := Go.Proofs.Tryd.f9) Go.Proofs.Tryd.func9 (by kernel_rfl) (by kernel_rfl) ?_
  have hM := Mem.refl w
  refine RunF.go 6 [] (k' := (pin Go.Proofs.Tryd.f9 [1, 0] 0)) (L' := []) (w' := w) (by kernel_rfl) ?_
  obtain ⟨t2, ht2, h⟩ := Option.bind_eq_some_iff.mp h
  refine RunF.call (d := some 10) (g := 19) (args := #[.slice none 0 0]) (k2 := (pin Go.Proofs.Tryd.f9 [1, 0] 1)) (by kernel_rfl) (aria_New.calls k none 0 0 ([] : List Int) t2 _ (Rd.nil _ .u8) (hG0.mono hM.below) ht2) ?_
  rintro _ W1 ⟨vt2_0, Ft2_0, rfl, hRt2_0, hM_⟩
  replace hM : Mem w W1 (Gs [] [Ft2_0]) := (Mem.callG (hM.as (H' := Gs [] []) rfl) hM_).as rfl
  clear hM_ ht2
  refine RunF.go 8 [2] (k' := (pin Go.Proofs.Tryd.f9 [1, 1, 0] 0)) (L' := [(2, .int .i64 t2.2)]) (w' := W1) (by kernel_rfl) ?_
  obtain ⟨W3, hD, hM', hB_⟩ := mk_does (P := Go.Proofs.Tryd.prog) (n := 65) (k := (pin Go.Proofs.Tryd.f9 [1, 1, 0] 0)) (L := [(2, .int .i64 t2.2)]) (d := some 14) (e := 5) (z := .int .u8 0) (l := 16) (c := 16) (k2 := (pin Go.Proofs.Tryd.f9 [1, 1, 0] 1)) (by kernel_rfl) (by omega) (by omega) (by omega) hM
  rw [rep_nums] at hM'
  refine RunF.does hD ?_
  replace hM := hM'; clear hD hM'
  generalize W1.heap.size = g4 at hM ⊢
  obtain ⟨t7, ht7, h⟩ := Option.bind_eq_some_iff.mp h
  refine RunF.call (d := some 15) (g := 19) (args := #[.slice (some ⟨g4, 0, none⟩) 16 16]) (k2 := (pin Go.Proofs.Tryd.f9 [1, 1, 0] 2)) (by kernel_rfl) (aria_New.calls k (some ⟨g4, 0, none⟩) 16 16 (List.replicate 16 (0 : Int)) t7 _ (hM.rd 0 rfl) (hG0.mono hM.below) ht7) ?_
  rintro _ W6 ⟨vt7_0, Ft7_0, rfl, hRt7_0, hM_⟩
  replace hM : Mem w W6 (Gs [⟨.slice (some ⟨g4, 0, none⟩) 16 16, 5, 1, nums .u8 (List.replicate 16 (0 : Int))⟩] [Ft7_0, Ft2_0]) := (Mem.callG (hM.as (H' := Gs [⟨.slice (some ⟨g4, 0, none⟩) 16 16, 5, 1, nums .u8 (List.replicate 16 (0 : Int))⟩] [Ft2_0]) rfl) hM_).as rfl
  clear hM_ ht7
  refine RunF.go 12 [3, 4, 20] (k' := (pin Go.Proofs.Tryd.f9 [1, 1, 1, 0, 0] 3)) (L' := [(3, vt7_0), (4, .int .i64 t7.2), (20, .bool (t2.2 != 4))]) (w' := W6) (by kernel_rfl) ?_
  rcases two ((t2.2 != 4)) with c8 | c8
  · replace h := of_true h c8
    refine RunF.know 20 (b := true) (by kernel_rfl) c8 ?_
    refine RunF.go 13 [0] (k' := (pl Go.Proofs.Tryd.f9 [1, 1, 1, 0, 1, 0, 1])) (L' := [(0, .bool false)]) (w' := W6) (by kernel_rfl) ?_
    obtain rfl := Option.some.inj h
    exact RunF.ret1 0 (.bool false) (fn := Go.Proofs.Tryd.f9) Go.Proofs.Tryd.func9 (by kernel_rfl) (by kernel_rfl) (by kernel_rfl) ⟨_, rfl, rfl, (Mem.pickF (hM.as (H' := Gs [⟨.slice (some ⟨g4, 0, none⟩) 16 16, 5, 1, nums .u8 (List.replicate 16 (0 : Int))⟩] [Ft7_0, Ft2_0]) rfl) [] rfl rfl rfl).ungrp⟩
  · replace h := of_false h c8
    refine RunF.know 20 (b := false) (by kernel_rfl) c8 ?_
    refine RunF.go 4 [3, 24] (k' := (pin Go.Proofs.Tryd.f9 [1, 1, 1, 0, 0] 7)) (L' := [(3, vt7_0), (24, .bool (t7.2 != 0))]) (w' := W6) (by kernel_rfl) ?_
    rcases two ((t7.2 != 0)) with c9 | c9
    · replace h := of_true h c9
      refine RunF.know 24 (b := true) (by kernel_rfl) c9 ?_
      refine RunF.go 9 [0] (k' := (pl Go.Proofs.Tryd.f9 [1, 1, 1, 0, 1, 0, 1])) (L' := [(0, .bool false)]) (w' := W6) (by kernel_rfl) ?_
      obtain rfl := Option.some.inj h
      exact RunF.ret1 0 (.bool false) (fn := Go.Proofs.Tryd.f9) Go.Proofs.Tryd.func9 (by kernel_rfl) (by kernel_rfl) (by kernel_rfl) ⟨_, rfl, rfl, (Mem.pickF (hM.as (H' := Gs [⟨.slice (some ⟨g4, 0, none⟩) 16 16, 5, 1, nums .u8 (List.replicate 16 (0 : Int))⟩] [Ft7_0, Ft2_0]) rfl) [] rfl rfl rfl).ungrp⟩
    · replace h := of_false h c9
      refine RunF.know 24 (b := false) (by kernel_rfl) c9 ?_
      refine RunF.go 1 [3, 24, 25] (k' := (pin Go.Proofs.Tryd.f9 [1, 1, 1, 0, 0] 8)) (L' := [(3, vt7_0), (24, .bool false), (25, vt7_0)]) (w' := W6) (by kernel_rfl) ?_
      rcases two (t7.1.isSome) with c10 | c10
      · replace h := of_true h c10
        obtain ⟨s11, hx_, h⟩ := Option.bind_eq_some_iff.mp h
        have hps11 := rOpt.some hRt7_0 hx_
        obtain ⟨g12, _, rfl, hco13, co13_0, _, rfl, hlo13_0, hqo13_0, ⟨Ao13_1, co13_1, cso13_1, rfl, hro13_1, hqo13_1⟩⟩ := id hps11
        refine RunF.go 8 [3, 29] (k' := (pin Go.Proofs.Tryd.f9 [1, 1, 1, 1, 0] 1)) (L' := [(3, .pointer (some ⟨g12, 0, none⟩)), (29, .pointer (some ⟨g12, 0, none⟩))]) (w' := W6) (by kernel_rfl) ?_
        obtain ⟨W14, hD, hM', hB_⟩ := mk_does (P := Go.Proofs.Tryd.prog) (n := 65) (k := (pin Go.Proofs.Tryd.f9 [1, 1, 1, 1, 0] 1)) (L := [(3, .pointer (some ⟨g12, 0, none⟩)), (29, .pointer (some ⟨g12, 0, none⟩))]) (d := some 30) (e := 5) (z := .int .u8 0) (l := 16) (c := 16) (k2 := (pin Go.Proofs.Tryd.f9 [1, 1, 1, 1, 0] 2)) (by kernel_rfl) (by omega) (by omega) (by omega) hM
        rw [rep_nums] at hM'
        refine RunF.does hD ?_
        replace hM := hM'; clear hD hM'
        generalize W6.heap.size = g15 at hM ⊢
        obtain ⟨t18, ht18, h⟩ := Option.bind_eq_some_iff.mp h
        refine RunF.call (d := some 31) (g := 21) (args := #[.pointer (some ⟨g12, 0, none⟩), .slice (some ⟨g15, 0, none⟩) 16 16, .bool false]) (k2 := (pin Go.Proofs.Tryd.f9 [1, 1, 1, 1, 0] 3)) (by kernel_rfl) (aria_Aria_Block.calls k (.pointer (some ⟨g12, 0, none⟩)) (Oks Ft7_0) s11 (some ⟨g15, 0, none⟩) 16 16 (List.replicate 16 (0 : Int)) false t18 _ (hM.rd 0 rfl) hps11 (fun _ hb_ => ((Mem.oks (hM.as (H' := Gs [⟨.slice (some ⟨g15, 0, none⟩) 16 16, 5, 1, nums .u8 (List.replicate 16 (0 : Int))⟩, ⟨.slice (some ⟨g4, 0, none⟩) 16 16, 5, 1, nums .u8 (List.replicate 16 (0 : Int))⟩] [Ft7_0, Ft2_0]) rfl) 0 rfl).kept hb_)) ht18) ?_
        rintro _ W17 ⟨A19, n20, c21, rfl, hM_⟩
        obtain rfl : t18.1.length = n20 := by have h_ := (hM_.rd 0 rfl).1; simpa [nums_length, bools_length, strs_length] using h_
        replace hM : Mem w W17 (Gs [⟨.slice A19 t18.1.length c21, 5, 1, nums .u8 t18.1⟩, ⟨.slice (some ⟨g15, 0, none⟩) 16 16, 5, 1, nums .u8 (List.replicate 16 (0 : Int))⟩, ⟨.slice (some ⟨g4, 0, none⟩) 16 16, 5, 1, nums .u8 (List.replicate 16 (0 : Int))⟩] [Ft7_0, Ft2_0]) := (Mem.callG (hM.as (H' := Gs [⟨.slice (some ⟨g15, 0, none⟩) 16 16, 5, 1, nums .u8 (List.replicate 16 (0 : Int))⟩, ⟨.slice (some ⟨g4, 0, none⟩) 16 16, 5, 1, nums .u8 (List.replicate 16 (0 : Int))⟩] [Ft7_0, Ft2_0]) rfl) hM_.grp).as rfl
        clear hM_ ht18
        refine RunF.go 10 [5, 6, 35, 36] (k' := (pin Go.Proofs.Tryd.f9 [1, 1, 1, 1, 1, 0] 2)) (L' := [(5, .slice A19 t18.1.length c21), (6, .int .i64 t18.2), (35, .pointer (some ⟨g12, 0, none⟩)), (36, .slice A19 t18.1.length c21)]) (w' := W17) (by kernel_rfl) ?_
        obtain ⟨t24, ht24, h⟩ := Option.bind_eq_some_iff.mp h
        refine RunF.call (d := some 37) (g := 21) (args := #[.pointer (some ⟨g12, 0, none⟩), .slice A19 t18.1.length c21, .bool true]) (k2 := (pin Go.Proofs.Tryd.f9 [1, 1, 1, 1, 1, 0] 3)) (by kernel_rfl) (aria_Aria_Block.calls k (.pointer (some ⟨g12, 0, none⟩)) (Oks Ft7_0) s11 A19 t18.1.length c21 t18.1 true t24 _ (hM.rd 0 rfl) hps11 (fun _ hb_ => ((Mem.oks (hM.as (H' := Gs [⟨.slice A19 t18.1.length c21, 5, 1, nums .u8 t18.1⟩, ⟨.slice (some ⟨g15, 0, none⟩) 16 16, 5, 1, nums .u8 (List.replicate 16 (0 : Int))⟩, ⟨.slice (some ⟨g4, 0, none⟩) 16 16, 5, 1, nums .u8 (List.replicate 16 (0 : Int))⟩] [Ft7_0, Ft2_0]) rfl) 0 rfl).kept hb_)) ht24) ?_
        rintro _ W23 ⟨A25, n26, c27, rfl, hM_⟩
        obtain rfl : t24.1.length = n26 := by have h_ := (hM_.rd 0 rfl).1; simpa [nums_length, bools_length, strs_length] using h_
        replace hM : Mem w W23 (Gs [⟨.slice A25 t24.1.length c27, 5, 1, nums .u8 t24.1⟩, ⟨.slice A19 t18.1.length c21, 5, 1, nums .u8 t18.1⟩, ⟨.slice (some ⟨g15, 0, none⟩) 16 16, 5, 1, nums .u8 (List.replicate 16 (0 : Int))⟩, ⟨.slice (some ⟨g4, 0, none⟩) 16 16, 5, 1, nums .u8 (List.replicate 16 (0 : Int))⟩] [Ft7_0, Ft2_0]) := (Mem.callG (hM.as (H' := Gs [⟨.slice A19 t18.1.length c21, 5, 1, nums .u8 t18.1⟩, ⟨.slice (some ⟨g15, 0, none⟩) 16 16, 5, 1, nums .u8 (List.replicate 16 (0 : Int))⟩, ⟨.slice (some ⟨g4, 0, none⟩) 16 16, 5, 1, nums .u8 (List.replicate 16 (0 : Int))⟩] [Ft7_0, Ft2_0]) rfl) hM_.grp).as rfl
        clear hM_ ht24
        refine RunF.go 7 [5, 6, 7, 8] (k' := (pl Go.Proofs.Tryd.f9 [1, 1, 1, 1, 1, 1, 0])) (L' := [(5, .slice A19 t18.1.length c21), (6, .int .i64 t18.2), (7, .slice A25 t24.1.length c27), (8, .int .i64 t24.2)]) (w' := W23) (by kernel_rfl) ?_
        refine RunF.draw (Still ({ W23 with drawn := W23.drawn + 1 } : World) []) (by kernel_rfl) (by kernel_rfl) ?_
        have hMd30 := hM.drew
        have hS := Still.refl ({ W23 with drawn := W23.drawn + 1 } : World) []
        generalize ({ W23 with drawn := W23.drawn + 1 } : World) = W29 at hMd30 hS ⊢
        replace hM := hMd30
        refine RunAny.y 0 (by kernel_rfl) (yl_pure (d := some 40) (v := .int .i64 t18.2) (k2 := [.inRegion (opsOf (pl Go.Proofs.Tryd.f9 [1, 1, 1, 1, 1, 1, 0])) []]) fun w => by kernel_rfl) (fun _ _ => trivial) hS ?_
        refine RunAny.y 1 (by kernel_rfl) (yl_pure (d := some 41) (v := .bool (t18.2 == 0)) (k2 := [.inRegion (opsOf (pl Go.Proofs.Tryd.f9 [1, 1, 1, 1, 1, 1, 0])) []]) fun w => by kernel_rfl) (fun _ _ => trivial) hS ?_
        refine RunAny.y 2 (by kernel_rfl) (yl_pure (d := some 42) (v := .bool (t18.2 == 0)) (k2 := [.inRegion (opsOf (pl Go.Proofs.Tryd.f9 [1, 1, 1, 1, 1, 1, 0])) []]) fun w => by kernel_rfl) (fun _ _ => trivial) hS ?_
        rcases two ((t18.2 == 0)) with c31 | c31
        · replace h := of_true h c31
          refine RunAny.know 42 (b := true) (by kernel_rfl) c31 ?_
          refine RunAny.y 3 (by kernel_rfl) (yl_pure (d := some 43) (v := .int .i64 t24.2) (k2 := [.inRegion (opsOf (pl Go.Proofs.Tryd.f9 [1, 1, 1, 1, 1, 1, 0])) []]) fun w => by kernel_rfl) (fun _ _ => trivial) hS ?_
          refine RunAny.y 4 (by kernel_rfl) (yl_pure (d := some 44) (v := .bool (t24.2 == 0)) (k2 := [.inRegion (opsOf (pl Go.Proofs.Tryd.f9 [1, 1, 1, 1, 1, 1, 0])) []]) fun w => by kernel_rfl) (fun _ _ => trivial) hS ?_
          refine RunAny.y 5 (by kernel_rfl) (yl_pure (d := some 45) (v := .bool (t24.2 == 0)) (k2 := [.inRegion (opsOf (pl Go.Proofs.Tryd.f9 [1, 1, 1, 1, 1, 1, 0])) []]) fun w => by kernel_rfl) (fun _ _ => trivial) hS ?_
          refine RunAny.y 6 (by kernel_rfl) (yl_pure (d := some 46) (v := .bool (t24.2 == 0)) (k2 := [.inRegion (opsOf (pl Go.Proofs.Tryd.f9 [1, 1, 1, 1, 1, 1, 0])) []]) fun w => by kernel_rfl) (fun _ _ => trivial) hS ?_
          rcases two ((t24.2 == 0)) with c32 | c32
          · replace h := of_true h c32
            refine RunAny.know 46 (b := true) (by kernel_rfl) c32 ?_
            refine RunAny.y 7 (by kernel_rfl) (yl_pure (d := some 47) (v := .slice A19 t18.1.length c21) (k2 := [.inRegion (opsOf (pl Go.Proofs.Tryd.f9 [1, 1, 1, 1, 1, 1, 0])) []]) fun w => by kernel_rfl) (fun _ _ => trivial) hS ?_
            refine RunAny.y 8 (by kernel_rfl) (yl_pure (d := some 48) (v := .int .i64 (t18.1.length : Int)) (k2 := [.inRegion (opsOf (pl Go.Proofs.Tryd.f9 [1, 1, 1, 1, 1, 1, 0])) []]) fun w => by kernel_rfl) (fun _ _ => trivial) hS ?_
            refine RunAny.y 9 (by kernel_rfl) (yl_pure (d := some 49) (v := .bool ((t18.1.length : Int) == 16)) (k2 := [.inRegion (opsOf (pl Go.Proofs.Tryd.f9 [1, 1, 1, 1, 1, 1, 0])) []]) fun w => by kernel_rfl) (fun _ _ => trivial) hS ?_
            refine RunAny.y 10 (by kernel_rfl) (yl_pure (d := some 50) (v := .bool ((t18.1.length : Int) == 16)) (k2 := [.inRegion (opsOf (pl Go.Proofs.Tryd.f9 [1, 1, 1, 1, 1, 1, 0])) []]) fun w => by kernel_rfl) (fun _ _ => trivial) hS ?_
            refine RunAny.y 11 (by kernel_rfl) (yl_pure (d := some 51) (v := .bool ((t18.1.length : Int) == 16)) (k2 := [.inRegion (opsOf (pl Go.Proofs.Tryd.f9 [1, 1, 1, 1, 1, 1, 0])) []]) fun w => by kernel_rfl) (fun _ _ => trivial) hS ?_
            rcases two (((t18.1.length : Int) == 16)) with c33 | c33
            · replace h := of_true h c33
              refine RunAny.know 51 (b := true) (by kernel_rfl) c33 ?_
              refine RunAny.y 12 (by kernel_rfl) (yl_pure (d := some 52) (v := .slice A19 t18.1.length c21) (k2 := [.inRegion (opsOf (pl Go.Proofs.Tryd.f9 [1, 1, 1, 1, 1, 1, 0])) []]) fun w => by kernel_rfl) (fun _ _ => trivial) hS ?_
              refine RunAny.y 13 (by kernel_rfl) (str_y (d := some 53) (A := A19) (m := t18.1.length) (c := c21) (k2 := [.inRegion (opsOf (pl Go.Proofs.Tryd.f9 [1, 1, 1, 1, 1, 1, 0])) []]) t18.1 (by kernel_rfl)) (fun _ hs => ((hM.rd 1 rfl).still hs (by simp))) hS ?_
              refine RunAny.y 14 (by kernel_rfl) (yl_pure (d := some 54) (v := .slice A25 t24.1.length c27) (k2 := [.inRegion (opsOf (pl Go.Proofs.Tryd.f9 [1, 1, 1, 1, 1, 1, 0])) []]) fun w => by kernel_rfl) (fun _ _ => trivial) hS ?_
              refine RunAny.y 15 (by kernel_rfl) (str_y (d := some 55) (A := A25) (m := t24.1.length) (c := c27) (k2 := [.inRegion (opsOf (pl Go.Proofs.Tryd.f9 [1, 1, 1, 1, 1, 1, 0])) []]) t24.1 (by kernel_rfl)) (fun _ hs => ((hM.rd 0 rfl).still hs (by simp))) hS ?_
              refine RunAny.y 16 (by kernel_rfl) (yl_pure (d := some 56) (v := .bool (!((strOf t18.1).toList == (strOf t24.1).toList))) (k2 := [.inRegion (opsOf (pl Go.Proofs.Tryd.f9 [1, 1, 1, 1, 1, 1, 0])) []]) fun w => by kernel_rfl) (fun _ _ => trivial) hS ?_
              refine RunAny.y 17 (by kernel_rfl) (yl_pure (d := some 57) (v := .bool (!((strOf t18.1).toList == (strOf t24.1).toList))) (k2 := [.inRegion (opsOf (pl Go.Proofs.Tryd.f9 [1, 1, 1, 1, 1, 1, 0])) []]) fun w => by kernel_rfl) (fun _ _ => trivial) hS ?_
              refine RunAny.y 18 (by kernel_rfl) (yl_pure (d := some 58) (v := .bool (!((strOf t18.1).toList == (strOf t24.1).toList))) (k2 := [.inRegion (opsOf (pl Go.Proofs.Tryd.f9 [1, 1, 1, 1, 1, 1, 0])) []]) fun w => by kernel_rfl) (fun _ _ => trivial) hS ?_
              rcases two (!((strOf t18.1).toList == (strOf t24.1).toList)) with c34 | c34
              · replace h := of_true h c34
                refine RunAny.know 58 (b := true) (by kernel_rfl) c34 ?_
                refine RunAny.y 19 (by kernel_rfl) (yl_pure (d := some 59) (v := .slice A25 t24.1.length c27) (k2 := [.inRegion (opsOf (pl Go.Proofs.Tryd.f9 [1, 1, 1, 1, 1, 1, 0])) []]) fun w => by kernel_rfl) (fun _ _ => trivial) hS ?_
                refine RunAny.y 20 (by kernel_rfl) (str_y (d := some 60) (A := A25) (m := t24.1.length) (c := c27) (k2 := [.inRegion (opsOf (pl Go.Proofs.Tryd.f9 [1, 1, 1, 1, 1, 1, 0])) []]) t24.1 (by kernel_rfl)) (fun _ hs => ((hM.rd 0 rfl).still hs (by simp))) hS ?_
                obtain ⟨W35, hD, hM', hB_⟩ := mk_does (P := Go.Proofs.Tryd.prog) (n := 65) (k := (one (opsOf (pl Go.Proofs.Tryd.f9 [1, 1, 1, 1, 1, 1, 0])) 21)) (L := (upd (upd (known (upd (upd (upd (upd (upd (upd (upd (known (upd (upd (upd (upd (upd (known (upd (upd (upd (upd (known (upd (upd (upd [(5, .slice A19 t18.1.length c21), (6, .int .i64 t18.2), (7, .slice A25 t24.1.length c27), (8, .int .i64 t24.2)] (some 40) (.int .i64 t18.2)) (some 41) (.bool (t18.2 == 0))) (some 42) (.bool (t18.2 == 0))) 42 true) (some 43) (.int .i64 t24.2)) (some 44) (.bool (t24.2 == 0))) (some 45) (.bool (t24.2 == 0))) (some 46) (.bool (t24.2 == 0))) 46 true) (some 47) (.slice A19 t18.1.length c21)) (some 48) (.int .i64 (t18.1.length : Int))) (some 49) (.bool ((t18.1.length : Int) == 16))) (some 50) (.bool ((t18.1.length : Int) == 16))) (some 51) (.bool ((t18.1.length : Int) == 16))) 51 true) (some 52) (.slice A19 t18.1.length c21)) (some 53) (.string (strOf t18.1))) (some 54) (.slice A25 t24.1.length c27)) (some 55) (.string (strOf t24.1))) (some 56) (.bool (!((strOf t18.1).toList == (strOf t24.1).toList)))) (some 57) (.bool (!((strOf t18.1).toList == (strOf t24.1).toList)))) (some 58) (.bool (!((strOf t18.1).toList == (strOf t24.1).toList)))) 58 true) (some 59) (.slice A25 t24.1.length c27)) (some 60) (.string (strOf t24.1)))) (d := some 61) (e := 5) (z := .int .u8 0) (l := 16) (c := 16) (k2 := [.inRegion (opsOf (pl Go.Proofs.Tryd.f9 [1, 1, 1, 1, 1, 1, 0])) []]) (by kernel_rfl) (by omega) (by omega) (by omega) hM
                rw [rep_nums] at hM'
                refine RunAny.does 21 (by kernel_rfl) hD (hS.below hB_) ?_
                replace hS := hS.below hB_; clear hB_
                replace hM := hM'; clear hD hM'
                generalize W29.heap.size = g36 at hM ⊢
                refine RunAny.rebase hS ?_
                replace hS := Still.refl W35 []
                refine RunAny.y 22 (by kernel_rfl) (str_y (d := some 62) (A := (some ⟨g36, 0, none⟩)) (m := 16) (c := 16) (k2 := [.inRegion (opsOf (pl Go.Proofs.Tryd.f9 [1, 1, 1, 1, 1, 1, 0])) []]) (List.replicate 16 (0 : Int)) (by kernel_rfl)) (fun _ hs => ((hM.rd 0 rfl).still hs (by simp))) hS ?_
                refine RunAny.y 23 (by kernel_rfl) (yl_pure (d := some 63) (v := .bool ((strOf t24.1).toList == (strOf (List.replicate 16 (0 : Int))).toList)) (k2 := [.inRegion (opsOf (pl Go.Proofs.Tryd.f9 [1, 1, 1, 1, 1, 1, 0])) []]) fun w => by kernel_rfl) (fun _ _ => trivial) hS ?_
                refine RunAny.y 24 (by kernel_rfl) (yl_pure (d := some 64) (v := .bool ((strOf t24.1).toList == (strOf (List.replicate 16 (0 : Int))).toList)) (k2 := [.inRegion (opsOf (pl Go.Proofs.Tryd.f9 [1, 1, 1, 1, 1, 1, 0])) []]) fun w => by kernel_rfl) (fun _ _ => trivial) hS ?_
                refine RunAny.y 25 (by kernel_rfl) (yl_pure (d := some 0) (v := .bool ((strOf t24.1).toList == (strOf (List.replicate 16 (0 : Int))).toList)) (k2 := [.inRegion (opsOf (pl Go.Proofs.Tryd.f9 [1, 1, 1, 1, 1, 1, 0])) []]) fun w => by kernel_rfl) (fun _ _ => trivial) hS ?_
                refine RunAny.done (by kernel_rfl) ?_
                clear hS
                obtain rfl := Option.some.inj h
                exact RunF.ret1 0 (.bool ((strOf t24.1).toList == (strOf (List.replicate 16 (0 : Int))).toList)) (fn := Go.Proofs.Tryd.f9) Go.Proofs.Tryd.func9 (by kernel_rfl) (by kernel_rfl) (by kernel_rfl) ⟨_, rfl, rfl, (Mem.pickF (hM.as (H' := Gs [⟨.slice (some ⟨g36, 0, none⟩) 16 16, 5, 1, nums .u8 (List.replicate 16 (0 : Int))⟩, ⟨.slice A25 t24.1.length c27, 5, 1, nums .u8 t24.1⟩, ⟨.slice A19 t18.1.length c21, 5, 1, nums .u8 t18.1⟩, ⟨.slice (some ⟨g15, 0, none⟩) 16 16, 5, 1, nums .u8 (List.replicate 16 (0 : Int))⟩, ⟨.slice (some ⟨g4, 0, none⟩) 16 16, 5, 1, nums .u8 (List.replicate 16 (0 : Int))⟩] [Ft7_0, Ft2_0]) rfl) [] rfl rfl rfl).ungrp⟩
              · replace h := of_false h c34
                refine RunAny.know 58 (b := false) (by kernel_rfl) c34 ?_
                refine RunAny.off 19 (d := some 59) (by kernel_rfl) (by kernel_rfl) hS ?_
                refine RunAny.off 20 (d := some 60) (by kernel_rfl) (by kernel_rfl) hS ?_
                refine RunAny.off 21 (d := some 61) (by kernel_rfl) (by kernel_rfl) hS ?_
                refine RunAny.off 22 (d := some 62) (by kernel_rfl) (by kernel_rfl) hS ?_
                refine RunAny.off 23 (d := some 63) (by kernel_rfl) (by kernel_rfl) hS ?_
                refine RunAny.y 24 (by kernel_rfl) (yl_pure (d := some 64) (v := .bool false) (k2 := [.inRegion (opsOf (pl Go.Proofs.Tryd.f9 [1, 1, 1, 1, 1, 1, 0])) []]) fun w => by kernel_rfl) (fun _ _ => trivial) hS ?_
                refine RunAny.y 25 (by kernel_rfl) (yl_pure (d := some 0) (v := .bool false) (k2 := [.inRegion (opsOf (pl Go.Proofs.Tryd.f9 [1, 1, 1, 1, 1, 1, 0])) []]) fun w => by kernel_rfl) (fun _ _ => trivial) hS ?_
                refine RunAny.done (by kernel_rfl) ?_
                clear hS
                obtain rfl := Option.some.inj h
                exact RunF.ret1 0 (.bool false) (fn := Go.Proofs.Tryd.f9) Go.Proofs.Tryd.func9 (by kernel_rfl) (by kernel_rfl) (by kernel_rfl) ⟨_, rfl, rfl, (Mem.pickF (hM.as (H' := Gs [⟨.slice A25 t24.1.length c27, 5, 1, nums .u8 t24.1⟩, ⟨.slice A19 t18.1.length c21, 5, 1, nums .u8 t18.1⟩, ⟨.slice (some ⟨g15, 0, none⟩) 16 16, 5, 1, nums .u8 (List.replicate 16 (0 : Int))⟩, ⟨.slice (some ⟨g4, 0, none⟩) 16 16, 5, 1, nums .u8 (List.replicate 16 (0 : Int))⟩] [Ft7_0, Ft2_0]) rfl) [] rfl rfl rfl).ungrp⟩
            · replace h := of_false h c33
              refine RunAny.know 51 (b := false) (by kernel_rfl) c33 ?_
              refine RunAny.off 12 (d := some 52) (by kernel_rfl) (by kernel_rfl) hS ?_
              refine RunAny.off 13 (d := some 53) (by kernel_rfl) (by kernel_rfl) hS ?_
              refine RunAny.off 14 (d := some 54) (by kernel_rfl) (by kernel_rfl) hS ?_
              refine RunAny.off 15 (d := some 55) (by kernel_rfl) (by kernel_rfl) hS ?_
              refine RunAny.off 16 (d := some 56) (by kernel_rfl) (by kernel_rfl) hS ?_
              refine RunAny.y 17 (by kernel_rfl) (yl_pure (d := some 57) (v := .bool false) (k2 := [.inRegion (opsOf (pl Go.Proofs.Tryd.f9 [1, 1, 1, 1, 1, 1, 0])) []]) fun w => by kernel_rfl) (fun _ _ => trivial) hS ?_
              refine RunAny.y 18 (by kernel_rfl) (yl_pure (d := some 58) (v := .bool false) (k2 := [.inRegion (opsOf (pl Go.Proofs.Tryd.f9 [1, 1, 1, 1, 1, 1, 0])) []]) fun w => by kernel_rfl) (fun _ _ => trivial) hS ?_
              refine RunAny.off 19 (d := some 59) (by kernel_rfl) (by kernel_rfl) hS ?_
              refine RunAny.off 20 (d := some 60) (by kernel_rfl) (by kernel_rfl) hS ?_
              refine RunAny.off 21 (d := some 61) (by kernel_rfl) (by kernel_rfl) hS ?_
              refine RunAny.off 22 (d := some 62) (by kernel_rfl) (by kernel_rfl) hS ?_
              refine RunAny.off 23 (d := some 63) (by kernel_rfl) (by kernel_rfl) hS ?_
              refine RunAny.y 24 (by kernel_rfl) (yl_pure (d := some 64) (v := .bool false) (k2 := [.inRegion (opsOf (pl Go.Proofs.Tryd.f9 [1, 1, 1, 1, 1, 1, 0])) []]) fun w => by kernel_rfl) (fun _ _ => trivial) hS ?_
              refine RunAny.y 25 (by kernel_rfl) (yl_pure (d := some 0) (v := .bool false) (k2 := [.inRegion (opsOf (pl Go.Proofs.Tryd.f9 [1, 1, 1, 1, 1, 1, 0])) []]) fun w => by kernel_rfl) (fun _ _ => trivial) hS ?_
              refine RunAny.done (by kernel_rfl) ?_
              clear hS
              obtain rfl := Option.some.inj h
              exact RunF.ret1 0 (.bool false) (fn := Go.Proofs.Tryd.f9) Go.Proofs.Tryd.func9 (by kernel_rfl) (by kernel_rfl) (by kernel_rfl) ⟨_, rfl, rfl, (Mem.pickF (hM.as (H' := Gs [⟨.slice A25 t24.1.length c27, 5, 1, nums .u8 t24.1⟩, ⟨.slice A19 t18.1.length c21, 5, 1, nums .u8 t18.1⟩, ⟨.slice (some ⟨g15, 0, none⟩) 16 16, 5, 1, nums .u8 (List.replicate 16 (0 : Int))⟩, ⟨.slice (some ⟨g4, 0, none⟩) 16 16, 5, 1, nums .u8 (List.replicate 16 (0 : Int))⟩] [Ft7_0, Ft2_0]) rfl) [] rfl rfl rfl).ungrp⟩
          · replace h := of_false h c32
            refine RunAny.know 46 (b := false) (by kernel_rfl) c32 ?_
            refine RunAny.off 7 (d := some 47) (by kernel_rfl) (by kernel_rfl) hS ?_
            refine RunAny.off 8 (d := some 48) (by kernel_rfl) (by kernel_rfl) hS ?_
            refine RunAny.off 9 (d := some 49) (by kernel_rfl) (by kernel_rfl) hS ?_
            refine RunAny.y 10 (by kernel_rfl) (yl_pure (d := some 50) (v := .bool false) (k2 := [.inRegion (opsOf (pl Go.Proofs.Tryd.f9 [1, 1, 1, 1, 1, 1, 0])) []]) fun w => by kernel_rfl) (fun _ _ => trivial) hS ?_
            refine RunAny.y 11 (by kernel_rfl) (yl_pure (d := some 51) (v := .bool false) (k2 := [.inRegion (opsOf (pl Go.Proofs.Tryd.f9 [1, 1, 1, 1, 1, 1, 0])) []]) fun w => by kernel_rfl) (fun _ _ => trivial) hS ?_
            refine RunAny.off 12 (d := some 52) (by kernel_rfl) (by kernel_rfl) hS ?_
            refine RunAny.off 13 (d := some 53) (by kernel_rfl) (by kernel_rfl) hS ?_
            refine RunAny.off 14 (d := some 54) (by kernel_rfl) (by kernel_rfl) hS ?_
            refine RunAny.off 15 (d := some 55) (by kernel_rfl) (by kernel_rfl) hS ?_
            refine RunAny.off 16 (d := some 56) (by kernel_rfl) (by kernel_rfl) hS ?_
            refine RunAny.y 17 (by kernel_rfl) (yl_pure (d := some 57) (v := .bool false) (k2 := [.inRegion (opsOf (pl Go.Proofs.Tryd.f9 [1, 1, 1, 1, 1, 1, 0])) []]) fun w => by kernel_rfl) (fun _ _ => trivial) hS ?_
            refine RunAny.y 18 (by kernel_rfl) (yl_pure (d := some 58) (v := .bool false) (k2 := [.inRegion (opsOf (pl Go.Proofs.Tryd.f9 [1, 1, 1, 1, 1, 1, 0])) []]) fun w => by kernel_rfl) (fun _ _ => trivial) hS ?_
            refine RunAny.off 19 (d := some 59) (by kernel_rfl) (by kernel_rfl) hS ?_
            refine RunAny.off 20 (d := some 60) (by kernel_rfl) (by kernel_rfl) hS ?_
            refine RunAny.off 21 (d := some 61) (by kernel_rfl) (by kernel_rfl) hS ?_
            refine RunAny.off 22 (d := some 62) (by kernel_rfl) (by kernel_rfl) hS ?_
            refine RunAny.off 23 (d := some 63) (by kernel_rfl) (by kernel_rfl) hS ?_
            refine RunAny.y 24 (by kernel_rfl) (yl_pure (d := some 64) (v := .bool false) (k2 := [.inRegion (opsOf (pl Go.Proofs.Tryd.f9 [1, 1, 1, 1, 1, 1, 0])) []]) fun w => by kernel_rfl) (fun _ _ => trivial) hS ?_
            refine RunAny.y 25 (by kernel_rfl) (yl_pure (d := some 0) (v := .bool false) (k2 := [.inRegion (opsOf (pl Go.Proofs.Tryd.f9 [1, 1, 1, 1, 1, 1, 0])) []]) fun w => by kernel_rfl) (fun _ _ => trivial) hS ?_
            refine RunAny.done (by kernel_rfl) ?_
            clear hS
            obtain rfl := Option.some.inj h
            exact RunF.ret1 0 (.bool false) (fn := Go.Proofs.Tryd.f9) Go.Proofs.Tryd.func9 (by kernel_rfl) (by kernel_rfl) (by kernel_rfl) ⟨_, rfl, rfl, (Mem.pickF (hM.as (H' := Gs [⟨.slice A25 t24.1.length c27, 5, 1, nums .u8 t24.1⟩, ⟨.slice A19 t18.1.length c21, 5, 1, nums .u8 t18.1⟩, ⟨.slice (some ⟨g15, 0, none⟩) 16 16, 5, 1, nums .u8 (List.replicate 16 (0 : Int))⟩, ⟨.slice (some ⟨g4, 0, none⟩) 16 16, 5, 1, nums .u8 (List.replicate 16 (0 : Int))⟩] [Ft7_0, Ft2_0]) rfl) [] rfl rfl rfl).ungrp⟩
        · replace h := of_false h c31
          refine RunAny.know 42 (b := false) (by kernel_rfl) c31 ?_
          refine RunAny.off 3 (d := some 43) (by kernel_rfl) (by kernel_rfl) hS ?_
          refine RunAny.off 4 (d := some 44) (by kernel_rfl) (by kernel_rfl) hS ?_
          refine RunAny.y 5 (by kernel_rfl) (yl_pure (d := some 45) (v := .bool false) (k2 := [.inRegion (opsOf (pl Go.Proofs.Tryd.f9 [1, 1, 1, 1, 1, 1, 0])) []]) fun w => by kernel_rfl) (fun _ _ => trivial) hS ?_
          refine RunAny.y 6 (by kernel_rfl) (yl_pure (d := some 46) (v := .bool false) (k2 := [.inRegion (opsOf (pl Go.Proofs.Tryd.f9 [1, 1, 1, 1, 1, 1, 0])) []]) fun w => by kernel_rfl) (fun _ _ => trivial) hS ?_
          refine RunAny.off 7 (d := some 47) (by kernel_rfl) (by kernel_rfl) hS ?_
          refine RunAny.off 8 (d := some 48) (by kernel_rfl) (by kernel_rfl) hS ?_
          refine RunAny.off 9 (d := some 49) (by kernel_rfl) (by kernel_rfl) hS ?_
          refine RunAny.y 10 (by kernel_rfl) (yl_pure (d := some 50) (v := .bool false) (k2 := [.inRegion (opsOf (pl Go.Proofs.Tryd.f9 [1, 1, 1, 1, 1, 1, 0])) []]) fun w => by kernel_rfl) (fun _ _ => trivial) hS ?_
          refine RunAny.y 11 (by kernel_rfl) (yl_pure (d := some 51) (v := .bool false) (k2 := [.inRegion (opsOf (pl Go.Proofs.Tryd.f9 [1, 1, 1, 1, 1, 1, 0])) []]) fun w => by kernel_rfl) (fun _ _ => trivial) hS ?_
          refine RunAny.off 12 (d := some 52) (by kernel_rfl) (by kernel_rfl) hS ?_
          refine RunAny.off 13 (d := some 53) (by kernel_rfl) (by kernel_rfl) hS ?_
          refine RunAny.off 14 (d := some 54) (by kernel_rfl) (by kernel_rfl) hS ?_
          refine RunAny.off 15 (d := some 55) (by kernel_rfl) (by kernel_rfl) hS ?_
          refine RunAny.off 16 (d := some 56) (by kernel_rfl) (by kernel_rfl) hS ?_
          refine RunAny.y 17 (by kernel_rfl) (yl_pure (d := some 57) (v := .bool false) (k2 := [.inRegion (opsOf (pl Go.Proofs.Tryd.f9 [1, 1, 1, 1, 1, 1, 0])) []]) fun w => by kernel_rfl) (fun _ _ => trivial) hS ?_
          refine RunAny.y 18 (by kernel_rfl) (yl_pure (d := some 58) (v := .bool false) (k2 := [.inRegion (opsOf (pl Go.Proofs.Tryd.f9 [1, 1, 1, 1, 1, 1, 0])) []]) fun w => by kernel_rfl) (fun _ _ => trivial) hS ?_
          refine RunAny.off 19 (d := some 59) (by kernel_rfl) (by kernel_rfl) hS ?_
          refine RunAny.off 20 (d := some 60) (by kernel_rfl) (by kernel_rfl) hS ?_
          refine RunAny.off 21 (d := some 61) (by kernel_rfl) (by kernel_rfl) hS ?_
          refine RunAny.off 22 (d := some 62) (by kernel_rfl) (by kernel_rfl) hS ?_
          refine RunAny.off 23 (d := some 63) (by kernel_rfl) (by kernel_rfl) hS ?_
          refine RunAny.y 24 (by kernel_rfl) (yl_pure (d := some 64) (v := .bool false) (k2 := [.inRegion (opsOf (pl Go.Proofs.Tryd.f9 [1, 1, 1, 1, 1, 1, 0])) []]) fun w => by kernel_rfl) (fun _ _ => trivial) hS ?_
          refine RunAny.y 25 (by kernel_rfl) (yl_pure (d := some 0) (v := .bool false) (k2 := [.inRegion (opsOf (pl Go.Proofs.Tryd.f9 [1, 1, 1, 1, 1, 1, 0])) []]) fun w => by kernel_rfl) (fun _ _ => trivial) hS ?_
          refine RunAny.done (by kernel_rfl) ?_
          clear hS
          obtain rfl := Option.some.inj h
          exact RunF.ret1 0 (.bool false) (fn := Go.Proofs.Tryd.f9) Go.Proofs.Tryd.func9 (by kernel_rfl) (by kernel_rfl) (by kernel_rfl) ⟨_, rfl, rfl, (Mem.pickF (hM.as (H' := Gs [⟨.slice A25 t24.1.length c27, 5, 1, nums .u8 t24.1⟩, ⟨.slice A19 t18.1.length c21, 5, 1, nums .u8 t18.1⟩, ⟨.slice (some ⟨g15, 0, none⟩) 16 16, 5, 1, nums .u8 (List.replicate 16 (0 : Int))⟩, ⟨.slice (some ⟨g4, 0, none⟩) 16 16, 5, 1, nums .u8 (List.replicate 16 (0 : Int))⟩] [Ft7_0, Ft2_0]) rfl) [] rfl rfl rfl).ungrp⟩
      · replace h := of_false h c10
        obtain rfl := rOpt.none hRt7_0 c10
        refine RunF.go 8 [0] (k' := (pl Go.Proofs.Tryd.f9 [1, 1, 1, 0, 1, 0, 1])) (L' := [(0, .bool false)]) (w' := W6) (by kernel_rfl) ?_
        obtain rfl := Option.some.inj h
        exact RunF.ret1 0 (.bool false) (fn := Go.Proofs.Tryd.f9) Go.Proofs.Tryd.func9 (by kernel_rfl) (by kernel_rfl) (by kernel_rfl) ⟨_, rfl, rfl, (Mem.pickF (hM.as (H' := Gs [⟨.slice (some ⟨g4, 0, none⟩) 16 16, 5, 1, nums .u8 (List.replicate 16 (0 : Int))⟩] [Ft7_0, Ft2_0]) rfl) [] rfl rfl rfl).ungrp⟩

/-! ### scrim/scrimlaw10.Bytes: function 10 -/
def scrimlaw10_Bytes.l0 : Nat → Int → (List Int) → Int → Option (List Int)
  | 0, _, _, _ => none
  | k + 1, a0, x5_0, x6_0 => if (decide (x6_0 < a0)) = true then (if (decide (0 ≤ x6_0)) = true then (if (decide (x6_0 < ((a0 : Int).toNat : Int))) = true then (scrimlaw10_Bytes.l0 k a0 (x5_0.set (x6_0 : Int).toNat (U8 (I64 (x6_0 * 37)))) (I64 (x6_0 + 1))) else (none)) else (none)) else (some x5_0)
def scrimlaw10_Bytes.f (k : Nat) (a0 : Int) (a1 : List Int) : Option (List Int) := if (decide (0 ≤ a0)) = true then (if (decide (a0 ≤ 1000000000)) = true then (scrimlaw10_Bytes.l0 k a0 (a1.take (List.replicate ((a0 : Int).toNat) (0 : Int)).length ++ (List.replicate ((a0 : Int).toNat) (0 : Int)).drop a1.length) (a1.length : Int)) else (none)) else (none)
set_option maxRecDepth 100000 in
theorem scrimlaw10_Bytes.calls (k : Nat) (a0 : Int) (Ap1 : Option Addr) (np1 cp1 : Nat) (a1 : List Int) (r : List Int) (w : World) (hr1 : Rd w (.slice Ap1 np1 cp1) (nums .u8 a1)) (h : scrimlaw10_Bytes.f k a0 a1 = some r) :
    Calls Go.Proofs.Tryd.prog 10 #[.int .i64 a0, (.slice Ap1 np1 cp1)] w (Ret fun v w' => ∃ A0' n0' c0', v = .slice A0' n0' c0' ∧ Mem w w' [⟨.slice A0' n0' c0', 5, 1, nums .u8 r⟩]) := by
  obtain rfl : a1.length = np1 := by have h_ := hr1.1; simpa [nums_length, bools_length, strs_length] using h_
  unfold scrimlaw10_Bytes.f at h
  refine calls_of [.int .i64 a0, .slice Ap1 a1.length cp1] (fn := Go.Proofs.Tryd.f10) Go.Proofs.Tryd.func10 (by kernel_rfl) (by kernel_rfl) ?_
  have hM := Mem.refl w
  refine RunF.go 7 [0, 1, 7] (k' := (pin Go.Proofs.Tryd.f10 [1, 0] 1)) (L' := [(0, .int .i64 a0), (1, .slice Ap1 a1.length cp1), (7, .int .i64 a0)]) (w' := w) (by kernel_rfl) ?_
  rcases two (decide (0 ≤ a0)) with c3 | c3
  · replace h := of_true h c3
    rcases two (decide (a0 ≤ 1000000000)) with c4 | c4
    · replace h := of_true h c4
      have := of_decide_eq_true c3
      have := of_decide_eq_true c4
      obtain ⟨W1, hD, hM', hB_⟩ := mk_does (P := Go.Proofs.Tryd.prog) (n := 26) (k := (pin Go.Proofs.Tryd.f10 [1, 0] 1)) (L := [(0, .int .i64 a0), (1, .slice Ap1 a1.length cp1), (7, .int .i64 a0)]) (d := some 8) (e := 5) (z := .int .u8 0) (l := a0) (c := a0) (k2 := (pin Go.Proofs.Tryd.f10 [1, 0] 2)) (by kernel_rfl) (by omega) (by omega) (by omega) hM
      rw [rep_nums] at hM'
      refine RunF.does hD ?_
      replace hM := hM'; clear hD hM'
      generalize w.heap.size = g2 at hM ⊢
      refine RunF.go 6 [0, 1, 5, 9, 10] (k' := (pin Go.Proofs.Tryd.f10 [1, 1, 0] 2)) (L' := [(0, .int .i64 a0), (1, .slice Ap1 a1.length cp1), (5, .slice (some ⟨g2, 0, none⟩) ((a0 : Int).toNat) ((a0 : Int).toNat)), (9, .slice (some ⟨g2, 0, none⟩) ((a0 : Int).toNat) ((a0 : Int).toNat)), (10, .slice Ap1 a1.length cp1)]) (w' := W1) (by kernel_rfl) ?_
      obtain ⟨W6, hD, hM', hS_⟩ := cp_does (P := Go.Proofs.Tryd.prog) (n := 26) (k := (pin Go.Proofs.Tryd.f10 [1, 1, 0] 2)) (L := [(0, .int .i64 a0), (1, .slice Ap1 a1.length cp1), (5, .slice (some ⟨g2, 0, none⟩) ((a0 : Int).toNat) ((a0 : Int).toNat)), (9, .slice (some ⟨g2, 0, none⟩) ((a0 : Int).toNat) ((a0 : Int).toNat)), (10, .slice Ap1 a1.length cp1)]) (d := some 11) (ty := 5) (A := (some ⟨g2, 0, none⟩)) (m := (a0 : Int).toNat) (c := (a0 : Int).toNat) (A2 := Ap1) (m2 := a1.length) (c2 := cp1) (cs := nums .u8 (List.replicate ((a0 : Int).toNat) (0 : Int))) (ys := nums .u8 a1) (k2 := (pin Go.Proofs.Tryd.f10 [1, 1, 0] 3)) [] [] (by kernel_rfl) (hM.pick [0] rfl rfl) (hr1.mono hM.below) (one_nums _ _)
      simp only [nums_length, nums_take, nums_drop, nums_append] at hM'
      refine RunF.does hD ?_
      replace hM := hM'; clear hM' hD hS_
      refine RunF.go 10 [0, 5, 6] (k' := (pl Go.Proofs.Tryd.f10 [1, 1, 1, 0, 1, 0, 0])) (L' := [(0, .int .i64 a0), (5, .slice (some ⟨g2, 0, none⟩) ((a0 : Int).toNat) ((a0 : Int).toNat)), (6, .int .i64 (a1.length : Int))]) (w' := W6) (by kernel_rfl) ?_
      have l0 : ∀ (k_ : Nat), k_ ≤ k → ∀ (x5_0 : List Int) (x6_0 : Int) (W : World) (hM : Mem w W [⟨.slice (some ⟨g2, 0, none⟩) ((a0 : Int).toNat) ((a0 : Int).toNat), 5, 1, nums .u8 x5_0⟩]) (h : scrimlaw10_Bytes.l0 k_ a0 x5_0 x6_0 = some r), RunF Go.Proofs.Tryd.prog (Ret fun v w' => ∃ A0' n0' c0', v = .slice A0' n0' c0' ∧ Mem w w' [⟨.slice A0' n0' c0', 5, 1, nums .u8 r⟩]) 10 (pl Go.Proofs.Tryd.f10 [1, 1, 1, 0, 1, 0, 0]) 26 [(0, .int .i64 a0), (5, .slice (some ⟨g2, 0, none⟩) ((a0 : Int).toNat) ((a0 : Int).toNat)), (6, .int .i64 x6_0)] W := by
        intro k_
        induction k_ using Nat.strongRecOn with
        | _ k_ ih0 =>
          intro hk x5_0 x6_0 W hM h
          cases k_ with
          | zero => exact absurd h (by simp [scrimlaw10_Bytes.l0])
          | succ k =>
            simp only [scrimlaw10_Bytes.l0] at h
            replace ih0 : ∀ m, m ≤ k → _ := fun m hm => ih0 m (by omega) (by omega)
            refine RunF.go 7 [0, 5, 6, 16] (k' := (pl Go.Proofs.Tryd.f10 [1, 1, 1, 0, 1, 0, 0, 0, 1])) (L' := [(0, .int .i64 a0), (5, .slice (some ⟨g2, 0, none⟩) ((a0 : Int).toNat) ((a0 : Int).toNat)), (6, .int .i64 x6_0), (16, .bool (decide (x6_0 < a0)))]) (w' := W) (by kernel_rfl) ?_
            rcases two (decide (x6_0 < a0)) with c7 | c7
            · replace h := of_true h c7
              refine RunF.know 16 (b := true) (by kernel_rfl) c7 ?_
              refine RunF.go 10 [0, 5, 6, 19, 20, 23] (k' := (pin Go.Proofs.Tryd.f10 [1, 1, 1, 0, 1, 0, 0, 1, 0, 0] 5)) (L' := [(0, .int .i64 a0), (5, .slice (some ⟨g2, 0, none⟩) ((a0 : Int).toNat) ((a0 : Int).toNat)), (6, .int .i64 x6_0), (19, .slice (some ⟨g2, 0, none⟩) ((a0 : Int).toNat) ((a0 : Int).toNat)), (20, .int .i64 x6_0), (23, .int .u8 (U8 (I64 (x6_0 * 37))))]) (w' := W) (by kernel_rfl) ?_
              rcases two (decide (0 ≤ x6_0)) with c9 | c9
              · replace h := of_true h c9
                rcases two (decide (x6_0 < ((a0 : Int).toNat : Int))) with c10 | c10
                · replace h := of_true h c10
                  obtain ⟨q8, hAq8, hcq8, hfq8, hlq8⟩ := hM.num_at 0 rfl (i := x6_0) (of_decide_eq_true c9) (by have h_ := of_decide_eq_true c10; omega)
                  refine RunF.y (idx_own (d := some 24) (A := (some ⟨g2, 0, none⟩)) (m := (a0 : Int).toNat) (i := x6_0) (k2 := (pin Go.Proofs.Tryd.f10 [1, 1, 1, 0, 1, 0, 0, 1, 0, 0] 6)) (by kernel_rfl) (of_decide_eq_true c9) (by have h_ := of_decide_eq_true c10; omega) hAq8) trivial ?_
                  obtain ⟨g_, hA_, hc_, hf_, hl_⟩ := hM.num_at 0 rfl (i := x6_0) (of_decide_eq_true c9) (by have h_ := of_decide_eq_true c10; omega)
                  obtain rfl : q8 = g_ := by rw [hAq8] at hA_; injection hA_ with hA_; injection hA_
                  refine RunF.doesU (st_u (p := (⟨q8, (x6_0 : Int).toNat, none⟩ : Addr)) (v := .int .u8 (U8 (I64 (x6_0 * 37)))) (k2 := (pin Go.Proofs.Tryd.f10 [1, 1, 1, 0, 1, 0, 0, 1, 0, 0] 7)) (by kernel_rfl) hc_ hf_) ?_
                  replace hM : Mem w (W.setCell (⟨q8, (x6_0 : Int).toNat, none⟩ : Addr) (.int .u8 (U8 (I64 (x6_0 * 37))))) [⟨.slice (some ⟨g2, 0, none⟩) ((a0 : Int).toNat) ((a0 : Int).toNat), 5, 1, nums .u8 (x5_0.set (x6_0 : Int).toNat (U8 (I64 (x6_0 * 37))))⟩] := Mem.put_num [] [] (hM.pick [0] rfl rfl) hAq8 _ hl_ _
                  generalize W.setCell (⟨q8, (x6_0 : Int).toNat, none⟩ : Addr) (.int .u8 (U8 (I64 (x6_0 * 37)))) = W11 at hM ⊢
                  clear hc_ hf_ hl_ hA_ hcq8
                  refine RunF.go 8 [0, 5, 6] (k' := (pl Go.Proofs.Tryd.f10 [1, 1, 1, 0, 1, 0, 0])) (L' := [(0, .int .i64 a0), (5, .slice (some ⟨g2, 0, none⟩) ((a0 : Int).toNat) ((a0 : Int).toNat)), (6, .int .i64 (I64 (x6_0 + 1)))]) (w' := W11) (by kernel_rfl) ?_
                  exact ih0 k (by omega) (x5_0.set (x6_0 : Int).toNat (U8 (I64 (x6_0 * 37)))) (I64 (x6_0 + 1)) _ (hM.pick [0] rfl rfl) h
                · replace h := of_false h c10
                  cases h
              · replace h := of_false h c9
                cases h
            · replace h := of_false h c7
              refine RunF.know 16 (b := false) (by kernel_rfl) c7 ?_
              refine RunF.go 7 [4] (k' := (pl Go.Proofs.Tryd.f10 [1, 1, 1, 1, 1])) (L' := [(4, .slice (some ⟨g2, 0, none⟩) ((a0 : Int).toNat) ((a0 : Int).toNat))]) (w' := W) (by kernel_rfl) ?_
              obtain rfl := Option.some.inj h
              exact RunF.ret1 4 (.slice (some ⟨g2, 0, none⟩) ((a0 : Int).toNat) ((a0 : Int).toNat)) (fn := Go.Proofs.Tryd.f10) Go.Proofs.Tryd.func10 (by kernel_rfl) (by kernel_rfl) (by kernel_rfl) ⟨_, rfl, (some ⟨g2, 0, none⟩), (a0 : Int).toNat, (a0 : Int).toNat, rfl, (hM.pick [0] rfl rfl)⟩
      exact l0 k (Nat.le_refl _) (a1.take (List.replicate ((a0 : Int).toNat) (0 : Int)).length ++ (List.replicate ((a0 : Int).toNat) (0 : Int)).drop a1.length) (a1.length : Int) _ (hM.pick [0] rfl rfl) h
    · replace h := of_false h c4
      cases h
  · replace h := of_false h c3
    cases h

/-! ### scrim/scrimlaw10.AriaSum: function 3 -/
mutual
def scrimlaw10_AriaSum.l0 : Nat → (List Int) → (List Int) → (List Int) → Int → Option (Bool)
  | 0, _, _, _, _ => none
  | k + 1, t11, t5, x7_0, x8_0 => if (decide (x8_0 < 16)) = true then (if (decide (0 ≤ x8_0)) = true then (if (decide (x8_0 < (t5.length : Int))) = true then (if (decide (0 ≤ x8_0)) = true then (if (decide (x8_0 < (t11.length : Int))) = true then (if (decide (0 ≤ x8_0)) = true then (if (decide (x8_0 < (16 : Int))) = true then (scrimlaw10_AriaSum.l0 k t11 t5 (x7_0.set (x8_0 : Int).toNat (bxor .u8 (rd t5 x8_0) (rd t11 x8_0))) (I64 (x8_0 + 1))) else (none)) else (none)) else (none)) else (none)) else (none)) else (none)) else ((aria_Mix.f k t5).bind fun t33 => ((aria_Mix.f k t11).bind fun t39 => ((aria_Mix.f k x7_0).bind fun t45 => (if (!t45.2) = true then (some false) else (if ((t33.1.length : Int) != 16) = true then (some false) else (if ((t39.1.length : Int) != 16) = true then (some false) else (if ((t45.1.length : Int) != 16) = true then (some false) else (scrimlaw10_AriaSum.l1 k t33 t39 t45 0))))))))
def scrimlaw10_AriaSum.l1 : Nat → (List Int × Bool) → (List Int × Bool) → (List Int × Bool) → Int → Option (Bool)
  | 0, _, _, _, _ => none
  | k + 1, t33, t39, t45, x15_1 => if (decide (x15_1 < 16)) = true then (if (decide (0 ≤ x15_1)) = true then (if (decide (x15_1 < (t45.1.length : Int))) = true then (if (decide (0 ≤ x15_1)) = true then (if (decide (x15_1 < (t33.1.length : Int))) = true then (if (decide (0 ≤ x15_1)) = true then (if (decide (x15_1 < (t39.1.length : Int))) = true then ((some (((rd t45.1 x15_1) != (bxor .u8 (rd t33.1 x15_1) (rd t39.1 x15_1))) : Bool)).bind fun y66 => (if y66 = true then (some false) else (scrimlaw10_AriaSum.l1 k t33 t39 t45 (I64 (x15_1 + 1))))) else (none)) else (none)) else (none)) else (none)) else (none)) else (none)) else (some true)
end
def scrimlaw10_AriaSum.f (k : Nat) (a0 : List Int) (a1 : List Int) : Option (Bool) := (scrimlaw10_known.f k).bind fun t2 => (if (!t2) = true then (some false) else ((scrimlaw10_Bytes.f k 16 a0).bind fun t5 => ((scrimlaw10_Bytes.f k 16 a1).bind fun t11 => (scrimlaw10_AriaSum.l0 k t11 t5 (List.replicate 16 (0 : Int)) 0))))
set_option maxRecDepth 100000 in
set_option maxHeartbeats 8000000 in
theorem scrimlaw10_AriaSum.calls (k : Nat) (Ap0 : Option Addr) (np0 cp0 : Nat) (a0 : List Int) (Ap1 : Option Addr) (np1 cp1 : Nat) (a1 : List Int) (r : Bool) (w : World) (hr0 : Rd w (.slice Ap0 np0 cp0) (nums .u8 a0)) (hr1 : Rd w (.slice Ap1 np1 cp1) (nums .u8 a1)) (hG0 : Rg w 0 (nums .u8 [1, 2, 4, 8, 16, 32, 64, 128])) (h : scrimlaw10_AriaSum.f k a0 a1 = some r) :
    Calls Go.Proofs.Tryd.prog 3 #[(.slice Ap0 np0 cp0), (.slice Ap1 np1 cp1)] w (Ret fun v w' => v = .bool r ∧ Mem w w' []) := by
  obtain rfl : a0.length = np0 := by have h_ := hr0.1; simpa [nums_length, bools_length, strs_length] using h_
  obtain rfl : a1.length = np1 := by have h_ := hr1.1; simpa [nums_length, bools_length, strs_length] using h_
  unfold scrimlaw10_AriaSum.f at h
  refine calls_of [.slice Ap0 a0.length cp0, .slice Ap1 a1.length cp1] (fn := Go.Proofs.Tryd.f3) Go.Proofs.Tryd.func3 (by kernel_rfl) (by kernel_rfl) ?_
  have hM := Mem.refl w
  refine RunF.go 7 [0, 1] (k' := (pin Go.Proofs.Tryd.f3 [1, 0, 0] 0)) (L' := [(0, .slice Ap0 a0.length cp0), (1, .slice Ap1 a1.length cp1)]) (w' := w) (by kernel_rfl) ?_
  obtain ⟨t2, ht2, h⟩ := Option.bind_eq_some_iff.mp h
  refine RunF.call (d := some 16) (g := 9) (args := #[]) (k2 := (pin Go.Proofs.Tryd.f3 [1, 0, 0] 1)) (by kernel_rfl) (scrimlaw10_known.calls k t2 _ (hG0.mono hM.below) ht2) ?_
  rintro _ W1 ⟨rfl, hM_⟩
  replace hM := hM.call hM_
  clear hM_ ht2
  refine RunF.go 2 [0, 1, 17] (k' := (pl Go.Proofs.Tryd.f3 [1, 0, 1])) (L' := [(0, .slice Ap0 a0.length cp0), (1, .slice Ap1 a1.length cp1), (17, .bool (!t2))]) (w' := W1) (by kernel_rfl) ?_
  rcases two (!t2) with c3 | c3
  · replace h := of_true h c3
    refine RunF.know 17 (b := true) (by kernel_rfl) c3 ?_
    refine RunF.go 5 [4] (k' := (pl Go.Proofs.Tryd.f3 [1, 0, 1, 0, 1])) (L' := [(4, .bool false)]) (w' := W1) (by kernel_rfl) ?_
    obtain rfl := Option.some.inj h
    exact RunF.ret1 4 (.bool false) (fn := Go.Proofs.Tryd.f3) Go.Proofs.Tryd.func3 (by kernel_rfl) (by kernel_rfl) (by kernel_rfl) ⟨_, rfl, rfl, (hM.pick [] rfl rfl)⟩
  · replace h := of_false h c3
    refine RunF.know 17 (b := false) (by kernel_rfl) c3 ?_
    refine RunF.go 5 [1, 18] (k' := (pin Go.Proofs.Tryd.f3 [1, 1, 0] 1)) (L' := [(1, .slice Ap1 a1.length cp1), (18, .slice Ap0 a0.length cp0)]) (w' := W1) (by kernel_rfl) ?_
    obtain ⟨t5, ht5, h⟩ := Option.bind_eq_some_iff.mp h
    refine RunF.call (d := some 19) (g := 10) (args := #[.int .i64 16, .slice Ap0 a0.length cp0]) (k2 := (pin Go.Proofs.Tryd.f3 [1, 1, 0] 2)) (by kernel_rfl) (scrimlaw10_Bytes.calls k 16 Ap0 a0.length cp0 a0 t5 _ (hr0.mono hM.below) ht5) ?_
    rintro _ W4 ⟨A6, n7, c8, rfl, hM_⟩
    obtain rfl : t5.length = n7 := by have h_ := (hM_.rd 0 rfl).1; simpa [nums_length, bools_length, strs_length] using h_
    replace hM := hM.call hM_
    clear hM_ ht5
    refine RunF.go 1 [19, 20] (k' := (pin Go.Proofs.Tryd.f3 [1, 1, 0] 3)) (L' := [(19, .slice A6 t5.length c8), (20, .slice Ap1 a1.length cp1)]) (w' := W4) (by kernel_rfl) ?_
    obtain ⟨t11, ht11, h⟩ := Option.bind_eq_some_iff.mp h
    refine RunF.call (d := some 21) (g := 10) (args := #[.int .i64 16, .slice Ap1 a1.length cp1]) (k2 := (pin Go.Proofs.Tryd.f3 [1, 1, 0] 4)) (by kernel_rfl) (scrimlaw10_Bytes.calls k 16 Ap1 a1.length cp1 a1 t11 _ (hr1.mono hM.below) ht11) ?_
    rintro _ W10 ⟨A12, n13, c14, rfl, hM_⟩
    obtain rfl : t11.length = n13 := by have h_ := (hM_.rd 0 rfl).1; simpa [nums_length, bools_length, strs_length] using h_
    replace hM := hM.call hM_
    clear hM_ ht11
    refine RunF.go 5 [5, 6] (k' := (pin Go.Proofs.Tryd.f3 [1, 1, 1, 0] 0)) (L' := [(5, .slice A6 t5.length c8), (6, .slice A12 t11.length c14)]) (w' := W10) (by kernel_rfl) ?_
    obtain ⟨W16, hD, hM', hB_⟩ := mk_does (P := Go.Proofs.Tryd.prog) (n := 89) (k := (pin Go.Proofs.Tryd.f3 [1, 1, 1, 0] 0)) (L := [(5, .slice A6 t5.length c8), (6, .slice A12 t11.length c14)]) (d := some 22) (e := 5) (z := .int .u8 0) (l := 16) (c := 16) (k2 := (pin Go.Proofs.Tryd.f3 [1, 1, 1, 0] 1)) (by kernel_rfl) (by omega) (by omega) (by omega) hM
    rw [rep_nums] at hM'
    refine RunF.does hD ?_
    replace hM := hM'; clear hD hM'
    generalize W10.heap.size = g17 at hM ⊢
    refine RunF.go 9 [5, 6, 7, 8] (k' := (pl Go.Proofs.Tryd.f3 [1, 1, 1, 1, 0, 1, 0, 0])) (L' := [(5, .slice A6 t5.length c8), (6, .slice A12 t11.length c14), (7, .slice (some ⟨g17, 0, none⟩) 16 16), (8, .int .i64 0)]) (w' := W16) (by kernel_rfl) ?_
    have l0 : ∀ (k_ : Nat), k_ ≤ k → ∀ (x7_0 : List Int) (x8_0 : Int) (W : World) (hM : Mem w W [⟨.slice A6 t5.length c8, 5, 1, nums .u8 t5⟩, ⟨.slice A12 t11.length c14, 5, 1, nums .u8 t11⟩, ⟨.slice (some ⟨g17, 0, none⟩) 16 16, 5, 1, nums .u8 x7_0⟩]) (h : scrimlaw10_AriaSum.l0 k_ t11 t5 x7_0 x8_0 = some r), RunF Go.Proofs.Tryd.prog (Ret fun v w' => v = .bool r ∧ Mem w w' []) 3 (pl Go.Proofs.Tryd.f3 [1, 1, 1, 1, 0, 1, 0, 0]) 89 [(5, .slice A6 t5.length c8), (6, .slice A12 t11.length c14), (7, .slice (some ⟨g17, 0, none⟩) 16 16), (8, .int .i64 x8_0)] W := by
      intro k_
      induction k_ using Nat.strongRecOn with
      | _ k_ ih0 =>
        intro hk x7_0 x8_0 W hM h
        cases k_ with
        | zero => exact absurd h (by simp [scrimlaw10_AriaSum.l0])
        | succ k =>
          simp only [scrimlaw10_AriaSum.l0] at h
          replace ih0 : ∀ m, m ≤ k → _ := fun m hm => ih0 m (by omega) (by omega)
          refine RunF.go 6 [5, 6, 7, 8, 24] (k' := (pl Go.Proofs.Tryd.f3 [1, 1, 1, 1, 0, 1, 0, 0, 0, 1])) (L' := [(5, .slice A6 t5.length c8), (6, .slice A12 t11.length c14), (7, .slice (some ⟨g17, 0, none⟩) 16 16), (8, .int .i64 x8_0), (24, .bool (decide (x8_0 < 16)))]) (w' := W) (by kernel_rfl) ?_
          rcases two (decide (x8_0 < 16)) with c19 | c19
          · replace h := of_true h c19
            refine RunF.know 24 (b := true) (by kernel_rfl) c19 ?_
            refine RunF.go 4 [5, 6, 7, 8] (k' := (pl Go.Proofs.Tryd.f3 [1, 1, 1, 1, 0, 1, 0, 0, 1, 0, 0])) (L' := [(5, .slice A6 t5.length c8), (6, .slice A12 t11.length c14), (7, .slice (some ⟨g17, 0, none⟩) 16 16), (8, .int .i64 x8_0)]) (w' := W) (by kernel_rfl) ?_
            refine RunF.draw (Still ({ W with drawn := W.drawn + 1 } : World) [.slice (some ⟨g17, 0, none⟩) 16 16]) (by kernel_rfl) (by kernel_rfl) ?_
            have hMd21 := hM.drew
            have hS := Still.refl ({ W with drawn := W.drawn + 1 } : World) [.slice (some ⟨g17, 0, none⟩) 16 16]
            generalize ({ W with drawn := W.drawn + 1 } : World) = W20 at hMd21 hS ⊢
            replace hM := hMd21
            refine RunAny.y 0 (by kernel_rfl) (yl_pure (d := some 27) (v := .slice (some ⟨g17, 0, none⟩) 16 16) (k2 := [.inRegion (opsOf (pl Go.Proofs.Tryd.f3 [1, 1, 1, 1, 0, 1, 0, 0, 1, 0, 0])) []]) fun w => by kernel_rfl) (fun _ _ => trivial) hS ?_
            refine RunAny.y 1 (by kernel_rfl) (yl_pure (d := some 28) (v := .int .i64 x8_0) (k2 := [.inRegion (opsOf (pl Go.Proofs.Tryd.f3 [1, 1, 1, 1, 0, 1, 0, 0, 1, 0, 0])) []]) fun w => by kernel_rfl) (fun _ _ => trivial) hS ?_
            refine RunAny.y 2 (by kernel_rfl) (yl_pure (d := some 29) (v := .slice A6 t5.length c8) (k2 := [.inRegion (opsOf (pl Go.Proofs.Tryd.f3 [1, 1, 1, 1, 0, 1, 0, 0, 1, 0, 0])) []]) fun w => by kernel_rfl) (fun _ _ => trivial) hS ?_
            refine RunAny.y 3 (by kernel_rfl) (yl_pure (d := some 30) (v := .int .i64 x8_0) (k2 := [.inRegion (opsOf (pl Go.Proofs.Tryd.f3 [1, 1, 1, 1, 0, 1, 0, 0, 1, 0, 0])) []]) fun w => by kernel_rfl) (fun _ _ => trivial) hS ?_
            rcases two (decide (0 ≤ x8_0)) with c23 | c23
            · replace h := of_true h c23
              rcases two (decide (x8_0 < (t5.length : Int))) with c24 | c24
              · replace h := of_true h c24
                obtain ⟨q22, hAq22, hcq22, hfq22, hlq22⟩ := hM.num_at 0 rfl (i := x8_0) (of_decide_eq_true c23) (by have h_ := of_decide_eq_true c24; omega)
                refine RunAny.y 4 (by kernel_rfl) (idx_own (d := some 31) (A := A6) (m := t5.length) (i := x8_0) (k2 := [.inRegion (opsOf (pl Go.Proofs.Tryd.f3 [1, 1, 1, 1, 0, 1, 0, 0, 1, 0, 0])) []]) (by kernel_rfl) (of_decide_eq_true c23) (by have h_ := of_decide_eq_true c24; omega) hAq22) (fun _ _ => trivial) hS ?_
                refine RunAny.y 5 (by kernel_rfl) (ld_y (d := some 32) (p := ⟨q22, (x8_0 : Int).toNat, none⟩) (k2 := [.inRegion (opsOf (pl Go.Proofs.Tryd.f3 [1, 1, 1, 1, 0, 1, 0, 0, 1, 0, 0])) []]) (.int .u8 (rd t5 x8_0)) (by kernel_rfl)) (fun _ hs => hs.cell hcq22 (by intro v hv; simp only [List.mem_cons, List.not_mem_nil, or_false] at hv; rcases hv with rfl; exact (hM.ne 0 2 rfl rfl rfl (by rw [hAq22]; rfl)))) hS ?_
                refine RunAny.y 6 (by kernel_rfl) (yl_pure (d := some 33) (v := .slice A12 t11.length c14) (k2 := [.inRegion (opsOf (pl Go.Proofs.Tryd.f3 [1, 1, 1, 1, 0, 1, 0, 0, 1, 0, 0])) []]) fun w => by kernel_rfl) (fun _ _ => trivial) hS ?_
                refine RunAny.y 7 (by kernel_rfl) (yl_pure (d := some 34) (v := .int .i64 x8_0) (k2 := [.inRegion (opsOf (pl Go.Proofs.Tryd.f3 [1, 1, 1, 1, 0, 1, 0, 0, 1, 0, 0])) []]) fun w => by kernel_rfl) (fun _ _ => trivial) hS ?_
                rcases two (decide (0 ≤ x8_0)) with c26 | c26
                · replace h := of_true h c26
                  rcases two (decide (x8_0 < (t11.length : Int))) with c27 | c27
                  · replace h := of_true h c27
                    obtain ⟨q25, hAq25, hcq25, hfq25, hlq25⟩ := hM.num_at 1 rfl (i := x8_0) (of_decide_eq_true c26) (by have h_ := of_decide_eq_true c27; omega)
                    refine RunAny.y 8 (by kernel_rfl) (idx_own (d := some 35) (A := A12) (m := t11.length) (i := x8_0) (k2 := [.inRegion (opsOf (pl Go.Proofs.Tryd.f3 [1, 1, 1, 1, 0, 1, 0, 0, 1, 0, 0])) []]) (by kernel_rfl) (of_decide_eq_true c26) (by have h_ := of_decide_eq_true c27; omega) hAq25) (fun _ _ => trivial) hS ?_
                    refine RunAny.y 9 (by kernel_rfl) (ld_y (d := some 36) (p := ⟨q25, (x8_0 : Int).toNat, none⟩) (k2 := [.inRegion (opsOf (pl Go.Proofs.Tryd.f3 [1, 1, 1, 1, 0, 1, 0, 0, 1, 0, 0])) []]) (.int .u8 (rd t11 x8_0)) (by kernel_rfl)) (fun _ hs => hs.cell hcq25 (by intro v hv; simp only [List.mem_cons, List.not_mem_nil, or_false] at hv; rcases hv with rfl; exact (hM.ne 1 2 rfl rfl rfl (by rw [hAq25]; rfl)))) hS ?_
                    refine RunAny.y 10 (by kernel_rfl) (yl_pure (d := some 37) (v := .int .u8 (bxor .u8 (rd t5 x8_0) (rd t11 x8_0))) (k2 := [.inRegion (opsOf (pl Go.Proofs.Tryd.f3 [1, 1, 1, 1, 0, 1, 0, 0, 1, 0, 0])) []]) fun w => by kernel_rfl) (fun _ _ => trivial) hS ?_
                    rcases two (decide (0 ≤ x8_0)) with c29 | c29
                    · replace h := of_true h c29
                      rcases two (decide (x8_0 < (16 : Int))) with c30 | c30
                      · replace h := of_true h c30
                        obtain ⟨q28, hAq28, hcq28, hfq28, hlq28⟩ := hM.num_at 2 rfl (i := x8_0) (of_decide_eq_true c29) (by have h_ := of_decide_eq_true c30; omega)
                        refine RunAny.y 11 (by kernel_rfl) (idx_own (d := some 38) (A := (some ⟨g17, 0, none⟩)) (m := 16) (i := x8_0) (k2 := [.inRegion (opsOf (pl Go.Proofs.Tryd.f3 [1, 1, 1, 1, 0, 1, 0, 0, 1, 0, 0])) []]) (by kernel_rfl) (of_decide_eq_true c29) (by have h_ := of_decide_eq_true c30; omega) hAq28) (fun _ _ => trivial) hS ?_
                        obtain ⟨g_, hA_, hc_, hf_, hl_⟩ := hM.num_at 2 rfl (i := x8_0) (of_decide_eq_true c29) (by have h_ := of_decide_eq_true c30; omega)
                        obtain rfl : q28 = g_ := by rw [hAq28] at hA_; injection hA_ with hA_; injection hA_
                        have hS' := hS.set (v := .slice (some ⟨g17, 0, none⟩) 16 16) (g := q28) (i := (x8_0 : Int).toNat) (by simp) (by rw [hAq28]; rfl) (.int .u8 (bxor .u8 (rd t5 x8_0) (rd t11 x8_0)))
                        refine RunAny.doesU 12 (by kernel_rfl) (st_u (p := (⟨q28, (x8_0 : Int).toNat, none⟩ : Addr)) (v := .int .u8 (bxor .u8 (rd t5 x8_0) (rd t11 x8_0))) (k2 := [.inRegion (opsOf (pl Go.Proofs.Tryd.f3 [1, 1, 1, 1, 0, 1, 0, 0, 1, 0, 0])) []]) (by kernel_rfl) hc_ hf_) hS' ?_
                        replace hM : Mem w (W20.setCell (⟨q28, (x8_0 : Int).toNat, none⟩ : Addr) (.int .u8 (bxor .u8 (rd t5 x8_0) (rd t11 x8_0)))) [⟨.slice A6 t5.length c8, 5, 1, nums .u8 t5⟩, ⟨.slice A12 t11.length c14, 5, 1, nums .u8 t11⟩, ⟨.slice (some ⟨g17, 0, none⟩) 16 16, 5, 1, nums .u8 (x7_0.set (x8_0 : Int).toNat (bxor .u8 (rd t5 x8_0) (rd t11 x8_0)))⟩] := Mem.put_num [⟨.slice A6 t5.length c8, 5, 1, nums .u8 t5⟩, ⟨.slice A12 t11.length c14, 5, 1, nums .u8 t11⟩] [] (hM.pick [0, 1, 2] rfl rfl) hAq28 _ hl_ _
                        generalize W20.setCell (⟨q28, (x8_0 : Int).toNat, none⟩ : Addr) (.int .u8 (bxor .u8 (rd t5 x8_0) (rd t11 x8_0))) = W31 at hM hS' ⊢
                        clear hc_ hf_ hl_ hA_ hcq28
                        replace hS := hS'
                        refine RunAny.rebase hS ?_
                        replace hS := Still.refl W31 [.slice (some ⟨g17, 0, none⟩) 16 16]
                        refine RunAny.done (by kernel_rfl) ?_
                        clear hS
                        refine RunF.go 7 [5, 6, 7, 8] (k' := (pl Go.Proofs.Tryd.f3 [1, 1, 1, 1, 0, 1, 0, 0])) (L' := [(5, .slice A6 t5.length c8), (6, .slice A12 t11.length c14), (7, .slice (some ⟨g17, 0, none⟩) 16 16), (8, .int .i64 (I64 (x8_0 + 1)))]) (w' := W31) (by kernel_rfl) ?_
                        exact ih0 k (by omega) (x7_0.set (x8_0 : Int).toNat (bxor .u8 (rd t5 x8_0) (rd t11 x8_0))) (I64 (x8_0 + 1)) _ (hM.pick [0, 1, 2] rfl rfl) h
                      · replace h := of_false h c30
                        cases h
                    · replace h := of_false h c29
                      cases h
                  · replace h := of_false h c27
                    cases h
                · replace h := of_false h c26
                  cases h
              · replace h := of_false h c24
                cases h
            · replace h := of_false h c23
              cases h
          · replace h := of_false h c19
            refine RunF.know 24 (b := false) (by kernel_rfl) c19 ?_
            refine RunF.go 5 [6, 7, 40] (k' := (pin Go.Proofs.Tryd.f3 [1, 1, 1, 1, 1, 0] 1)) (L' := [(6, .slice A12 t11.length c14), (7, .slice (some ⟨g17, 0, none⟩) 16 16), (40, .slice A6 t5.length c8)]) (w' := W) (by kernel_rfl) ?_
            obtain ⟨t33, ht33, h⟩ := Option.bind_eq_some_iff.mp h
            refine RunF.call (d := some 41) (g := 11) (args := #[.slice A6 t5.length c8]) (k2 := (pin Go.Proofs.Tryd.f3 [1, 1, 1, 1, 1, 0] 2)) (by kernel_rfl) (aria_Mix.calls k A6 t5.length c8 t5 t33 _ (hM.rd 0 rfl) ht33) ?_
            rintro _ W32 ⟨A34, n35, c36, rfl, hM_⟩
            obtain rfl : t33.1.length = n35 := by have h_ := (hM_.rd 0 rfl).1; simpa [nums_length, bools_length, strs_length] using h_
            replace hM := hM.call hM_
            clear hM_ ht33
            refine RunF.go 9 [7, 9, 45] (k' := (pin Go.Proofs.Tryd.f3 [1, 1, 1, 1, 1, 1, 0] 1)) (L' := [(7, .slice (some ⟨g17, 0, none⟩) 16 16), (9, .slice A34 t33.1.length c36), (45, .slice A12 t11.length c14)]) (w' := W32) (by kernel_rfl) ?_
            obtain ⟨t39, ht39, h⟩ := Option.bind_eq_some_iff.mp h
            refine RunF.call (d := some 46) (g := 11) (args := #[.slice A12 t11.length c14]) (k2 := (pin Go.Proofs.Tryd.f3 [1, 1, 1, 1, 1, 1, 0] 2)) (by kernel_rfl) (aria_Mix.calls k A12 t11.length c14 t11 t39 _ (hM.rd 2 rfl) ht39) ?_
            rintro _ W38 ⟨A40, n41, c42, rfl, hM_⟩
            obtain rfl : t39.1.length = n41 := by have h_ := (hM_.rd 0 rfl).1; simpa [nums_length, bools_length, strs_length] using h_
            replace hM := hM.call hM_
            clear hM_ ht39
            refine RunF.go 9 [9, 11, 50] (k' := (pin Go.Proofs.Tryd.f3 [1, 1, 1, 1, 1, 1, 1, 0] 1)) (L' := [(9, .slice A34 t33.1.length c36), (11, .slice A40 t39.1.length c42), (50, .slice (some ⟨g17, 0, none⟩) 16 16)]) (w' := W38) (by kernel_rfl) ?_
            obtain ⟨t45, ht45, h⟩ := Option.bind_eq_some_iff.mp h
            refine RunF.call (d := some 51) (g := 11) (args := #[.slice (some ⟨g17, 0, none⟩) 16 16]) (k2 := (pin Go.Proofs.Tryd.f3 [1, 1, 1, 1, 1, 1, 1, 0] 2)) (by kernel_rfl) (aria_Mix.calls k (some ⟨g17, 0, none⟩) 16 16 x7_0 t45 _ (hM.rd 4 rfl) ht45) ?_
            rintro _ W44 ⟨A46, n47, c48, rfl, hM_⟩
            obtain rfl : t45.1.length = n47 := by have h_ := (hM_.rd 0 rfl).1; simpa [nums_length, bools_length, strs_length] using h_
            replace hM := hM.call hM_
            clear hM_ ht45
            refine RunF.go 12 [9, 11, 13, 56] (k' := (pin Go.Proofs.Tryd.f3 [1, 1, 1, 1, 1, 1, 1, 1, 0, 0] 3)) (L' := [(9, .slice A34 t33.1.length c36), (11, .slice A40 t39.1.length c42), (13, .slice A46 t45.1.length c48), (56, .bool (!t45.2))]) (w' := W44) (by kernel_rfl) ?_
            rcases two (!t45.2) with c50 | c50
            · replace h := of_true h c50
              refine RunF.know 56 (b := true) (by kernel_rfl) c50 ?_
              refine RunF.go 20 [4] (k' := (pl Go.Proofs.Tryd.f3 [1, 1, 1, 1, 1, 1, 1, 1, 0, 1, 0, 1])) (L' := [(4, .bool false)]) (w' := W44) (by kernel_rfl) ?_
              obtain rfl := Option.some.inj h
              exact RunF.ret1 4 (.bool false) (fn := Go.Proofs.Tryd.f3) Go.Proofs.Tryd.func3 (by kernel_rfl) (by kernel_rfl) (by kernel_rfl) ⟨_, rfl, rfl, (hM.pick [] rfl rfl)⟩
            · replace h := of_false h c50
              refine RunF.know 56 (b := false) (by kernel_rfl) c50 ?_
              refine RunF.go 5 [9, 11, 13, 61] (k' := (pin Go.Proofs.Tryd.f3 [1, 1, 1, 1, 1, 1, 1, 1, 0, 0] 8)) (L' := [(9, .slice A34 t33.1.length c36), (11, .slice A40 t39.1.length c42), (13, .slice A46 t45.1.length c48), (61, .bool ((t33.1.length : Int) != 16))]) (w' := W44) (by kernel_rfl) ?_
              rcases two (((t33.1.length : Int) != 16)) with c51 | c51
              · replace h := of_true h c51
                refine RunF.know 61 (b := true) (by kernel_rfl) c51 ?_
                refine RunF.go 15 [4] (k' := (pl Go.Proofs.Tryd.f3 [1, 1, 1, 1, 1, 1, 1, 1, 0, 1, 0, 1])) (L' := [(4, .bool false)]) (w' := W44) (by kernel_rfl) ?_
                obtain rfl := Option.some.inj h
                exact RunF.ret1 4 (.bool false) (fn := Go.Proofs.Tryd.f3) Go.Proofs.Tryd.func3 (by kernel_rfl) (by kernel_rfl) (by kernel_rfl) ⟨_, rfl, rfl, (hM.pick [] rfl rfl)⟩
              · replace h := of_false h c51
                refine RunF.know 61 (b := false) (by kernel_rfl) c51 ?_
                refine RunF.go 5 [9, 11, 13, 66] (k' := (pin Go.Proofs.Tryd.f3 [1, 1, 1, 1, 1, 1, 1, 1, 0, 0] 13)) (L' := [(9, .slice A34 t33.1.length c36), (11, .slice A40 t39.1.length c42), (13, .slice A46 t45.1.length c48), (66, .bool ((t39.1.length : Int) != 16))]) (w' := W44) (by kernel_rfl) ?_
                rcases two (((t39.1.length : Int) != 16)) with c52 | c52
                · replace h := of_true h c52
                  refine RunF.know 66 (b := true) (by kernel_rfl) c52 ?_
                  refine RunF.go 10 [4] (k' := (pl Go.Proofs.Tryd.f3 [1, 1, 1, 1, 1, 1, 1, 1, 0, 1, 0, 1])) (L' := [(4, .bool false)]) (w' := W44) (by kernel_rfl) ?_
                  obtain rfl := Option.some.inj h
                  exact RunF.ret1 4 (.bool false) (fn := Go.Proofs.Tryd.f3) Go.Proofs.Tryd.func3 (by kernel_rfl) (by kernel_rfl) (by kernel_rfl) ⟨_, rfl, rfl, (hM.pick [] rfl rfl)⟩
                · replace h := of_false h c52
                  refine RunF.know 66 (b := false) (by kernel_rfl) c52 ?_
                  refine RunF.go 5 [9, 11, 13, 70] (k' := (pl Go.Proofs.Tryd.f3 [1, 1, 1, 1, 1, 1, 1, 1, 0, 1])) (L' := [(9, .slice A34 t33.1.length c36), (11, .slice A40 t39.1.length c42), (13, .slice A46 t45.1.length c48), (70, .bool ((t45.1.length : Int) != 16))]) (w' := W44) (by kernel_rfl) ?_
                  rcases two (((t45.1.length : Int) != 16)) with c53 | c53
                  · replace h := of_true h c53
                    refine RunF.know 70 (b := true) (by kernel_rfl) c53 ?_
                    refine RunF.go 5 [4] (k' := (pl Go.Proofs.Tryd.f3 [1, 1, 1, 1, 1, 1, 1, 1, 0, 1, 0, 1])) (L' := [(4, .bool false)]) (w' := W44) (by kernel_rfl) ?_
                    obtain rfl := Option.some.inj h
                    exact RunF.ret1 4 (.bool false) (fn := Go.Proofs.Tryd.f3) Go.Proofs.Tryd.func3 (by kernel_rfl) (by kernel_rfl) (by kernel_rfl) ⟨_, rfl, rfl, (hM.pick [] rfl rfl)⟩
                  · replace h := of_false h c53
                    refine RunF.know 70 (b := false) (by kernel_rfl) c53 ?_
                    refine RunF.go 9 [9, 11, 13, 15] (k' := (pl Go.Proofs.Tryd.f3 [1, 1, 1, 1, 1, 1, 1, 1, 1, 0, 1, 0, 0])) (L' := [(9, .slice A34 t33.1.length c36), (11, .slice A40 t39.1.length c42), (13, .slice A46 t45.1.length c48), (15, .int .i64 0)]) (w' := W44) (by kernel_rfl) ?_
                    have l1 : ∀ (k_ : Nat), k_ ≤ k → ∀ (x15_1 : Int) (W : World) (hM : Mem w W [⟨.slice A34 t33.1.length c36, 5, 1, nums .u8 t33.1⟩, ⟨.slice A40 t39.1.length c42, 5, 1, nums .u8 t39.1⟩, ⟨.slice A46 t45.1.length c48, 5, 1, nums .u8 t45.1⟩]) (h : scrimlaw10_AriaSum.l1 k_ t33 t39 t45 x15_1 = some r), RunF Go.Proofs.Tryd.prog (Ret fun v w' => v = .bool r ∧ Mem w w' []) 3 (pl Go.Proofs.Tryd.f3 [1, 1, 1, 1, 1, 1, 1, 1, 1, 0, 1, 0, 0]) 89 [(9, .slice A34 t33.1.length c36), (11, .slice A40 t39.1.length c42), (13, .slice A46 t45.1.length c48), (15, .int .i64 x15_1)] W := by
                      intro k_
                      induction k_ using Nat.strongRecOn with
                      | _ k_ ih1 =>
                        intro hk x15_1 W hM h
                        cases k_ with
                        | zero => exact absurd h (by simp [scrimlaw10_AriaSum.l1])
                        | succ k =>
                          simp only [scrimlaw10_AriaSum.l1] at h
                          replace ih1 : ∀ m, m ≤ k → _ := fun m hm => ih1 m (by omega) (by omega)
                          replace ih0 : ∀ m, m ≤ k → _ := fun m hm => ih0 m (by omega)
                          refine RunF.go 6 [9, 11, 13, 15, 72] (k' := (pl Go.Proofs.Tryd.f3 [1, 1, 1, 1, 1, 1, 1, 1, 1, 0, 1, 0, 0, 0, 1])) (L' := [(9, .slice A34 t33.1.length c36), (11, .slice A40 t39.1.length c42), (13, .slice A46 t45.1.length c48), (15, .int .i64 x15_1), (72, .bool (decide (x15_1 < 16)))]) (w' := W) (by kernel_rfl) ?_
                          rcases two (decide (x15_1 < 16)) with c54 | c54
                          · replace h := of_true h c54
                            refine RunF.know 72 (b := true) (by kernel_rfl) c54 ?_
                            refine RunF.go 5 [9, 11, 13, 15] (k' := (pl Go.Proofs.Tryd.f3 [1, 1, 1, 1, 1, 1, 1, 1, 1, 0, 1, 0, 0, 1, 0, 0, 0])) (L' := [(9, .slice A34 t33.1.length c36), (11, .slice A40 t39.1.length c42), (13, .slice A46 t45.1.length c48), (15, .int .i64 x15_1)]) (w' := W) (by kernel_rfl) ?_
                            refine RunF.draw (Still ({ W with drawn := W.drawn + 1 } : World) []) (by kernel_rfl) (by kernel_rfl) ?_
                            have hMd56 := hM.drew
                            have hS := Still.refl ({ W with drawn := W.drawn + 1 } : World) []
                            generalize ({ W with drawn := W.drawn + 1 } : World) = W55 at hMd56 hS ⊢
                            replace hM := hMd56
                            refine RunAny.y 0 (by kernel_rfl) (yl_pure (d := some 75) (v := .slice A46 t45.1.length c48) (k2 := [.inRegion (opsOf (pl Go.Proofs.Tryd.f3 [1, 1, 1, 1, 1, 1, 1, 1, 1, 0, 1, 0, 0, 1, 0, 0, 0])) []]) fun w => by kernel_rfl) (fun _ _ => trivial) hS ?_
                            refine RunAny.y 1 (by kernel_rfl) (yl_pure (d := some 76) (v := .int .i64 x15_1) (k2 := [.inRegion (opsOf (pl Go.Proofs.Tryd.f3 [1, 1, 1, 1, 1, 1, 1, 1, 1, 0, 1, 0, 0, 1, 0, 0, 0])) []]) fun w => by kernel_rfl) (fun _ _ => trivial) hS ?_
                            rcases two (decide (0 ≤ x15_1)) with c58 | c58
                            · replace h := of_true h c58
                              rcases two (decide (x15_1 < (t45.1.length : Int))) with c59 | c59
                              · replace h := of_true h c59
                                obtain ⟨q57, hAq57, hcq57, hfq57, hlq57⟩ := hM.num_at 2 rfl (i := x15_1) (of_decide_eq_true c58) (by have h_ := of_decide_eq_true c59; omega)
                                refine RunAny.y 2 (by kernel_rfl) (idx_own (d := some 77) (A := A46) (m := t45.1.length) (i := x15_1) (k2 := [.inRegion (opsOf (pl Go.Proofs.Tryd.f3 [1, 1, 1, 1, 1, 1, 1, 1, 1, 0, 1, 0, 0, 1, 0, 0, 0])) []]) (by kernel_rfl) (of_decide_eq_true c58) (by have h_ := of_decide_eq_true c59; omega) hAq57) (fun _ _ => trivial) hS ?_
                                refine RunAny.y 3 (by kernel_rfl) (ld_y (d := some 78) (p := ⟨q57, (x15_1 : Int).toNat, none⟩) (k2 := [.inRegion (opsOf (pl Go.Proofs.Tryd.f3 [1, 1, 1, 1, 1, 1, 1, 1, 1, 0, 1, 0, 0, 1, 0, 0, 0])) []]) (.int .u8 (rd t45.1 x15_1)) (by kernel_rfl)) (fun _ hs => hs.cell hcq57 (by simp)) hS ?_
                                refine RunAny.y 4 (by kernel_rfl) (yl_pure (d := some 79) (v := .slice A34 t33.1.length c36) (k2 := [.inRegion (opsOf (pl Go.Proofs.Tryd.f3 [1, 1, 1, 1, 1, 1, 1, 1, 1, 0, 1, 0, 0, 1, 0, 0, 0])) []]) fun w => by kernel_rfl) (fun _ _ => trivial) hS ?_
                                refine RunAny.y 5 (by kernel_rfl) (yl_pure (d := some 80) (v := .int .i64 x15_1) (k2 := [.inRegion (opsOf (pl Go.Proofs.Tryd.f3 [1, 1, 1, 1, 1, 1, 1, 1, 1, 0, 1, 0, 0, 1, 0, 0, 0])) []]) fun w => by kernel_rfl) (fun _ _ => trivial) hS ?_
                                rcases two (decide (0 ≤ x15_1)) with c61 | c61
                                · replace h := of_true h c61
                                  rcases two (decide (x15_1 < (t33.1.length : Int))) with c62 | c62
                                  · replace h := of_true h c62
                                    obtain ⟨q60, hAq60, hcq60, hfq60, hlq60⟩ := hM.num_at 0 rfl (i := x15_1) (of_decide_eq_true c61) (by have h_ := of_decide_eq_true c62; omega)
                                    refine RunAny.y 6 (by kernel_rfl) (idx_own (d := some 81) (A := A34) (m := t33.1.length) (i := x15_1) (k2 := [.inRegion (opsOf (pl Go.Proofs.Tryd.f3 [1, 1, 1, 1, 1, 1, 1, 1, 1, 0, 1, 0, 0, 1, 0, 0, 0])) []]) (by kernel_rfl) (of_decide_eq_true c61) (by have h_ := of_decide_eq_true c62; omega) hAq60) (fun _ _ => trivial) hS ?_
                                    refine RunAny.y 7 (by kernel_rfl) (ld_y (d := some 82) (p := ⟨q60, (x15_1 : Int).toNat, none⟩) (k2 := [.inRegion (opsOf (pl Go.Proofs.Tryd.f3 [1, 1, 1, 1, 1, 1, 1, 1, 1, 0, 1, 0, 0, 1, 0, 0, 0])) []]) (.int .u8 (rd t33.1 x15_1)) (by kernel_rfl)) (fun _ hs => hs.cell hcq60 (by simp)) hS ?_
                                    refine RunAny.y 8 (by kernel_rfl) (yl_pure (d := some 83) (v := .slice A40 t39.1.length c42) (k2 := [.inRegion (opsOf (pl Go.Proofs.Tryd.f3 [1, 1, 1, 1, 1, 1, 1, 1, 1, 0, 1, 0, 0, 1, 0, 0, 0])) []]) fun w => by kernel_rfl) (fun _ _ => trivial) hS ?_
                                    refine RunAny.y 9 (by kernel_rfl) (yl_pure (d := some 84) (v := .int .i64 x15_1) (k2 := [.inRegion (opsOf (pl Go.Proofs.Tryd.f3 [1, 1, 1, 1, 1, 1, 1, 1, 1, 0, 1, 0, 0, 1, 0, 0, 0])) []]) fun w => by kernel_rfl) (fun _ _ => trivial) hS ?_
                                    rcases two (decide (0 ≤ x15_1)) with c64 | c64
                                    · replace h := of_true h c64
                                      rcases two (decide (x15_1 < (t39.1.length : Int))) with c65 | c65
                                      · replace h := of_true h c65
                                        obtain ⟨q63, hAq63, hcq63, hfq63, hlq63⟩ := hM.num_at 1 rfl (i := x15_1) (of_decide_eq_true c64) (by have h_ := of_decide_eq_true c65; omega)
                                        refine RunAny.y 10 (by kernel_rfl) (idx_own (d := some 85) (A := A40) (m := t39.1.length) (i := x15_1) (k2 := [.inRegion (opsOf (pl Go.Proofs.Tryd.f3 [1, 1, 1, 1, 1, 1, 1, 1, 1, 0, 1, 0, 0, 1, 0, 0, 0])) []]) (by kernel_rfl) (of_decide_eq_true c64) (by have h_ := of_decide_eq_true c65; omega) hAq63) (fun _ _ => trivial) hS ?_
                                        refine RunAny.y 11 (by kernel_rfl) (ld_y (d := some 86) (p := ⟨q63, (x15_1 : Int).toNat, none⟩) (k2 := [.inRegion (opsOf (pl Go.Proofs.Tryd.f3 [1, 1, 1, 1, 1, 1, 1, 1, 1, 0, 1, 0, 0, 1, 0, 0, 0])) []]) (.int .u8 (rd t39.1 x15_1)) (by kernel_rfl)) (fun _ hs => hs.cell hcq63 (by simp)) hS ?_
                                        refine RunAny.y 12 (by kernel_rfl) (yl_pure (d := some 87) (v := .int .u8 (bxor .u8 (rd t33.1 x15_1) (rd t39.1 x15_1))) (k2 := [.inRegion (opsOf (pl Go.Proofs.Tryd.f3 [1, 1, 1, 1, 1, 1, 1, 1, 1, 0, 1, 0, 0, 1, 0, 0, 0])) []]) fun w => by kernel_rfl) (fun _ _ => trivial) hS ?_
                                        refine RunAny.y 13 (by kernel_rfl) (yl_pure (d := some 88) (v := .bool ((rd t45.1 x15_1) != (bxor .u8 (rd t33.1 x15_1) (rd t39.1 x15_1)))) (k2 := [.inRegion (opsOf (pl Go.Proofs.Tryd.f3 [1, 1, 1, 1, 1, 1, 1, 1, 1, 0, 1, 0, 0, 1, 0, 0, 0])) []]) fun w => by kernel_rfl) (fun _ _ => trivial) hS ?_
                                        refine RunAny.done (by kernel_rfl) ?_
                                        clear hS
                                        obtain ⟨y66, hy, h⟩ := Option.bind_eq_some_iff.mp h
                                        rw [show (((rd t45.1 x15_1) != (bxor .u8 (rd t33.1 x15_1) (rd t39.1 x15_1)))) = y66 from Option.some.inj hy]
                                        clear hy
                                        rcases two (y66) with c67 | c67
                                        · replace h := of_true h c67
                                          refine RunF.know 88 (b := true) (by kernel_rfl) c67 ?_
                                          refine RunF.go 5 [4] (k' := (pl Go.Proofs.Tryd.f3 [1, 1, 1, 1, 1, 1, 1, 1, 1, 0, 1, 0, 0, 1, 0, 0, 1, 0, 1])) (L' := [(4, .bool false)]) (w' := W55) (by kernel_rfl) ?_
                                          obtain rfl := Option.some.inj h
                                          exact RunF.ret1 4 (.bool false) (fn := Go.Proofs.Tryd.f3) Go.Proofs.Tryd.func3 (by kernel_rfl) (by kernel_rfl) (by kernel_rfl) ⟨_, rfl, rfl, (hM.pick [] rfl rfl)⟩
                                        · replace h := of_false h c67
                                          refine RunF.know 88 (b := false) (by kernel_rfl) c67 ?_
                                          refine RunF.go 9 [9, 11, 13, 15] (k' := (pl Go.Proofs.Tryd.f3 [1, 1, 1, 1, 1, 1, 1, 1, 1, 0, 1, 0, 0])) (L' := [(9, .slice A34 t33.1.length c36), (11, .slice A40 t39.1.length c42), (13, .slice A46 t45.1.length c48), (15, .int .i64 (I64 (x15_1 + 1)))]) (w' := W55) (by kernel_rfl) ?_
                                          exact ih1 k (by omega) (I64 (x15_1 + 1)) _ (hM.pick [0, 1, 2] rfl rfl) h
                                      · replace h := of_false h c65
                                        cases h
                                    · replace h := of_false h c64
                                      cases h
                                  · replace h := of_false h c62
                                    cases h
                                · replace h := of_false h c61
                                  cases h
                              · replace h := of_false h c59
                                cases h
                            · replace h := of_false h c58
                              cases h
                          · replace h := of_false h c54
                            refine RunF.know 72 (b := false) (by kernel_rfl) c54 ?_
                            refine RunF.go 6 [4] (k' := (pl Go.Proofs.Tryd.f3 [1, 1, 1, 1, 1, 1, 1, 1, 1, 1, 1])) (L' := [(4, .bool true)]) (w' := W) (by kernel_rfl) ?_
                            obtain rfl := Option.some.inj h
                            exact RunF.ret1 4 (.bool true) (fn := Go.Proofs.Tryd.f3) Go.Proofs.Tryd.func3 (by kernel_rfl) (by kernel_rfl) (by kernel_rfl) ⟨_, rfl, rfl, (hM.pick [] rfl rfl)⟩
                    exact l1 k (Nat.le_refl _) 0 _ (hM.pick [2, 1, 0] rfl rfl) h
    exact l0 k (Nat.le_refl _) (List.replicate 16 (0 : Int)) 0 _ (hM.pick [2, 1, 0] rfl rfl) h


end Go.Scr.S
