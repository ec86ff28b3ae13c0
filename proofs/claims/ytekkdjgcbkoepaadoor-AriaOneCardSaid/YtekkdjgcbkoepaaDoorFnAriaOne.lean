/- The functions that the law AriaOne reaches, as plain functions, and that each call answers so. -/
import Derived.Test.YtekkdjgcbkoepaaDoorProg
import Derived.Test.YtekkdjgcbkoepaaDoorFnAriaOne1
set_option linter.unusedVariables false
set_option linter.unusedSimpArgs false
set_option linter.unnecessarySimpa false
namespace Go.Scr.S
open Go.RowKit (Below)
/-! ### scrim/scrimlaw10.known: function 9 -/
def scrimlaw10_known.f (k : Nat)  : Option (Bool) := (aria_New.f k ([] : List Int)).bind fun t2 => ((aria_New.f k (List.replicate 16 (0 : Int))).bind fun t7 => (if (t2.2 != 4) = true then (some false) else (if (t7.2 != 0) = true then (some false) else (if t7.1.isSome = true then ((t7.1).bind fun s11 => ((aria_Aria_Block.f k s11 (List.replicate 16 (0 : Int)) false).bind fun t18 => ((aria_Aria_Block.f k s11 t18.1 true).bind fun t24 => (if (t18.2 == 0) = true then (if (t24.2 == 0) = true then (if ((t18.1.length : Int) == 16) = true then (if (!((strOf t18.1).toList == (strOf t24.1).toList)) = true then (some ((strOf t24.1).toList == (strOf (List.replicate 16 (0 : Int))).toList)) else (some false)) else (some false)) else (some false)) else (some false))))) else (some false)))))
set_option maxRecDepth 100000 in
set_option maxHeartbeats 8000000 in
theorem scrimlaw10_known.calls (k : Nat)  (r : Bool) (w : World) (hG0 : Rg w 0 (nums .u8 [1, 2, 4, 8, 16, 32, 64, 128])) (h : scrimlaw10_known.f k = some r) :
    Calls Go.Proofs.Tryd.prog 9 #[] w (Ret fun v w' => v = .bool r ∧ Mem w w' []) := by
  unfold scrimlaw10_known.f at h
  refine calls_of [] (fn := Go.Proofs.Tryd.f9) Go.Proofs.Tryd.func9 (by kernel_rfl) (by kernel_rfl) ?_
  have hM := Mem.refl w
  refine RunF.go 6 [] (k' := (pin Go.Proofs.Tryd.f9 [1, 0] 0)) (L' := []) (w' := w) (by kernel_rfl) ?_
  obtain ⟨t2, ht2, h⟩ := Option.bind_eq_some_iff.mp h
  refine RunF.call (d := some 10) (g := 19) (args := #[.slice none 0 0]) (k2 := (pin Go.Proofs.Tryd.f9 [1, 0] 1)) (by kernel_rfl) (aria_New.calls k none 0 0 ([] : List Int) t2 _ (Rd.nil _ .u8) (hG0.mono hM.below) ht2) ?_
  rintro _ W1 ⟨vt2_0, Ft2_0, rfl, hRt2_0, hM_⟩
  replace hM : Mem w W1 (Gs [] [Ft2_0]) := (Mem.callG (hM.as (H' := Gs [] []) rfl) hM_).as rfl
  clear hM_ ht2
  refine RunF.go 8 [2] (k' := (pin Go.Proofs.Tryd.f9 [1, 1, 0] 0)) (L' := [(2, .int .i64 t2.2)]) (w' := W1) (by kernel_rfl) ?_
  obtain ⟨W3, hD, hM', hB_⟩ := mk_does (P := Go.Proofs.Tryd.prog) (n := 65) (k := (pin Go.Proofs.Tryd.f9 [1, 1, 0] 0)) (L := [(2, .int .i64 t2.2)]) (d := some 14) (e := 5) (z := .int .u8 0) (l := 16) (c := 16) (k2 := (pin Go.Proofs.Tryd.f9 [1, 1, 0] 1)) (by kernel_rfl) (by omega) (by omega) (by omega) hM
  rw [rep_nums] at hM'
  refine RunF.does hD ?_
  replace hM := hM'; clear hD hM'
  generalize W1.heap.size = g4 at hM ⊢
  obtain ⟨t7, ht7, h⟩ := Option.bind_eq_some_iff.mp h
  refine RunF.call (d := some 15) (g := 19) (args := #[.slice (some ⟨g4, 0, none⟩) 16 16]) (k2 := (pin Go.Proofs.Tryd.f9 [1, 1, 0] 2)) (by kernel_rfl) (aria_New.calls k (some ⟨g4, 0, none⟩) 16 16 (List.replicate 16 (0 : Int)) t7 _ (hM.rd 0 rfl) (hG0.mono hM.below) ht7) ?_
  rintro _ W6 ⟨vt7_0, Ft7_0, rfl, hRt7_0, hM_⟩
  replace hM : Mem w W6 (Gs [⟨.slice (some ⟨g4, 0, none⟩) 16 16, 5, 1, nums .u8 (List.replicate 16 (0 : Int))⟩] [Ft7_0, Ft2_0]) := (Mem.callG (hM.as (H' := Gs [⟨.slice (some ⟨g4, 0, none⟩) 16 16, 5, 1, nums .u8 (List.replicate 16 (0 : Int))⟩] [Ft2_0]) rfl) hM_).as rfl
  clear hM_ ht7
  refine RunF.go 12 [3, 4, 20] (k' := (pin Go.Proofs.Tryd.f9 [1, 1, 1, 0, 0] 3)) (L' := [(3, vt7_0), (4, .int .i64 t7.2), (20, .bool (t2.2 != 4))]) (w' := W6) (by kernel_rfl) ?_
  rcases two ((t2.2 != 4)) with c8 | c8
  · replace h := of_true h c8
    refine RunF.know 20 (b := true) (by kernel_rfl) c8 ?_
    refine RunF.go 13 [0] (k' := (pl Go.Proofs.Tryd.f9 [1, 1, 1, 0, 1, 0, 1])) (L' := [(0, .bool false)]) (w' := W6) (by kernel_rfl) ?_
    obtain rfl := Option.some.inj h
    exact RunF.ret1 0 (.bool false) (fn := Go.Proofs.Tryd.f9) Go.Proofs.Tryd.func9 (by kernel_rfl) (by kernel_rfl) (by kernel_rfl) ⟨_, rfl, rfl, (Mem.pickF (hM.as (H' := Gs [⟨.slice (some ⟨g4, 0, none⟩) 16 16, 5, 1, nums .u8 (List.replicate 16 (0 : Int))⟩] [Ft7_0, Ft2_0]) rfl) [] rfl rfl rfl).ungrp⟩
  · replace h := of_false h c8
    refine RunF.know 20 (b := false) (by kernel_rfl) c8 ?_
    refine RunF.go 4 [3, 24] (k' := (pin Go.Proofs.Tryd.f9 [1, 1, 1, 0, 0] 7)) (L' := [(3, vt7_0), (24, .bool (t7.2 != 0))]) (w' := W6) (by kernel_rfl) ?_
    rcases two ((t7.2 != 0)) with c9 | c9
    · replace h := of_true h c9
      refine RunF.know 24 (b := true) (by kernel_rfl) c9 ?_
      refine RunF.go 9 [0] (k' := (pl Go.Proofs.Tryd.f9 [1, 1, 1, 0, 1, 0, 1])) (L' := [(0, .bool false)]) (w' := W6) (by kernel_rfl) ?_
      obtain rfl := Option.some.inj h
      exact RunF.ret1 0 (.bool false) (fn := Go.Proofs.Tryd.f9) Go.Proofs.Tryd.func9 (by kernel_rfl) (by kernel_rfl) (by kernel_rfl) ⟨_, rfl, rfl, (Mem.pickF (hM.as (H' := Gs [⟨.slice (some ⟨g4, 0, none⟩) 16 16, 5, 1, nums .u8 (List.replicate 16 (0 : Int))⟩] [Ft7_0, Ft2_0]) rfl) [] rfl rfl rfl).ungrp⟩
    · replace h := of_false h c9
      refine RunF.know 24 (b := false) (by kernel_rfl) c9 ?_
      refine RunF.go 1 [3, 24, 25] (k' := (pin Go.Proofs.Tryd.f9 [1, 1, 1, 0, 0] 8)) (L' := [(3, vt7_0), (24, .bool false), (25, vt7_0)]) (w' := W6) (by kernel_rfl) ?_
      rcases two (t7.1.isSome) with c10 | c10
      · replace h := of_true h c10
        obtain ⟨s11, hx_, h⟩ := Option.bind_eq_some_iff.mp h
        have hps11 := rOpt.some hRt7_0 hx_
        obtain ⟨g12, _, rfl, hco13, co13_0, _, rfl, hlo13_0, hqo13_0, ⟨Ao13_1, co13_1, cso13_1, rfl, hro13_1, hqo13_1⟩⟩ := id hps11
        refine RunF.go 8 [3, 29] (k' := (pin Go.Proofs.Tryd.f9 [1, 1, 1, 1, 0] 1)) (L' := [(3, .pointer (some ⟨g12, 0, none⟩)), (29, .pointer (some ⟨g12, 0, none⟩))]) (w' := W6) (by kernel_rfl) ?_
        obtain ⟨W14, hD, hM', hB_⟩ := mk_does (P := Go.Proofs.Tryd.prog) (n := 65) (k := (pin Go.Proofs.Tryd.f9 [1, 1, 1, 1, 0] 1)) (L := [(3, .pointer (some ⟨g12, 0, none⟩)), (29, .pointer (some ⟨g12, 0, none⟩))]) (d := some 30) (e := 5) (z := .int .u8 0) (l := 16) (c := 16) (k2 := (pin Go.Proofs.Tryd.f9 [1, 1, 1, 1, 0] 2)) (by kernel_rfl) (by omega) (by omega) (by omega) hM
        rw [rep_nums] at hM'
        refine RunF.does hD ?_
        replace hM := hM'; clear hD hM'
        generalize W6.heap.size = g15 at hM ⊢
        obtain ⟨t18, ht18, h⟩ := Option.bind_eq_some_iff.mp h
        refine RunF.call (d := some 31) (g := 21) (args := #[.pointer (some ⟨g12, 0, none⟩), .slice (some ⟨g15, 0, none⟩) 16 16, .bool false]) (k2 := (pin Go.Proofs.Tryd.f9 [1, 1, 1, 1, 0] 3)) (by kernel_rfl) (aria_Aria_Block.calls k (.pointer (some ⟨g12, 0, none⟩)) (Oks Ft7_0) s11 (some ⟨g15, 0, none⟩) 16 16 (List.replicate 16 (0 : Int)) false t18 _ (hM.rd 0 rfl) hps11 (fun _ hb_ => ((Mem.oks (hM.as (H' := Gs [⟨.slice (some ⟨g15, 0, none⟩) 16 16, 5, 1, nums .u8 (List.replicate 16 (0 : Int))⟩, ⟨.slice (some ⟨g4, 0, none⟩) 16 16, 5, 1, nums .u8 (List.replicate 16 (0 : Int))⟩] [Ft7_0, Ft2_0]) rfl) 0 rfl).kept hb_)) ht18) ?_
        rintro _ W17 ⟨A19, n20, c21, rfl, hM_⟩
        obtain rfl : t18.1.length = n20 := by have h_ := (hM_.rd 0 rfl).1; simpa [nums_length, bools_length, strs_length] using h_
        replace hM : Mem w W17 (Gs [⟨.slice A19 t18.1.length c21, 5, 1, nums .u8 t18.1⟩, ⟨.slice (some ⟨g15, 0, none⟩) 16 16, 5, 1, nums .u8 (List.replicate 16 (0 : Int))⟩, ⟨.slice (some ⟨g4, 0, none⟩) 16 16, 5, 1, nums .u8 (List.replicate 16 (0 : Int))⟩] [Ft7_0, Ft2_0]) := (Mem.callG (hM.as (H' := Gs [⟨.slice (some ⟨g15, 0, none⟩) 16 16, 5, 1, nums .u8 (List.replicate 16 (0 : Int))⟩, ⟨.slice (some ⟨g4, 0, none⟩) 16 16, 5, 1, nums .u8 (List.replicate 16 (0 : Int))⟩] [Ft7_0, Ft2_0]) rfl) hM_.grp).as rfl
        clear hM_ ht18
        refine RunF.go 10 [5, 6, 35, 36] (k' := (pin Go.Proofs.Tryd.f9 [1, 1, 1, 1, 1, 0] 2)) (L' := [(5, .slice A19 t18.1.length c21), (6, .int .i64 t18.2), (35, .pointer (some ⟨g12, 0, none⟩)), (36, .slice A19 t18.1.length c21)]) (w' := W17) (by kernel_rfl) ?_
        obtain ⟨t24, ht24, h⟩ := Option.bind_eq_some_iff.mp h
        refine RunF.call (d := some 37) (g := 21) (args := #[.pointer (some ⟨g12, 0, none⟩), .slice A19 t18.1.length c21, .bool true]) (k2 := (pin Go.Proofs.Tryd.f9 [1, 1, 1, 1, 1, 0] 3)) (by kernel_rfl) (aria_Aria_Block.calls k (.pointer (some ⟨g12, 0, none⟩)) (Oks Ft7_0) s11 A19 t18.1.length c21 t18.1 true t24 _ (hM.rd 0 rfl) hps11 (fun _ hb_ => ((Mem.oks (hM.as (H' := Gs [⟨.slice A19 t18.1.length c21, 5, 1, nums .u8 t18.1⟩, ⟨.slice (some ⟨g15, 0, none⟩) 16 16, 5, 1, nums .u8 (List.replicate 16 (0 : Int))⟩, ⟨.slice (some ⟨g4, 0, none⟩) 16 16, 5, 1, nums .u8 (List.replicate 16 (0 : Int))⟩] [Ft7_0, Ft2_0]) rfl) 0 rfl).kept hb_)) ht24) ?_
        rintro _ W23 ⟨A25, n26, c27, rfl, hM_⟩
        obtain rfl : t24.1.length = n26 := by have h_ := (hM_.rd 0 rfl).1; simpa [nums_length, bools_length, strs_length] using h_
        replace hM : Mem w W23 (Gs [⟨.slice A25 t24.1.length c27, 5, 1, nums .u8 t24.1⟩, ⟨.slice A19 t18.1.length c21, 5, 1, nums .u8 t18.1⟩, ⟨.slice (some ⟨g15, 0, none⟩) 16 16, 5, 1, nums .u8 (List.replicate 16 (0 : Int))⟩, ⟨.slice (some ⟨g4, 0, none⟩) 16 16, 5, 1, nums .u8 (List.replicate 16 (0 : Int))⟩] [Ft7_0, Ft2_0]) := (Mem.callG (hM.as (H' := Gs [⟨.slice A19 t18.1.length c21, 5, 1, nums .u8 t18.1⟩, ⟨.slice (some ⟨g15, 0, none⟩) 16 16, 5, 1, nums .u8 (List.replicate 16 (0 : Int))⟩, ⟨.slice (some ⟨g4, 0, none⟩) 16 16, 5, 1, nums .u8 (List.replicate 16 (0 : Int))⟩] [Ft7_0, Ft2_0]) rfl) hM_.grp).as rfl
        clear hM_ ht24
        refine RunF.go 7 [5, 6, 7, 8] (k' := (pl Go.Proofs.Tryd.f9 [1, 1, 1, 1, 1, 1, 0])) (L' := [(5, .slice A19 t18.1.length c21), (6, .int .i64 t18.2), (7, .slice A25 t24.1.length c27), (8, .int .i64 t24.2)]) (w' := W23) (by kernel_rfl) ?_
        refine RunF.draw (Still ({ W23 with drawn := W23.drawn + 1 } : World) []) (by kernel_rfl) (by kernel_rfl) ?_
        have hMd30 := hM.drew
        have hS := Still.refl ({ W23 with drawn := W23.drawn + 1 } : World) []
        generalize ({ W23 with drawn := W23.drawn + 1 } : World) = W29 at hMd30 hS ⊢
        replace hM := hMd30
        refine RunAny.y 0 (by kernel_rfl) (yl_pure (d := some 40) (v := .int .i64 t18.2) (k2 := [.inRegion (opsOf (pl Go.Proofs.Tryd.f9 [1, 1, 1, 1, 1, 1, 0])) []]) fun w => by kernel_rfl) (fun _ _ => trivial) hS ?_
        refine RunAny.y 1 (by kernel_rfl) (yl_pure (d := some 41) (v := .bool (t18.2 == 0)) (k2 := [.inRegion (opsOf (pl Go.Proofs.Tryd.f9 [1, 1, 1, 1, 1, 1, 0])) []]) fun w => by kernel_rfl) (fun _ _ => trivial) hS ?_
        refine RunAny.y 2 (by kernel_rfl) (yl_pure (d := some 42) (v := .bool (t18.2 == 0)) (k2 := [.inRegion (opsOf (pl Go.Proofs.Tryd.f9 [1, 1, 1, 1, 1, 1, 0])) []]) fun w => by kernel_rfl) (fun _ _ => trivial) hS ?_
        rcases two ((t18.2 == 0)) with c31 | c31
        · replace h := of_true h c31
          refine RunAny.know 42 (b := true) (by kernel_rfl) c31 ?_
          refine RunAny.y 3 (by kernel_rfl) (yl_pure (d := some 43) (v := .int .i64 t24.2) (k2 := [.inRegion (opsOf (pl Go.Proofs.Tryd.f9 [1, 1, 1, 1, 1, 1, 0])) []]) fun w => by kernel_rfl) (fun _ _ => trivial) hS ?_
          refine RunAny.y 4 (by kernel_rfl) (yl_pure (d := some 44) (v := .bool (t24.2 == 0)) (k2 := [.inRegion (opsOf (pl Go.Proofs.Tryd.f9 [1, 1, 1, 1, 1, 1, 0])) []]) fun w => by kernel_rfl) (fun _ _ => trivial) hS ?_
          refine RunAny.y 5 (by kernel_rfl) (yl_pure (d := some 45) (v := .bool (t24.2 == 0)) (k2 := [.inRegion (opsOf (pl Go.Proofs.Tryd.f9 [1, 1, 1, 1, 1, 1, 0])) []]) fun w => by kernel_rfl) (fun _ _ => trivial) hS ?_
          refine RunAny.y 6 (by kernel_rfl) (yl_pure (d := some 46) (v := .bool (t24.2 == 0)) (k2 := [.inRegion (opsOf (pl Go.Proofs.Tryd.f9 [1, 1, 1, 1, 1, 1, 0])) []]) fun w => by kernel_rfl) (fun _ _ => trivial) hS ?_
          rcases two ((t24.2 == 0)) with c32 | c32
          · replace h := of_true h c32
            refine RunAny.know 46 (b := true) (by kernel_rfl) c32 ?_
            refine RunAny.y 7 (by kernel_rfl) (yl_pure (d := some 47) (v := .slice A19 t18.1.length c21) (k2 := [.inRegion (opsOf (pl Go.Proofs.Tryd.f9 [1, 1, 1, 1, 1, 1, 0])) []]) fun w => by kernel_rfl) (fun _ _ => trivial) hS ?_
            refine RunAny.y 8 (by kernel_rfl) (yl_pure (d := some 48) (v := .int .i64 (t18.1.length : Int)) (k2 := [.inRegion (opsOf (pl Go.Proofs.Tryd.f9 [1, 1, 1, 1, 1, 1, 0])) []]) fun w => by kernel_rfl) (fun _ _ => trivial) hS ?_
            refine RunAny.y 9 (by kernel_rfl) (yl_pure (d := some 49) (v := .bool ((t18.1.length : Int) == 16)) (k2 := [.inRegion (opsOf (pl Go.Proofs.Tryd.f9 [1, 1, 1, 1, 1, 1, 0])) []]) fun w => by kernel_rfl) (fun _ _ => trivial) hS ?_
            refine RunAny.y 10 (by kernel_rfl) (yl_pure (d := some 50) (v := .bool ((t18.1.length : Int) == 16)) (k2 := [.inRegion (opsOf (pl Go.Proofs.Tryd.f9 [1, 1, 1, 1, 1, 1, 0])) []]) fun w => by kernel_rfl) (fun _ _ => trivial) hS ?_
            refine RunAny.y 11 (by kernel_rfl) (yl_pure (d := some 51) (v := .bool ((t18.1.length : Int) == 16)) (k2 := [.inRegion (opsOf (pl Go.Proofs.Tryd.f9 [1, 1, 1, 1, 1, 1, 0])) []]) fun w => by kernel_rfl) (fun _ _ => trivial) hS ?_
            rcases two (((t18.1.length : Int) == 16)) with c33 | c33
            · replace h := of_true h c33
              refine RunAny.know 51 (b := true) (by kernel_rfl) c33 ?_
              refine RunAny.y 12 (by kernel_rfl) (yl_pure (d := some 52) (v := .slice A19 t18.1.length c21) (k2 := [.inRegion (opsOf (pl Go.Proofs.Tryd.f9 [1, 1, 1, 1, 1, 1, 0])) []]) fun w => by kernel_rfl) (fun _ _ => trivial) hS ?_
              refine RunAny.y 13 (by kernel_rfl) (str_y (d := some 53) (A := A19) (m := t18.1.length) (c := c21) (k2 := [.inRegion (opsOf (pl Go.Proofs.Tryd.f9 [1, 1, 1, 1, 1, 1, 0])) []]) t18.1 (by kernel_rfl)) (fun _ hs => ((hM.rd 1 rfl).still hs (by simp))) hS ?_
              refine RunAny.y 14 (by kernel_rfl) (yl_pure (d := some 54) (v := .slice A25 t24.1.length c27) (k2 := [.inRegion (opsOf (pl Go.Proofs.Tryd.f9 [1, 1, 1, 1, 1, 1, 0])) []]) fun w => by kernel_rfl) (fun _ _ => trivial) hS ?_
              refine RunAny.y 15 (by kernel_rfl) (str_y (d := some 55) (A := A25) (m := t24.1.length) (c := c27) (k2 := [.inRegion (opsOf (pl Go.Proofs.Tryd.f9 [1, 1, 1, 1, 1, 1, 0])) []]) t24.1 (by kernel_rfl)) (fun _ hs => ((hM.rd 0 rfl).still hs (by simp))) hS ?_
              refine RunAny.y 16 (by kernel_rfl) (yl_pure (d := some 56) (v := .bool (!((strOf t18.1).toList == (strOf t24.1).toList))) (k2 := [.inRegion (opsOf (pl Go.Proofs.Tryd.f9 [1, 1, 1, 1, 1, 1, 0])) []]) fun w => by kernel_rfl) (fun _ _ => trivial) hS ?_
              refine RunAny.y 17 (by kernel_rfl) (yl_pure (d := some 57) (v := .bool (!((strOf t18.1).toList == (strOf t24.1).toList))) (k2 := [.inRegion (opsOf (pl Go.Proofs.Tryd.f9 [1, 1, 1, 1, 1, 1, 0])) []]) fun w => by kernel_rfl) (fun _ _ => trivial) hS ?_
              refine RunAny.y 18 (by kernel_rfl) (yl_pure (d := some 58) (v := .bool (!((strOf t18.1).toList == (strOf t24.1).toList))) (k2 := [.inRegion (opsOf (pl Go.Proofs.Tryd.f9 [1, 1, 1, 1, 1, 1, 0])) []]) fun w => by kernel_rfl) (fun _ _ => trivial) hS ?_
              rcases two (!((strOf t18.1).toList == (strOf t24.1).toList)) with c34 | c34
              · replace h := of_true h c34
                refine RunAny.know 58 (b := true) (by kernel_rfl) c34 ?_
                refine RunAny.y 19 (by kernel_rfl) (yl_pure (d := some 59) (v := .slice A25 t24.1.length c27) (k2 := [.inRegion (opsOf (pl Go.Proofs.Tryd.f9 [1, 1, 1, 1, 1, 1, 0])) []]) fun w => by kernel_rfl) (fun _ _ => trivial) hS ?_
                refine RunAny.y 20 (by kernel_rfl) (str_y (d := some 60) (A := A25) (m := t24.1.length) (c := c27) (k2 := [.inRegion (opsOf (pl Go.Proofs.Tryd.f9 [1, 1, 1, 1, 1, 1, 0])) []]) t24.1 (by kernel_rfl)) (fun _ hs => ((hM.rd 0 rfl).still hs (by simp))) hS ?_
                obtain ⟨W35, hD, hM', hB_⟩ := mk_does (P := Go.Proofs.Tryd.prog) (n := 65) (k := (one (opsOf (pl Go.Proofs.Tryd.f9 [1, 1, 1, 1, 1, 1, 0])) 21)) (L := (upd (upd (known (upd (upd (upd (upd (upd (upd (upd (known (upd (upd (upd (upd (upd (known (upd (upd (upd (upd (known (upd (upd (upd [(5, .slice A19 t18.1.length c21), (6, .int .i64 t18.2), (7, .slice A25 t24.1.length c27), (8, .int .i64 t24.2)] (some 40) (.int .i64 t18.2)) (some 41) (.bool (t18.2 == 0))) (some 42) (.bool (t18.2 == 0))) 42 true) (some 43) (.int .i64 t24.2)) (some 44) (.bool (t24.2 == 0))) (some 45) (.bool (t24.2 == 0))) (some 46) (.bool (t24.2 == 0))) 46 true) (some 47) (.slice A19 t18.1.length c21)) (some 48) (.int .i64 (t18.1.length : Int))) (some 49) (.bool ((t18.1.length : Int) == 16))) (some 50) (.bool ((t18.1.length : Int) == 16))) (some 51) (.bool ((t18.1.length : Int) == 16))) 51 true) (some 52) (.slice A19 t18.1.length c21)) (some 53) (.string (strOf t18.1))) (some 54) (.slice A25 t24.1.length c27)) (some 55) (.string (strOf t24.1))) (some 56) (.bool (!((strOf t18.1).toList == (strOf t24.1).toList)))) (some 57) (.bool (!((strOf t18.1).toList == (strOf t24.1).toList)))) (some 58) (.bool (!((strOf t18.1).toList == (strOf t24.1).toList)))) 58 true) (some 59) (.slice A25 t24.1.length c27)) (some 60) (.string (strOf t24.1)))) (d := some 61) (e := 5) (z := .int .u8 0) (l := 16) (c := 16) (k2 := [.inRegion (opsOf (pl Go.Proofs.Tryd.f9 [1, 1, 1, 1, 1, 1, 0])) []]) (by kernel_rfl) (by omega) (by omega) (by omega) hM
                rw [rep_nums] at hM'
                refine RunAny.does 21 (by kernel_rfl) hD (hS.below hB_) ?_
                replace hS := hS.below hB_; clear hB_
                replace hM := hM'; clear hD hM'
                generalize W29.heap.size = g36 at hM ⊢
                refine RunAny.rebase hS ?_
                replace hS := Still.refl W35 []
                refine RunAny.y 22 (by kernel_rfl) (str_y (d := some 62) (A := (some ⟨g36, 0, none⟩)) (m := 16) (c := 16) (k2 := [.inRegion (opsOf (pl Go.Proofs.Tryd.f9 [1, 1, 1, 1, 1, 1, 0])) []]) (List.replicate 16 (0 : Int)) (by kernel_rfl)) (fun _ hs => ((hM.rd 0 rfl).still hs (by simp))) hS ?_
                refine RunAny.y 23 (by kernel_rfl) (yl_pure (d := some 63) (v := .bool ((strOf t24.1).toList == (strOf (List.replicate 16 (0 : Int))).toList)) (k2 := [.inRegion (opsOf (pl Go.Proofs.Tryd.f9 [1, 1, 1, 1, 1, 1, 0])) []]) fun w => by kernel_rfl) (fun _ _ => trivial) hS ?_
                refine RunAny.y 24 (by kernel_rfl) (yl_pure (d := some 64) (v := .bool ((strOf t24.1).toList == (strOf (List.replicate 16 (0 : Int))).toList)) (k2 := [.inRegion (opsOf (pl Go.Proofs.Tryd.f9 [1, 1, 1, 1, 1, 1, 0])) []]) fun w => by kernel_rfl) (fun _ _ => trivial) hS ?_
                refine RunAny.y 25 (by kernel_rfl) (yl_pure (d := some 0) (v := .bool ((strOf t24.1).toList == (strOf (List.replicate 16 (0 : Int))).toList)) (k2 := [.inRegion (opsOf (pl Go.Proofs.Tryd.f9 [1, 1, 1, 1, 1, 1, 0])) []]) fun w => by kernel_rfl) (fun _ _ => trivial) hS ?_
                refine RunAny.done (by kernel_rfl) ?_
                clear hS
                obtain rfl := Option.some.inj h
                exact RunF.ret1 0 (.bool ((strOf t24.1).toList == (strOf (List.replicate 16 (0 : Int))).toList)) (fn := Go.Proofs.Tryd.f9) Go.Proofs.Tryd.func9 (by kernel_rfl) (by kernel_rfl) (by kernel_rfl) ⟨_, rfl, rfl, (Mem.pickF (hM.as (H' := Gs [⟨.slice (some ⟨g36, 0, none⟩) 16 16, 5, 1, nums .u8 (List.replicate 16 (0 : Int))⟩, ⟨.slice A25 t24.1.length c27, 5, 1, nums .u8 t24.1⟩, ⟨.slice A19 t18.1.length c21, 5, 1, nums .u8 t18.1⟩, ⟨.slice (some ⟨g15, 0, none⟩) 16 16, 5, 1, nums .u8 (List.replicate 16 (0 : Int))⟩, ⟨.slice (some ⟨g4, 0, none⟩) 16 16, 5, 1, nums .u8 (List.replicate 16 (0 : Int))⟩] [Ft7_0, Ft2_0]) rfl) [] rfl rfl rfl).ungrp⟩
              · replace h := of_false h c34
                refine RunAny.know 58 (b := false) (by kernel_rfl) c34 ?_
                refine RunAny.off 19 (d := some 59) (by kernel_rfl) (by kernel_rfl) hS ?_
                refine RunAny.off 20 (d := some 60) (by kernel_rfl) (by kernel_rfl) hS ?_
                refine RunAny.off 21 (d := some 61) (by kernel_rfl) (by kernel_rfl) hS ?_
                refine RunAny.off 22 (d := some 62) (by kernel_rfl) (by kernel_rfl) hS ?_
                refine RunAny.off 23 (d := some 63) (by kernel_rfl) (by kernel_rfl) hS ?_
                refine RunAny.y 24 (by kernel_rfl) (yl_pure (d := some 64) (v := .bool false) (k2 := [.inRegion (opsOf (pl Go.Proofs.Tryd.f9 [1, 1, 1, 1, 1, 1, 0])) []]) fun w => by kernel_rfl) (fun _ _ => trivial) hS ?_
                refine RunAny.y 25 (by kernel_rfl) (yl_pure (d := some 0) (v := .bool false) (k2 := [.inRegion (opsOf (pl Go.Proofs.Tryd.f9 [1, 1, 1, 1, 1, 1, 0])) []]) fun w => by kernel_rfl) (fun _ _ => trivial) hS ?_
                refine RunAny.done (by kernel_rfl) ?_
                clear hS
                obtain rfl := Option.some.inj h
                exact RunF.ret1 0 (.bool false) (fn := Go.Proofs.Tryd.f9) Go.Proofs.Tryd.func9 (by kernel_rfl) (by kernel_rfl) (by kernel_rfl) ⟨_, rfl, rfl, (Mem.pickF (hM.as (H' := Gs [⟨.slice A25 t24.1.length c27, 5, 1, nums .u8 t24.1⟩, ⟨.slice A19 t18.1.length c21, 5, 1, nums .u8 t18.1⟩, ⟨.slice (some ⟨g15, 0, none⟩) 16 16, 5, 1, nums .u8 (List.replicate 16 (0 : Int))⟩, ⟨.slice (some ⟨g4, 0, none⟩) 16 16, 5, 1, nums .u8 (List.replicate 16 (0 : Int))⟩] [Ft7_0, Ft2_0]) rfl) [] rfl rfl rfl).ungrp⟩
            · replace h := of_false h c33
              refine RunAny.know 51 (b := false) (by kernel_rfl) c33 ?_
              refine RunAny.off 12 (d := some 52) (by kernel_rfl) (by kernel_rfl) hS ?_
              refine RunAny.off 13 (d := some 53) (by kernel_rfl) (by kernel_rfl) hS ?_
              refine RunAny.off 14 (d := some 54) (by kernel_rfl) (by kernel_rfl) hS ?_
              refine RunAny.off 15 (d := some 55) (by kernel_rfl) (by kernel_rfl) hS ?_
              refine RunAny.off 16 (d := some 56) (by kernel_rfl) (by kernel_rfl) hS ?_
              refine RunAny.y 17 (by kernel_rfl) (yl_pure (d := some 57) (v := .bool false) (k2 := [.inRegion (opsOf (pl Go.Proofs.Tryd.f9 [1, 1, 1, 1, 1, 1, 0])) []]) fun w => by kernel_rfl) (fun _ _ => trivial) hS ?_
              refine RunAny.y 18 (by kernel_rfl) (yl_pure (d := some 58) (v := .bool false) (k2 := [.inRegion (opsOf (pl Go.Proofs.Tryd.f9 [1, 1, 1, 1, 1, 1, 0])) []]) fun w => by kernel_rfl) (fun _ _ => trivial) hS ?_
              refine RunAny.off 19 (d := some 59) (by kernel_rfl) (by kernel_rfl) hS ?_
              refine RunAny.off 20 (d := some 60) (by kernel_rfl) (by kernel_rfl) hS ?_
              refine RunAny.off 21 (d := some 61) (by kernel_rfl) (by kernel_rfl) hS ?_
              refine RunAny.off 22 (d := some 62) (by kernel_rfl) (by kernel_rfl) hS ?_
              refine RunAny.off 23 (d := some 63) (by kernel_rfl) (by kernel_rfl) hS ?_
              refine RunAny.y 24 (by kernel_rfl) (yl_pure (d := some 64) (v := .bool false) (k2 := [.inRegion (opsOf (pl Go.Proofs.Tryd.f9 [1, 1, 1, 1, 1, 1, 0])) []]) fun w => by kernel_rfl) (fun _ _ => trivial) hS ?_
              refine RunAny.y 25 (by kernel_rfl) (yl_pure (d := some 0) (v := .bool false) (k2 := [.inRegion (opsOf (pl Go.Proofs.Tryd.f9 [1, 1, 1, 1, 1, 1, 0])) []]) fun w => by kernel_rfl) (fun _ _ => trivial) hS ?_
              refine RunAny.done (by kernel_rfl) ?_
              clear hS
              obtain rfl := Option.some.inj h
              exact RunF.ret1 0 (.bool false) (fn := Go.Proofs.Tryd.f9) Go.Proofs.Tryd.func9 (by kernel_rfl) (by kernel_rfl) (by kernel_rfl) ⟨_, rfl, rfl, (Mem.pickF (hM.as (H' := Gs [⟨.slice A25 t24.1.length c27, 5, 1, nums .u8 t24.1⟩, ⟨.slice A19 t18.1.length c21, 5, 1, nums .u8 t18.1⟩, ⟨.slice (some ⟨g15, 0, none⟩) 16 16, 5, 1, nums .u8 (List.replicate 16 (0 : Int))⟩, ⟨.slice (some ⟨g4, 0, none⟩) 16 16, 5, 1, nums .u8 (List.replicate 16 (0 : Int))⟩] [Ft7_0, Ft2_0]) rfl) [] rfl rfl rfl).ungrp⟩
          · replace h := of_false h c32
            refine RunAny.know 46 (b := false) (by kernel_rfl) c32 ?_
            refine RunAny.off 7 (d := some 47) (by kernel_rfl) (by kernel_rfl) hS ?_
            refine RunAny.off 8 (d := some 48) (by kernel_rfl) (by kernel_rfl) hS ?_
            refine RunAny.off 9 (d := some 49) (by kernel_rfl) (by kernel_rfl) hS ?_
            refine RunAny.y 10 (by kernel_rfl) (yl_pure (d := some 50) (v := .bool false) (k2 := [.inRegion (opsOf (pl Go.Proofs.Tryd.f9 [1, 1, 1, 1, 1, 1, 0])) []]) fun w => by kernel_rfl) (fun _ _ => trivial) hS ?_
            refine RunAny.y 11 (by kernel_rfl) (yl_pure (d := some 51) (v := .bool false) (k2 := [.inRegion (opsOf (pl Go.Proofs.Tryd.f9 [1, 1, 1, 1, 1, 1, 0])) []]) fun w => by kernel_rfl) (fun _ _ => trivial) hS ?_
            refine RunAny.off 12 (d := some 52) (by kernel_rfl) (by kernel_rfl) hS ?_
            refine RunAny.off 13 (d := some 53) (by kernel_rfl) (by kernel_rfl) hS ?_
            refine RunAny.off 14 (d := some 54) (by kernel_rfl) (by kernel_rfl) hS ?_
            refine RunAny.off 15 (d := some 55) (by kernel_rfl) (by kernel_rfl) hS ?_
            refine RunAny.off 16 (d := some 56) (by kernel_rfl) (by kernel_rfl) hS ?_
            refine RunAny.y 17 (by kernel_rfl) (yl_pure (d := some 57) (v := .bool false) (k2 := [.inRegion (opsOf (pl Go.Proofs.Tryd.f9 [1, 1, 1, 1, 1, 1, 0])) []]) fun w => by kernel_rfl) (fun _ _ => trivial) hS ?_
            refine RunAny.y 18 (by kernel_rfl) (yl_pure (d := some 58) (v := .bool false) (k2 := [.inRegion (opsOf (pl Go.Proofs.Tryd.f9 [1, 1, 1, 1, 1, 1, 0])) []]) fun w => by kernel_rfl) (fun _ _ => trivial) hS ?_
            refine RunAny.off 19 (d := some 59) (by kernel_rfl) (by kernel_rfl) hS ?_
            refine RunAny.off 20 (d := some 60) (by kernel_rfl) (by kernel_rfl) hS ?_
            refine RunAny.off 21 (d := some 61) (by kernel_rfl) (by kernel_rfl) hS ?_
            refine RunAny.off 22 (d := some 62) (by kernel_rfl) (by kernel_rfl) hS ?_
            refine RunAny.off 23 (d := some 63) (by kernel_rfl) (by kernel_rfl) hS ?_
            refine RunAny.y 24 (by kernel_rfl) (yl_pure (d := some 64) (v := .bool false) (k2 := [.inRegion (opsOf (pl Go.Proofs.Tryd.f9 [1, 1, 1, 1, 1, 1, 0])) []]) fun w => by kernel_rfl) (fun _ _ => trivial) hS ?_
            refine RunAny.y 25 (by kernel_rfl) (yl_pure (d := some 0) (v := .bool false) (k2 := [.inRegion (opsOf (pl Go.Proofs.Tryd.f9 [1, 1, 1, 1, 1, 1, 0])) []]) fun w => by kernel_rfl) (fun _ _ => trivial) hS ?_
            refine RunAny.done (by kernel_rfl) ?_
            clear hS
            obtain rfl := Option.some.inj h
            exact RunF.ret1 0 (.bool false) (fn := Go.Proofs.Tryd.f9) Go.Proofs.Tryd.func9 (by kernel_rfl) (by kernel_rfl) (by kernel_rfl) ⟨_, rfl, rfl, (Mem.pickF (hM.as (H' := Gs [⟨.slice A25 t24.1.length c27, 5, 1, nums .u8 t24.1⟩, ⟨.slice A19 t18.1.length c21, 5, 1, nums .u8 t18.1⟩, ⟨.slice (some ⟨g15, 0, none⟩) 16 16, 5, 1, nums .u8 (List.replicate 16 (0 : Int))⟩, ⟨.slice (some ⟨g4, 0, none⟩) 16 16, 5, 1, nums .u8 (List.replicate 16 (0 : Int))⟩] [Ft7_0, Ft2_0]) rfl) [] rfl rfl rfl).ungrp⟩
        · replace h := of_false h c31
          refine RunAny.know 42 (b := false) (by kernel_rfl) c31 ?_
          refine RunAny.off 3 (d := some 43) (by kernel_rfl) (by kernel_rfl) hS ?_
          refine RunAny.off 4 (d := some 44) (by kernel_rfl) (by kernel_rfl) hS ?_
          refine RunAny.y 5 (by kernel_rfl) (yl_pure (d := some 45) (v := .bool false) (k2 := [.inRegion (opsOf (pl Go.Proofs.Tryd.f9 [1, 1, 1, 1, 1, 1, 0])) []]) fun w => by kernel_rfl) (fun _ _ => trivial) hS ?_
          refine RunAny.y 6 (by kernel_rfl) (yl_pure (d := some 46) (v := .bool false) (k2 := [.inRegion (opsOf (pl Go.Proofs.Tryd.f9 [1, 1, 1, 1, 1, 1, 0])) []]) fun w => by kernel_rfl) (fun _ _ => trivial) hS ?_
          refine RunAny.off 7 (d := some 47) (by kernel_rfl) (by kernel_rfl) hS ?_
          refine RunAny.off 8 (d := some 48) (by kernel_rfl) (by kernel_rfl) hS ?_
          refine RunAny.off 9 (d := some 49) (by kernel_rfl) (by kernel_rfl) hS ?_
          refine RunAny.y 10 (by kernel_rfl) (yl_pure (d := some 50) (v := .bool false) (k2 := [.inRegion (opsOf (pl Go.Proofs.Tryd.f9 [1, 1, 1, 1, 1, 1, 0])) []]) fun w => by kernel_rfl) (fun _ _ => trivial) hS ?_
          refine RunAny.y 11 (by kernel_rfl) (yl_pure (d := some 51) (v := .bool false) (k2 := [.inRegion (opsOf (pl Go.Proofs.Tryd.f9 [1, 1, 1, 1, 1, 1, 0])) []]) fun w => by kernel_rfl) (fun _ _ => trivial) hS ?_
          refine RunAny.off 12 (d := some 52) (by kernel_rfl) (by kernel_rfl) hS ?_
          refine RunAny.off 13 (d := some 53) (by kernel_rfl) (by kernel_rfl) hS ?_
          refine RunAny.off 14 (d := some 54) (by kernel_rfl) (by kernel_rfl) hS ?_
          refine RunAny.off 15 (d := some 55) (by kernel_rfl) (by kernel_rfl) hS ?_
          refine RunAny.off 16 (d := some 56) (by kernel_rfl) (by kernel_rfl) hS ?_
          refine RunAny.y 17 (by kernel_rfl) (yl_pure (d := some 57) (v := .bool false) (k2 := [.inRegion (opsOf (pl Go.Proofs.Tryd.f9 [1, 1, 1, 1, 1, 1, 0])) []]) fun w => by kernel_rfl) (fun _ _ => trivial) hS ?_
          refine RunAny.y 18 (by kernel_rfl) (yl_pure (d := some 58) (v := .bool false) (k2 := [.inRegion (opsOf (pl Go.Proofs.Tryd.f9 [1, 1, 1, 1, 1, 1, 0])) []]) fun w => by kernel_rfl) (fun _ _ => trivial) hS ?_
          refine RunAny.off 19 (d := some 59) (by kernel_rfl) (by kernel_rfl) hS ?_
          refine RunAny.off 20 (d := some 60) (by kernel_rfl) (by kernel_rfl) hS ?_
          refine RunAny.off 21 (d := some 61) (by kernel_rfl) (by kernel_rfl) hS ?_
          refine RunAny.off 22 (d := some 62) (by kernel_rfl) (by kernel_rfl) hS ?_
          refine RunAny.off 23 (d := some 63) (by kernel_rfl) (by kernel_rfl) hS ?_
          refine RunAny.y 24 (by kernel_rfl) (yl_pure (d := some 64) (v := .bool false) (k2 := [.inRegion (opsOf (pl Go.Proofs.Tryd.f9 [1, 1, 1, 1, 1, 1, 0])) []]) fun w => by kernel_rfl) (fun _ _ => trivial) hS ?_
          refine RunAny.y 25 (by kernel_rfl) (yl_pure (d := some 0) (v := .bool false) (k2 := [.inRegion (opsOf (pl Go.Proofs.Tryd.f9 [1, 1, 1, 1, 1, 1, 0])) []]) fun w => by kernel_rfl) (fun _ _ => trivial) hS ?_
          refine RunAny.done (by kernel_rfl) ?_
          clear hS
          obtain rfl := Option.some.inj h
          exact RunF.ret1 0 (.bool false) (fn := Go.Proofs.Tryd.f9) Go.Proofs.Tryd.func9 (by kernel_rfl) (by kernel_rfl) (by kernel_rfl) ⟨_, rfl, rfl, (Mem.pickF (hM.as (H' := Gs [⟨.slice A25 t24.1.length c27, 5, 1, nums .u8 t24.1⟩, ⟨.slice A19 t18.1.length c21, 5, 1, nums .u8 t18.1⟩, ⟨.slice (some ⟨g15, 0, none⟩) 16 16, 5, 1, nums .u8 (List.replicate 16 (0 : Int))⟩, ⟨.slice (some ⟨g4, 0, none⟩) 16 16, 5, 1, nums .u8 (List.replicate 16 (0 : Int))⟩] [Ft7_0, Ft2_0]) rfl) [] rfl rfl rfl).ungrp⟩
      · replace h := of_false h c10
        obtain rfl := rOpt.none hRt7_0 c10
        refine RunF.go 8 [0] (k' := (pl Go.Proofs.Tryd.f9 [1, 1, 1, 0, 1, 0, 1])) (L' := [(0, .bool false)]) (w' := W6) (by kernel_rfl) ?_
        obtain rfl := Option.some.inj h
        exact RunF.ret1 0 (.bool false) (fn := Go.Proofs.Tryd.f9) Go.Proofs.Tryd.func9 (by kernel_rfl) (by kernel_rfl) (by kernel_rfl) ⟨_, rfl, rfl, (Mem.pickF (hM.as (H' := Gs [⟨.slice (some ⟨g4, 0, none⟩) 16 16, 5, 1, nums .u8 (List.replicate 16 (0 : Int))⟩] [Ft7_0, Ft2_0]) rfl) [] rfl rfl rfl).ungrp⟩

/-! ### scrim/scrimlaw10.within: function 12 -/
def scrimlaw10_within.f (k : Nat) (a0 : Int) (a1 : Int) : Option (Int) := if (decide (a1 = 0)) = true then (none) else (if (decide ((Int.tmod a0 a1) < 0)) = true then (some (I64 ((Int.tmod a0 a1) + a1))) else (some (Int.tmod a0 a1)))
set_option maxRecDepth 100000 in
theorem scrimlaw10_within.calls (k : Nat) (a0 : Int) (a1 : Int) (r : Int) (w : World) (h : scrimlaw10_within.f k a0 a1 = some r) :
    Calls Go.Proofs.Tryd.prog 12 #[.int .i64 a0, .int .i64 a1] w (Ret fun v w' => v = .int .i64 r ∧ Mem w w' []) := by
  unfold scrimlaw10_within.f at h
  refine calls_of [.int .i64 a0, .int .i64 a1] (fn := Go.Proofs.Tryd.f12) Go.Proofs.Tryd.func12 (by kernel_rfl) (by kernel_rfl) ?_
  have hM := Mem.refl w
  refine RunF.go 8 [1, 6, 7] (k' := (pin Go.Proofs.Tryd.f12 [1, 0] 2)) (L' := [(1, .int .i64 a1), (6, .int .i64 a0), (7, .int .i64 a1)]) (w' := w) (by kernel_rfl) ?_
  rcases two (decide (a1 = 0)) with c1 | c1
  · replace h := of_true h c1
    cases h
  · replace h := of_false h c1
    refine RunF.y (div_y (d := some 8) (b := false) (kd := .i64) (x := a0) (y := a1) (k2 := (pin Go.Proofs.Tryd.f12 [1, 0] 3)) (by kernel_rfl) c1) trivial ?_
    refine RunF.go 8 [1, 5, 10] (k' := (pl Go.Proofs.Tryd.f12 [1, 1, 0, 1])) (L' := [(1, .int .i64 a1), (5, .int .i64 (Int.tmod a0 a1)), (10, .bool (decide ((Int.tmod a0 a1) < 0)))]) (w' := w) (by kernel_rfl) ?_
    rcases two (decide ((Int.tmod a0 a1) < 0)) with c2 | c2
    · replace h := of_true h c2
      refine RunF.know 10 (b := true) (by kernel_rfl) c2 ?_
      refine RunF.go 12 [4] (k' := (pl Go.Proofs.Tryd.f12 [1, 1, 1, 1])) (L' := [(4, .int .i64 (I64 ((Int.tmod a0 a1) + a1)))]) (w' := w) (by kernel_rfl) ?_
      obtain rfl := Option.some.inj h
      exact RunF.ret1 4 (.int .i64 (I64 ((Int.tmod a0 a1) + a1))) (fn := Go.Proofs.Tryd.f12) Go.Proofs.Tryd.func12 (by kernel_rfl) (by kernel_rfl) (by kernel_rfl) ⟨_, rfl, rfl, (hM.pick [] rfl rfl)⟩
    · replace h := of_false h c2
      refine RunF.know 10 (b := false) (by kernel_rfl) c2 ?_
      refine RunF.go 7 [4] (k' := (pl Go.Proofs.Tryd.f12 [1, 1, 1, 1])) (L' := [(4, .int .i64 (Int.tmod a0 a1))]) (w' := w) (by kernel_rfl) ?_
      obtain rfl := Option.some.inj h
      exact RunF.ret1 4 (.int .i64 (Int.tmod a0 a1)) (fn := Go.Proofs.Tryd.f12) Go.Proofs.Tryd.func12 (by kernel_rfl) (by kernel_rfl) (by kernel_rfl) ⟨_, rfl, rfl, (hM.pick [] rfl rfl)⟩

/-! ### scrim/scrimlaw10.AriaOne: function 4 -/
def scrimlaw10_AriaOne.l0 : Nat → Int → (List Int × Bool) → Int → Int → Option (Bool)
  | 0, _, _, _, _ => none
  | k + 1, a1, t14, x9_0, x10_0 => if (decide (x10_0 < (t14.1.length : Int))) = true then (if (decide (0 ≤ x10_0)) = true then (if (decide (x10_0 < (t14.1.length : Int))) = true then (if ((rd t14.1 x10_0) == a1) = true then (if (a1 != 0) = true then (scrimlaw10_AriaOne.l0 k a1 t14 (I64 (x9_0 + 1)) (I64 (x10_0 + 1))) else (if (decide (0 ≤ x10_0)) = true then (if (decide (x10_0 < (t14.1.length : Int))) = true then (if ((rd t14.1 x10_0) != 0) = true then (some false) else (scrimlaw10_AriaOne.l0 k a1 t14 x9_0 (I64 (x10_0 + 1)))) else (none)) else (none))) else (if (decide (0 ≤ x10_0)) = true then (if (decide (x10_0 < (t14.1.length : Int))) = true then (if ((rd t14.1 x10_0) != 0) = true then (some false) else (scrimlaw10_AriaOne.l0 k a1 t14 x9_0 (I64 (x10_0 + 1)))) else (none)) else (none))) else (none)) else (none)) else (if t14.2 = true then (if ((t14.1.length : Int) == 16) = true then (if (a1 == 0) = true then (some true) else (some (x9_0 == 7))) else (some false)) else (some false))
def scrimlaw10_AriaOne.f (k : Nat) (a0 : Int) (a1 : Int) : Option (Bool) := (scrimlaw10_known.f k).bind fun t2 => (if (!t2) = true then (some false) else ((scrimlaw10_within.f k a0 16).bind fun t8 => (if (decide (0 ≤ t8)) = true then (if (decide (t8 < (16 : Int))) = true then ((aria_Mix.f k ((List.replicate 16 (0 : Int)).set (t8 : Int).toNat a1)).bind fun t14 => (scrimlaw10_AriaOne.l0 k a1 t14 0 0)) else (none)) else (none))))
set_option maxRecDepth 100000 in
set_option maxHeartbeats 8000000 in
theorem scrimlaw10_AriaOne.calls (k : Nat) (a0 : Int) (a1 : Int) (r : Bool) (w : World) (hG0 : Rg w 0 (nums .u8 [1, 2, 4, 8, 16, 32, 64, 128])) (h : scrimlaw10_AriaOne.f k a0 a1 = some r) :
    Calls Go.Proofs.Tryd.prog 4 #[.int .i64 a0, .int .u8 a1] w (Ret fun v w' => v = .bool r ∧ Mem w w' []) := by
  unfold scrimlaw10_AriaOne.f at h
  refine calls_of [.int .i64 a0, .int .u8 a1] (fn := Go.Proofs.Tryd.f4) Go.Proofs.Tryd.func4 (by kernel_rfl) (by kernel_rfl) ?_
  have hM := Mem.refl w
  refine RunF.go 7 [0, 1] (k' := (pin Go.Proofs.Tryd.f4 [1, 0, 0] 0)) (L' := [(0, .int .i64 a0), (1, .int .u8 a1)]) (w' := w) (by kernel_rfl) ?_
  obtain ⟨t2, ht2, h⟩ := Option.bind_eq_some_iff.mp h
  refine RunF.call (d := some 11) (g := 9) (args := #[]) (k2 := (pin Go.Proofs.Tryd.f4 [1, 0, 0] 1)) (by kernel_rfl) (scrimlaw10_known.calls k t2 _ (hG0.mono hM.below) ht2) ?_
  rintro _ W1 ⟨rfl, hM_⟩
  replace hM := hM.call hM_
  clear hM_ ht2
  refine RunF.go 2 [0, 1, 12] (k' := (pl Go.Proofs.Tryd.f4 [1, 0, 1])) (L' := [(0, .int .i64 a0), (1, .int .u8 a1), (12, .bool (!t2))]) (w' := W1) (by kernel_rfl) ?_
  rcases two (!t2) with c3 | c3
  · replace h := of_true h c3
    refine RunF.know 12 (b := true) (by kernel_rfl) c3 ?_
    refine RunF.go 5 [4] (k' := (pl Go.Proofs.Tryd.f4 [1, 0, 1, 0, 1])) (L' := [(4, .bool false)]) (w' := W1) (by kernel_rfl) ?_
    obtain rfl := Option.some.inj h
    exact RunF.ret1 4 (.bool false) (fn := Go.Proofs.Tryd.f4) Go.Proofs.Tryd.func4 (by kernel_rfl) (by kernel_rfl) (by kernel_rfl) ⟨_, rfl, rfl, (hM.pick [] rfl rfl)⟩
  · replace h := of_false h c3
    refine RunF.know 12 (b := false) (by kernel_rfl) c3 ?_
    refine RunF.go 4 [0, 1] (k' := (pin Go.Proofs.Tryd.f4 [1, 1, 0] 0)) (L' := [(0, .int .i64 a0), (1, .int .u8 a1)]) (w' := W1) (by kernel_rfl) ?_
    obtain ⟨W4, hD, hM', hB_⟩ := mk_does (P := Go.Proofs.Tryd.prog) (n := 62) (k := (pin Go.Proofs.Tryd.f4 [1, 1, 0] 0)) (L := [(0, .int .i64 a0), (1, .int .u8 a1)]) (d := some 13) (e := 5) (z := .int .u8 0) (l := 16) (c := 16) (k2 := (pin Go.Proofs.Tryd.f4 [1, 1, 0] 1)) (by kernel_rfl) (by omega) (by omega) (by omega) hM
    rw [rep_nums] at hM'
    refine RunF.does hD ?_
    replace hM := hM'; clear hD hM'
    generalize W1.heap.size = g5 at hM ⊢
    refine RunF.go 5 [1, 5, 14] (k' := (pin Go.Proofs.Tryd.f4 [1, 1, 1, 0] 1)) (L' := [(1, .int .u8 a1), (5, .slice (some ⟨g5, 0, none⟩) 16 16), (14, .int .i64 a0)]) (w' := W4) (by kernel_rfl) ?_
    obtain ⟨t8, ht8, h⟩ := Option.bind_eq_some_iff.mp h
    refine RunF.call (d := some 15) (g := 12) (args := #[.int .i64 a0, .int .i64 16]) (k2 := (pin Go.Proofs.Tryd.f4 [1, 1, 1, 0] 2)) (by kernel_rfl) (scrimlaw10_within.calls k a0 16 t8 _ ht8) ?_
    rintro _ W7 ⟨rfl, hM_⟩
    replace hM := hM.call hM_
    clear hM_ ht8
    refine RunF.go 7 [1, 5, 16, 17, 18] (k' := (pin Go.Proofs.Tryd.f4 [1, 1, 1, 1, 0] 3)) (L' := [(1, .int .u8 a1), (5, .slice (some ⟨g5, 0, none⟩) 16 16), (16, .slice (some ⟨g5, 0, none⟩) 16 16), (17, .int .i64 t8), (18, .int .u8 a1)]) (w' := W7) (by kernel_rfl) ?_
    rcases two (decide (0 ≤ t8)) with c10 | c10
    · replace h := of_true h c10
      rcases two (decide (t8 < (16 : Int))) with c11 | c11
      · replace h := of_true h c11
        obtain ⟨q9, hAq9, hcq9, hfq9, hlq9⟩ := hM.num_at 0 rfl (i := t8) (of_decide_eq_true c10) (by have h_ := of_decide_eq_true c11; omega)
        refine RunF.y (idx_own (d := some 19) (A := (some ⟨g5, 0, none⟩)) (m := 16) (i := t8) (k2 := (pin Go.Proofs.Tryd.f4 [1, 1, 1, 1, 0] 4)) (by kernel_rfl) (of_decide_eq_true c10) (by have h_ := of_decide_eq_true c11; omega) hAq9) trivial ?_
        obtain ⟨g_, hA_, hc_, hf_, hl_⟩ := hM.num_at 0 rfl (i := t8) (of_decide_eq_true c10) (by have h_ := of_decide_eq_true c11; omega)
        obtain rfl : q9 = g_ := by rw [hAq9] at hA_; injection hA_ with hA_; injection hA_
        refine RunF.doesU (st_u (p := (⟨q9, (t8 : Int).toNat, none⟩ : Addr)) (v := .int .u8 a1) (k2 := (pin Go.Proofs.Tryd.f4 [1, 1, 1, 1, 0] 5)) (by kernel_rfl) hc_ hf_) ?_
        replace hM : Mem w (W7.setCell (⟨q9, (t8 : Int).toNat, none⟩ : Addr) (.int .u8 a1)) [⟨.slice (some ⟨g5, 0, none⟩) 16 16, 5, 1, nums .u8 ((List.replicate 16 (0 : Int)).set (t8 : Int).toNat a1)⟩] := Mem.put_num [] [] (hM.pick [0] rfl rfl) hAq9 _ hl_ _
        generalize W7.setCell (⟨q9, (t8 : Int).toNat, none⟩ : Addr) (.int .u8 a1) = W12 at hM ⊢
        clear hc_ hf_ hl_ hA_ hcq9
        refine RunF.go 4 [1, 21] (k' := (pin Go.Proofs.Tryd.f4 [1, 1, 1, 1, 1, 0] 1)) (L' := [(1, .int .u8 a1), (21, .slice (some ⟨g5, 0, none⟩) 16 16)]) (w' := W12) (by kernel_rfl) ?_
        obtain ⟨t14, ht14, h⟩ := Option.bind_eq_some_iff.mp h
        refine RunF.call (d := some 22) (g := 11) (args := #[.slice (some ⟨g5, 0, none⟩) 16 16]) (k2 := (pin Go.Proofs.Tryd.f4 [1, 1, 1, 1, 1, 0] 2)) (by kernel_rfl) (aria_Mix.calls k (some ⟨g5, 0, none⟩) 16 16 ((List.replicate 16 (0 : Int)).set (t8 : Int).toNat a1) t14 _ (hM.rd 0 rfl) ht14) ?_
        rintro _ W13 ⟨A15, n16, c17, rfl, hM_⟩
        obtain rfl : t14.1.length = n16 := by have h_ := (hM_.rd 0 rfl).1; simpa [nums_length, bools_length, strs_length] using h_
        replace hM := hM.call hM_
        clear hM_ ht14
        refine RunF.go 17 [1, 7, 8, 9, 10] (k' := (pl Go.Proofs.Tryd.f4 [1, 1, 1, 1, 1, 1, 1, 0, 1, 0, 0])) (L' := [(1, .int .u8 a1), (7, .slice A15 t14.1.length c17), (8, .bool t14.2), (9, .int .i64 0), (10, .int .i64 0)]) (w' := W13) (by kernel_rfl) ?_
        have l0 : ∀ (k_ : Nat), k_ ≤ k → ∀ (x9_0 : Int) (x10_0 : Int) (W : World) (hM : Mem w W [⟨.slice A15 t14.1.length c17, 5, 1, nums .u8 t14.1⟩]) (h : scrimlaw10_AriaOne.l0 k_ a1 t14 x9_0 x10_0 = some r), RunF Go.Proofs.Tryd.prog (Ret fun v w' => v = .bool r ∧ Mem w w' []) 4 (pl Go.Proofs.Tryd.f4 [1, 1, 1, 1, 1, 1, 1, 0, 1, 0, 0]) 62 [(1, .int .u8 a1), (7, .slice A15 t14.1.length c17), (8, .bool t14.2), (9, .int .i64 x9_0), (10, .int .i64 x10_0)] W := by
          intro k_
          induction k_ using Nat.strongRecOn with
          | _ k_ ih0 =>
            intro hk x9_0 x10_0 W hM h
            cases k_ with
            | zero => exact absurd h (by simp [scrimlaw10_AriaOne.l0])
            | succ k =>
              simp only [scrimlaw10_AriaOne.l0] at h
              replace ih0 : ∀ m, m ≤ k → _ := fun m hm => ih0 m (by omega) (by omega)
              refine RunF.go 8 [1, 7, 8, 9, 10, 28] (k' := (pl Go.Proofs.Tryd.f4 [1, 1, 1, 1, 1, 1, 1, 0, 1, 0, 0, 0, 1])) (L' := [(1, .int .u8 a1), (7, .slice A15 t14.1.length c17), (8, .bool t14.2), (9, .int .i64 x9_0), (10, .int .i64 x10_0), (28, .bool (decide (x10_0 < (t14.1.length : Int))))]) (w' := W) (by kernel_rfl) ?_
              rcases two (decide (x10_0 < (t14.1.length : Int))) with c19 | c19
              · replace h := of_true h c19
                refine RunF.know 28 (b := true) (by kernel_rfl) c19 ?_
                refine RunF.go 8 [1, 7, 8, 9, 10, 31, 32] (k' := (pin Go.Proofs.Tryd.f4 [1, 1, 1, 1, 1, 1, 1, 0, 1, 0, 0, 1, 0, 0, 0] 2)) (L' := [(1, .int .u8 a1), (7, .slice A15 t14.1.length c17), (8, .bool t14.2), (9, .int .i64 x9_0), (10, .int .i64 x10_0), (31, .slice A15 t14.1.length c17), (32, .int .i64 x10_0)]) (w' := W) (by kernel_rfl) ?_
                rcases two (decide (0 ≤ x10_0)) with c21 | c21
                · replace h := of_true h c21
                  rcases two (decide (x10_0 < (t14.1.length : Int))) with c22 | c22
                  · replace h := of_true h c22
                    obtain ⟨q20, hAq20, hcq20, hfq20, hlq20⟩ := hM.num_at 0 rfl (i := x10_0) (of_decide_eq_true c21) (by have h_ := of_decide_eq_true c22; omega)
                    refine RunF.y (idx_own (d := some 33) (A := A15) (m := t14.1.length) (i := x10_0) (k2 := (pin Go.Proofs.Tryd.f4 [1, 1, 1, 1, 1, 1, 1, 0, 1, 0, 0, 1, 0, 0, 0] 3)) (by kernel_rfl) (of_decide_eq_true c21) (by have h_ := of_decide_eq_true c22; omega) hAq20) trivial ?_
                    refine RunF.y (ld_y (d := some 34) (p := ⟨q20, (x10_0 : Int).toNat, none⟩) (k2 := (pin Go.Proofs.Tryd.f4 [1, 1, 1, 1, 1, 1, 1, 0, 1, 0, 0, 1, 0, 0, 0] 4)) (.int .u8 (rd t14.1 x10_0)) (by kernel_rfl)) hcq20 ?_
                    refine RunF.go 3 [1, 7, 8, 9, 10, 37] (k' := (pin Go.Proofs.Tryd.f4 [1, 1, 1, 1, 1, 1, 1, 0, 1, 0, 0, 1, 0, 0, 0] 7)) (L' := [(1, .int .u8 a1), (7, .slice A15 t14.1.length c17), (8, .bool t14.2), (9, .int .i64 x9_0), (10, .int .i64 x10_0), (37, .bool ((rd t14.1 x10_0) == a1))]) (w' := W) (by kernel_rfl) ?_
                    rcases two (((rd t14.1 x10_0) == a1)) with c23 | c23
                    · replace h := of_true h c23
                      refine RunF.know 37 (b := true) (by kernel_rfl) c23 ?_
                      refine RunF.go 4 [1, 7, 8, 9, 10, 40] (k' := (pl Go.Proofs.Tryd.f4 [1, 1, 1, 1, 1, 1, 1, 0, 1, 0, 0, 1, 0, 0, 1])) (L' := [(1, .int .u8 a1), (7, .slice A15 t14.1.length c17), (8, .bool t14.2), (9, .int .i64 x9_0), (10, .int .i64 x10_0), (40, .bool (a1 != 0))]) (w' := W) (by kernel_rfl) ?_
                      rcases two ((a1 != 0)) with c24 | c24
                      · replace h := of_true h c24
                        refine RunF.know 40 (b := true) (by kernel_rfl) c24 ?_
                        refine RunF.go 13 [1, 7, 8, 9, 10] (k' := (pl Go.Proofs.Tryd.f4 [1, 1, 1, 1, 1, 1, 1, 0, 1, 0, 0])) (L' := [(1, .int .u8 a1), (7, .slice A15 t14.1.length c17), (8, .bool t14.2), (9, .int .i64 (I64 (x9_0 + 1))), (10, .int .i64 (I64 (x10_0 + 1)))]) (w' := W) (by kernel_rfl) ?_
                        exact ih0 k (by omega) (I64 (x9_0 + 1)) (I64 (x10_0 + 1)) _ (hM.pick [0] rfl rfl) h
                      · replace h := of_false h c24
                        refine RunF.know 40 (b := false) (by kernel_rfl) c24 ?_
                        refine RunF.go 5 [1, 7, 8, 9, 10, 43, 44] (k' := (pin Go.Proofs.Tryd.f4 [1, 1, 1, 1, 1, 1, 1, 0, 1, 0, 0, 1, 0, 0, 1, 1, 0] 2)) (L' := [(1, .int .u8 a1), (7, .slice A15 t14.1.length c17), (8, .bool t14.2), (9, .int .i64 x9_0), (10, .int .i64 x10_0), (43, .slice A15 t14.1.length c17), (44, .int .i64 x10_0)]) (w' := W) (by kernel_rfl) ?_
                        rcases two (decide (0 ≤ x10_0)) with c26 | c26
                        · replace h := of_true h c26
                          rcases two (decide (x10_0 < (t14.1.length : Int))) with c27 | c27
                          · replace h := of_true h c27
                            obtain ⟨q25, hAq25, hcq25, hfq25, hlq25⟩ := hM.num_at 0 rfl (i := x10_0) (of_decide_eq_true c26) (by have h_ := of_decide_eq_true c27; omega)
                            refine RunF.y (idx_own (d := some 45) (A := A15) (m := t14.1.length) (i := x10_0) (k2 := (pin Go.Proofs.Tryd.f4 [1, 1, 1, 1, 1, 1, 1, 0, 1, 0, 0, 1, 0, 0, 1, 1, 0] 3)) (by kernel_rfl) (of_decide_eq_true c26) (by have h_ := of_decide_eq_true c27; omega) hAq25) trivial ?_
                            refine RunF.y (ld_y (d := some 46) (p := ⟨q25, (x10_0 : Int).toNat, none⟩) (k2 := (pin Go.Proofs.Tryd.f4 [1, 1, 1, 1, 1, 1, 1, 0, 1, 0, 0, 1, 0, 0, 1, 1, 0] 4)) (.int .u8 (rd t14.1 x10_0)) (by kernel_rfl)) hcq25 ?_
                            refine RunF.go 2 [1, 7, 8, 9, 10, 47] (k' := (pl Go.Proofs.Tryd.f4 [1, 1, 1, 1, 1, 1, 1, 0, 1, 0, 0, 1, 0, 0, 1, 1, 1])) (L' := [(1, .int .u8 a1), (7, .slice A15 t14.1.length c17), (8, .bool t14.2), (9, .int .i64 x9_0), (10, .int .i64 x10_0), (47, .bool ((rd t14.1 x10_0) != 0))]) (w' := W) (by kernel_rfl) ?_
                            rcases two (((rd t14.1 x10_0) != 0)) with c28 | c28
                            · replace h := of_true h c28
                              refine RunF.know 47 (b := true) (by kernel_rfl) c28 ?_
                              refine RunF.go 5 [4] (k' := (pl Go.Proofs.Tryd.f4 [1, 1, 1, 1, 1, 1, 1, 0, 1, 0, 0, 1, 0, 0, 1, 1, 1, 0, 1])) (L' := [(4, .bool false)]) (w' := W) (by kernel_rfl) ?_
                              obtain rfl := Option.some.inj h
                              exact RunF.ret1 4 (.bool false) (fn := Go.Proofs.Tryd.f4) Go.Proofs.Tryd.func4 (by kernel_rfl) (by kernel_rfl) (by kernel_rfl) ⟨_, rfl, rfl, (hM.pick [] rfl rfl)⟩
                            · replace h := of_false h c28
                              refine RunF.know 47 (b := false) (by kernel_rfl) c28 ?_
                              refine RunF.go 9 [1, 7, 8, 9, 10] (k' := (pl Go.Proofs.Tryd.f4 [1, 1, 1, 1, 1, 1, 1, 0, 1, 0, 0])) (L' := [(1, .int .u8 a1), (7, .slice A15 t14.1.length c17), (8, .bool t14.2), (9, .int .i64 x9_0), (10, .int .i64 (I64 (x10_0 + 1)))]) (w' := W) (by kernel_rfl) ?_
                              exact ih0 k (by omega) x9_0 (I64 (x10_0 + 1)) _ (hM.pick [0] rfl rfl) h
                          · replace h := of_false h c27
                            cases h
                        · replace h := of_false h c26
                          cases h
                    · replace h := of_false h c23
                      refine RunF.know 37 (b := false) (by kernel_rfl) c23 ?_
                      refine RunF.go 9 [1, 7, 8, 9, 10, 43, 44] (k' := (pin Go.Proofs.Tryd.f4 [1, 1, 1, 1, 1, 1, 1, 0, 1, 0, 0, 1, 0, 0, 1, 1, 0] 2)) (L' := [(1, .int .u8 a1), (7, .slice A15 t14.1.length c17), (8, .bool t14.2), (9, .int .i64 x9_0), (10, .int .i64 x10_0), (43, .slice A15 t14.1.length c17), (44, .int .i64 x10_0)]) (w' := W) (by kernel_rfl) ?_
                      rcases two (decide (0 ≤ x10_0)) with c30 | c30
                      · replace h := of_true h c30
                        rcases two (decide (x10_0 < (t14.1.length : Int))) with c31 | c31
                        · replace h := of_true h c31
                          obtain ⟨q29, hAq29, hcq29, hfq29, hlq29⟩ := hM.num_at 0 rfl (i := x10_0) (of_decide_eq_true c30) (by have h_ := of_decide_eq_true c31; omega)
                          refine RunF.y (idx_own (d := some 45) (A := A15) (m := t14.1.length) (i := x10_0) (k2 := (pin Go.Proofs.Tryd.f4 [1, 1, 1, 1, 1, 1, 1, 0, 1, 0, 0, 1, 0, 0, 1, 1, 0] 3)) (by kernel_rfl) (of_decide_eq_true c30) (by have h_ := of_decide_eq_true c31; omega) hAq29) trivial ?_
                          refine RunF.y (ld_y (d := some 46) (p := ⟨q29, (x10_0 : Int).toNat, none⟩) (k2 := (pin Go.Proofs.Tryd.f4 [1, 1, 1, 1, 1, 1, 1, 0, 1, 0, 0, 1, 0, 0, 1, 1, 0] 4)) (.int .u8 (rd t14.1 x10_0)) (by kernel_rfl)) hcq29 ?_
                          refine RunF.go 2 [1, 7, 8, 9, 10, 47] (k' := (pl Go.Proofs.Tryd.f4 [1, 1, 1, 1, 1, 1, 1, 0, 1, 0, 0, 1, 0, 0, 1, 1, 1])) (L' := [(1, .int .u8 a1), (7, .slice A15 t14.1.length c17), (8, .bool t14.2), (9, .int .i64 x9_0), (10, .int .i64 x10_0), (47, .bool ((rd t14.1 x10_0) != 0))]) (w' := W) (by kernel_rfl) ?_
                          rcases two (((rd t14.1 x10_0) != 0)) with c32 | c32
                          · replace h := of_true h c32
                            refine RunF.know 47 (b := true) (by kernel_rfl) c32 ?_
                            refine RunF.go 5 [4] (k' := (pl Go.Proofs.Tryd.f4 [1, 1, 1, 1, 1, 1, 1, 0, 1, 0, 0, 1, 0, 0, 1, 1, 1, 0, 1])) (L' := [(4, .bool false)]) (w' := W) (by kernel_rfl) ?_
                            obtain rfl := Option.some.inj h
                            exact RunF.ret1 4 (.bool false) (fn := Go.Proofs.Tryd.f4) Go.Proofs.Tryd.func4 (by kernel_rfl) (by kernel_rfl) (by kernel_rfl) ⟨_, rfl, rfl, (hM.pick [] rfl rfl)⟩
                          · replace h := of_false h c32
                            refine RunF.know 47 (b := false) (by kernel_rfl) c32 ?_
                            refine RunF.go 9 [1, 7, 8, 9, 10] (k' := (pl Go.Proofs.Tryd.f4 [1, 1, 1, 1, 1, 1, 1, 0, 1, 0, 0])) (L' := [(1, .int .u8 a1), (7, .slice A15 t14.1.length c17), (8, .bool t14.2), (9, .int .i64 x9_0), (10, .int .i64 (I64 (x10_0 + 1)))]) (w' := W) (by kernel_rfl) ?_
                            exact ih0 k (by omega) x9_0 (I64 (x10_0 + 1)) _ (hM.pick [0] rfl rfl) h
                        · replace h := of_false h c31
                          cases h
                      · replace h := of_false h c30
                        cases h
                  · replace h := of_false h c22
                    cases h
                · replace h := of_false h c21
                  cases h
              · replace h := of_false h c19
                refine RunF.know 28 (b := false) (by kernel_rfl) c19 ?_
                refine RunF.go 6 [1, 7, 9, 49] (k' := (pin Go.Proofs.Tryd.f4 [1, 1, 1, 1, 1, 1, 1, 1, 0] 2)) (L' := [(1, .int .u8 a1), (7, .slice A15 t14.1.length c17), (9, .int .i64 x9_0), (49, .bool t14.2)]) (w' := W) (by kernel_rfl) ?_
                rcases two (t14.2) with c33 | c33
                · replace h := of_true h c33
                  refine RunF.know 49 (b := true) (by kernel_rfl) c33 ?_
                  refine RunF.go 5 [1, 9, 54] (k' := (pin Go.Proofs.Tryd.f4 [1, 1, 1, 1, 1, 1, 1, 1, 0] 7)) (L' := [(1, .int .u8 a1), (9, .int .i64 x9_0), (54, .bool ((t14.1.length : Int) == 16))]) (w' := W) (by kernel_rfl) ?_
                  rcases two (((t14.1.length : Int) == 16)) with c34 | c34
                  · replace h := of_true h c34
                    refine RunF.know 54 (b := true) (by kernel_rfl) c34 ?_
                    refine RunF.go 3 [9, 54, 57] (k' := (pin Go.Proofs.Tryd.f4 [1, 1, 1, 1, 1, 1, 1, 1, 0] 10)) (L' := [(9, .int .i64 x9_0), (54, .bool true), (57, .bool (a1 == 0))]) (w' := W) (by kernel_rfl) ?_
                    rcases two ((a1 == 0)) with c35 | c35
                    · replace h := of_true h c35
                      refine RunF.know 57 (b := true) (by kernel_rfl) c35 ?_
                      refine RunF.go 6 [4] (k' := (pl Go.Proofs.Tryd.f4 [1, 1, 1, 1, 1, 1, 1, 1, 1])) (L' := [(4, .bool true)]) (w' := W) (by kernel_rfl) ?_
                      obtain rfl := Option.some.inj h
                      exact RunF.ret1 4 (.bool true) (fn := Go.Proofs.Tryd.f4) Go.Proofs.Tryd.func4 (by kernel_rfl) (by kernel_rfl) (by kernel_rfl) ⟨_, rfl, rfl, (hM.pick [] rfl rfl)⟩
                    · replace h := of_false h c35
                      refine RunF.know 57 (b := false) (by kernel_rfl) c35 ?_
                      refine RunF.go 6 [4] (k' := (pl Go.Proofs.Tryd.f4 [1, 1, 1, 1, 1, 1, 1, 1, 1])) (L' := [(4, .bool (x9_0 == 7))]) (w' := W) (by kernel_rfl) ?_
                      obtain rfl := Option.some.inj h
                      exact RunF.ret1 4 (.bool (x9_0 == 7)) (fn := Go.Proofs.Tryd.f4) Go.Proofs.Tryd.func4 (by kernel_rfl) (by kernel_rfl) (by kernel_rfl) ⟨_, rfl, rfl, (hM.pick [] rfl rfl)⟩
                  · replace h := of_false h c34
                    refine RunF.know 54 (b := false) (by kernel_rfl) c34 ?_
                    refine RunF.go 9 [4] (k' := (pl Go.Proofs.Tryd.f4 [1, 1, 1, 1, 1, 1, 1, 1, 1])) (L' := [(4, .bool false)]) (w' := W) (by kernel_rfl) ?_
                    obtain rfl := Option.some.inj h
                    exact RunF.ret1 4 (.bool false) (fn := Go.Proofs.Tryd.f4) Go.Proofs.Tryd.func4 (by kernel_rfl) (by kernel_rfl) (by kernel_rfl) ⟨_, rfl, rfl, (hM.pick [] rfl rfl)⟩
                · replace h := of_false h c33
                  refine RunF.know 49 (b := false) (by kernel_rfl) c33 ?_
                  refine RunF.go 14 [4] (k' := (pl Go.Proofs.Tryd.f4 [1, 1, 1, 1, 1, 1, 1, 1, 1])) (L' := [(4, .bool false)]) (w' := W) (by kernel_rfl) ?_
                  obtain rfl := Option.some.inj h
                  exact RunF.ret1 4 (.bool false) (fn := Go.Proofs.Tryd.f4) Go.Proofs.Tryd.func4 (by kernel_rfl) (by kernel_rfl) (by kernel_rfl) ⟨_, rfl, rfl, (hM.pick [] rfl rfl)⟩
        exact l0 k (Nat.le_refl _) 0 0 _ (hM.pick [0] rfl rfl) h
      · replace h := of_false h c11
        cases h
    · replace h := of_false h c10
      cases h


end Go.Scr.S
