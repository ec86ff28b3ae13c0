/- The functions that the law AriaKeys reaches, as plain functions, and that each call answers so. -/
import Derived.Test.YtekkdjgcbkoepaaDoorProg
import Derived.Test.YtekkdjgcbkoepaaDoorFnAriaKeys1
set_option linter.unusedVariables false
set_option linter.unusedSimpArgs false
set_option linter.unnecessarySimpa false
namespace Go.Scr.S
open Go.RowKit (Below)
/-! ### scrim/scrimlaw10.known: function 9 -/
def scrimlaw10_known.f (k : Nat)  : Option (Bool) := (aria_New.f k ([] : List Int)).bind fun t2 => ((aria_New.f k (List.replicate 16 (0 : Int))).bind fun t7 => (if (t2.2 != 4) = true then (some false) else (if (t7.2 != 0) = true then (some false) else (if t7.1.isSome = true then ((t7.1).bind fun s11 => ((aria_Aria_Block.f k s11 (List.replicate 16 (0 : Int)) false).bind fun t18 => ((aria_Aria_Block.f k s11 t18.1 true).bind fun t24 => (if (t18.2 == 0) = true then (if (t24.2 == 0) = true then (if ((t18.1.length : Int) == 16) = true then (if (!((strOf t18.1).toList == (strOf t24.1).toList)) = true then (some ((strOf t24.1).toList == (strOf (List.replicate 16 (0 : Int))).toList)) else (some false)) else (some false)) else (some false)) else (some false))))) else (some false)))))
set_option maxRecDepth 100000 in
set_option maxHeartbeats 8000000 in
theorem scrimlaw10_known.calls (k : Nat)  (r : Bool) (w : World) (hG0 : Rg w 0 (nums .u8 [1, 2, 4, 8, 16, 32, 64, 128])) (h : scrimlaw10_known.f k = some r) :
    Calls Go.Proofs.Tryd.prog 9 #[] w (Ret fun v w' => v = .bool r ∧ Mem w w' []) := by
  unfold scrimlaw10_known.f at h
  refine calls_of [] (fn := Go.Proofs.Tryd.f9) Go.Proofs.Tryd.func9 (by kernel_rfl) (by kernel_rfl) ?_
  have hM := Mem.refl w
  refine RunF.go 6 [] (k' := (pin Go.Proofs.Tryd.f9 [1, 0] 0)) (L' := []) (w' := w) (by kernel_rfl) ?_
  obtain ⟨t2, ht2, h⟩ := Option.bind_eq_some_iff.mp h
  refine RunF.call (d := some 10) (g := 19) (args := #[.slice none 0 0]) (k2 := (pin Go.Proofs.Tryd.f9 [1, 0] 1)) (by kernel_rfl) (aria_New.calls k none 0 0 ([] : List Int) t2 _ (Rd.nil _ .u8) (hG0.mono hM.below) ht2) ?_
  rintro _ W1 ⟨vt2_0, Ft2_0, rfl, hRt2_0, hM_⟩
  replace hM : Mem w W1 (Gs [] [Ft2_0]) := (Mem.callG (hM.as (H' := Gs [] []) rfl) hM_).as rfl
  clear hM_ ht2
  refine RunF.go 8 [2] (k' := (pin Go.Proofs.Tryd.f9 [1, 1, 0] 0)) (L' := [(2, .int .i64 t2.2)]) (w' := W1) (by kernel_rfl) ?_
  obtain ⟨W3, hD, hM', hB_⟩ := mk_does (P := Go.Proofs.Tryd.prog) (n := 65) (k := (pin Go.Proofs.Tryd.f9 [1, 1, 0] 0)) (L := [(2, .int .i64 t2.2)]) (d := some 14) (e := 5) (z := .int .u8 0) (l := 16) (c := 16) (k2 := (pin Go.Proofs.Tryd.f9 [1, 1, 0] 1)) (by kernel_rfl) (by omega) (by omega) (by omega) hM
  rw [rep_nums] at hM'
  refine RunF.does hD ?_
  replace hM := hM'; clear hD hM'
  generalize W1.heap.size = g4 at hM ⊢
  obtain ⟨t7, ht7, h⟩ := Option.bind_eq_some_iff.mp h
  refine RunF.call (d := some 15) (g := 19) (args := #[.slice (some ⟨g4, 0, none⟩) 16 16]) (k2 := (pin Go.Proofs.Tryd.f9 [1, 1, 0] 2)) (by kernel_rfl) (aria_New.calls k (some ⟨g4, 0, none⟩) 16 16 (List.replicate 16 (0 : Int)) t7 _ (hM.rd 0 rfl) (hG0.mono hM.below) ht7) ?_
  rintro _ W6 ⟨vt7_0, Ft7_0, rfl, hRt7_0, hM_⟩
  replace hM : Mem w W6 (Gs [⟨.slice (some ⟨g4, 0, none⟩) 16 16, 5, 1, nums .u8 (List.replicate 16 (0 : Int))⟩] [Ft7_0, Ft2_0]) := (Mem.callG (hM.as (H' := Gs [⟨.slice (some ⟨g4, 0, none⟩) 16 16, 5, 1, nums .u8 (List.replicate 16 (0 : Int))⟩] [Ft2_0]) rfl) hM_).as rfl
  clear hM_ ht7
  refine RunF.go 12 [3, 4, 20] (k' := (pin Go.Proofs.Tryd.f9 [1, 1, 1, 0, 0] 3)) (L' := [(3, vt7_0), (4, .int .i64 t7.2), (20, .bool (t2.2 != 4))]) (w' := W6) (by kernel_rfl) ?_
  rcases two ((t2.2 != 4)) with c8 | c8
  · replace h := of_true h c8
    refine RunF.know 20 (b := true) (by kernel_rfl) c8 ?_
    refine RunF.go 13 [0] (k' := (pl Go.Proofs.Tryd.f9 [1, 1, 1, 0, 1, 0, 1])) (L' := [(0, .bool false)]) (w' := W6) (by kernel_rfl) ?_
    obtain rfl := Option.some.inj h
    exact RunF.ret1 0 (.bool false) (fn := Go.Proofs.Tryd.f9) Go.Proofs.Tryd.func9 (by kernel_rfl) (by kernel_rfl) (by kernel_rfl) ⟨_, rfl, rfl, (Mem.pickF (hM.as (H' := Gs [⟨.slice (some ⟨g4, 0, none⟩) 16 16, 5, 1, nums .u8 (List.replicate 16 (0 : Int))⟩] [Ft7_0, Ft2_0]) rfl) [] rfl rfl rfl).ungrp⟩
  · replace h := of_false h c8
    refine RunF.know 20 (b := false) (by kernel_rfl) c8 ?_
    refine RunF.go 4 [3, 24] (k' := (pin Go.Proofs.Tryd.f9 [1, 1, 1, 0, 0] 7)) (L' := [(3, vt7_0), (24, .bool (t7.2 != 0))]) (w' := W6) (by kernel_rfl) ?_
    rcases two ((t7.2 != 0)) with c9 | c9
    · replace h := of_true h c9
      refine RunF.know 24 (b := true) (by kernel_rfl) c9 ?_
      refine RunF.go 9 [0] (k' := (pl Go.Proofs.Tryd.f9 [1, 1, 1, 0, 1, 0, 1])) (L' := [(0, .bool false)]) (w' := W6) (by kernel_rfl) ?_
      obtain rfl := Option.some.inj h
      exact RunF.ret1 0 (.bool false) (fn := Go.Proofs.Tryd.f9) Go.Proofs.Tryd.func9 (by kernel_rfl) (by kernel_rfl) (by kernel_rfl) ⟨_, rfl, rfl, (Mem.pickF (hM.as (H' := Gs [⟨.slice (some ⟨g4, 0, none⟩) 16 16, 5, 1, nums .u8 (List.replicate 16 (0 : Int))⟩] [Ft7_0, Ft2_0]) rfl) [] rfl rfl rfl).ungrp⟩
    · replace h := of_false h c9
      refine RunF.know 24 (b := false) (by kernel_rfl) c9 ?_
      refine RunF.go 1 [3, 24, 25] (k' := (pin Go.Proofs.Tryd.f9 [1, 1, 1, 0, 0] 8)) (L' := [(3, vt7_0), (24, .bool false), (25, vt7_0)]) (w' := W6) (by kernel_rfl) ?_
      rcases two (t7.1.isSome) with c10 | c10
      · replace h := of_true h c10
        obtain ⟨s11, hx_, h⟩ := Option.bind_eq_some_iff.mp h
        have hps11 := rOpt.some hRt7_0 hx_
        obtain ⟨g12, _, rfl, hco13, co13_0, _, rfl, hlo13_0, hqo13_0, ⟨Ao13_1, co13_1, cso13_1, rfl, hro13_1, hqo13_1⟩⟩ := id hps11
        refine RunF.go 8 [3, 29] (k' := (pin Go.Proofs.Tryd.f9 [1, 1, 1, 1, 0] 1)) (L' := [(3, .pointer (some ⟨g12, 0, none⟩)), (29, .pointer (some ⟨g12, 0, none⟩))]) (w' := W6) (by kernel_rfl) ?_
        obtain ⟨W14, hD, hM', hB_⟩ := mk_does (P := Go.Proofs.Tryd.prog) (n := 65) (k := (pin Go.Proofs.Tryd.f9 [1, 1, 1, 1, 0] 1)) (L := [(3, .pointer (some ⟨g12, 0, none⟩)), (29, .pointer (some ⟨g12, 0, none⟩))]) (d := some 30) (e := 5) (z := .int .u8 0) (l := 16) (c := 16) (k2 := (pin Go.Proofs.Tryd.f9 [1, 1, 1, 1, 0] 2)) (by kernel_rfl) (by omega) (by omega) (by omega) hM
        rw [rep_nums] at hM'
        refine RunF.does hD ?_
        replace hM := hM'; clear hD hM'
        generalize W6.heap.size = g15 at hM ⊢
        obtain ⟨t18, ht18, h⟩ := Option.bind_eq_some_iff.mp h
        refine RunF.call (d := some 31) (g := 21) (args := #[.pointer (some ⟨g12, 0, none⟩), .slice (some ⟨g15, 0, none⟩) 16 16, .bool false]) (k2 := (pin Go.Proofs.Tryd.f9 [1, 1, 1, 1, 0] 3)) (by kernel_rfl) (aria_Aria_Block.calls k (.pointer (some ⟨g12, 0, none⟩)) (Oks Ft7_0) s11 (some ⟨g15, 0, none⟩) 16 16 (List.replicate 16 (0 : Int)) false t18 _ (hM.rd 0 rfl) hps11 (fun _ hb_ => ((Mem.oks (hM.as (H' := Gs [⟨.slice (some ⟨g15, 0, none⟩) 16 16, 5, 1, nums .u8 (List.replicate 16 (0 : Int))⟩, ⟨.slice (some ⟨g4, 0, none⟩) 16 16, 5, 1, nums .u8 (List.replicate 16 (0 : Int))⟩] [Ft7_0, Ft2_0]) rfl) 0 rfl).kept hb_)) ht18) ?_
        rintro _ W17 ⟨A19, n20, c21, rfl, hM_⟩
        obtain rfl : t18.1.length = n20 := by have h_ := (hM_.rd 0 rfl).1; simpa [nums_length, bools_length, strs_length] using h_
        replace hM : Mem w W17 (Gs [⟨.slice A19 t18.1.length c21, 5, 1, nums .u8 t18.1⟩, ⟨.slice (some ⟨g15, 0, none⟩) 16 16, 5, 1, nums .u8 (List.replicate 16 (0 : Int))⟩, ⟨.slice (some ⟨g4, 0, none⟩) 16 16, 5, 1, nums .u8 (List.replicate 16 (0 : Int))⟩] [Ft7_0, Ft2_0]) := (Mem.callG (hM.as (H' := Gs [⟨.slice (some ⟨g15, 0, none⟩) 16 16, 5, 1, nums .u8 (List.replicate 16 (0 : Int))⟩, ⟨.slice (some ⟨g4, 0, none⟩) 16 16, 5, 1, nums .u8 (List.replicate 16 (0 : Int))⟩] [Ft7_0, Ft2_0]) rfl) hM_.grp).as rfl
        clear hM_ ht18
        refine RunF.go 10 [5, 6, 35, 36] (k' := (pin Go.Proofs.Tryd.f9 [1, 1, 1, 1, 1, 0] 2)) (L' := [(5, .slice A19 t18.1.length c21), (6, .int .i64 t18.2), (35, .pointer (some ⟨g12, 0, none⟩)), (36, .slice A19 t18.1.length c21)]) (w' := W17) (by kernel_rfl) ?_
        obtain ⟨t24, ht24, h⟩ := Option.bind_eq_some_iff.mp h
        refine RunF.call (d := some 37) (g := 21) (args := #[.pointer (some ⟨g12, 0, none⟩), .slice A19 t18.1.length c21, .bool true]) (k2 := (pin Go.Proofs.Tryd.f9 [1, 1, 1, 1, 1, 0] 3)) (by kernel_rfl) (aria_Aria_Block.calls k (.pointer (some ⟨g12, 0, none⟩)) (Oks Ft7_0) s11 A19 t18.1.length c21 t18.1 true t24 _ (hM.rd 0 rfl) hps11 (fun _ hb_ => ((Mem.oks (hM.as (H' := Gs [⟨.slice A19 t18.1.length c21, 5, 1, nums .u8 t18.1⟩, ⟨.slice (some ⟨g15, 0, none⟩) 16 16, 5, 1, nums .u8 (List.replicate 16 (0 : Int))⟩, ⟨.slice (some ⟨g4, 0, none⟩) 16 16, 5, 1, nums .u8 (List.replicate 16 (0 : Int))⟩] [Ft7_0, Ft2_0]) rfl) 0 rfl).kept hb_)) ht24) ?_
        rintro _ W23 ⟨A25, n26, c27, rfl, hM_⟩
        obtain rfl : t24.1.length = n26 := by have h_ := (hM_.rd 0 rfl).1; simpa [nums_length, bools_length, strs_length] using h_
        replace hM : Mem w W23 (Gs [⟨.slice A25 t24.1.length c27, 5, 1, nums .u8 t24.1⟩, ⟨.slice A19 t18.1.length c21, 5, 1, nums .u8 t18.1⟩, ⟨.slice (some ⟨g15, 0, none⟩) 16 16, 5, 1, nums .u8 (List.replicate 16 (0 : Int))⟩, ⟨.slice (some ⟨g4, 0, none⟩) 16 16, 5, 1, nums .u8 (List.replicate 16 (0 : Int))⟩] [Ft7_0, Ft2_0]) := (Mem.callG (hM.as (H' := Gs [⟨.slice A19 t18.1.length c21, 5, 1, nums .u8 t18.1⟩, ⟨.slice (some ⟨g15, 0, none⟩) 16 16, 5, 1, nums .u8 (List.replicate 16 (0 : Int))⟩, ⟨.slice (some ⟨g4, 0, none⟩) 16 16, 5, 1, nums .u8 (List.replicate 16 (0 : Int))⟩] [Ft7_0, Ft2_0]) rfl) hM_.grp).as rfl
        clear hM_ ht24
        refine RunF.go 7 [5, 6, 7, 8] (k' := (pl Go.Proofs.Tryd.f9 [1, 1, 1, 1, 1, 1, 0])) (L' := [(5, .slice A19 t18.1.length c21), (6, .int .i64 t18.2), (7, .slice A25 t24.1.length c27), (8, .int .i64 t24.2)]) (w' := W23) (by kernel_rfl) ?_
        refine RunF.draw (Still ({ W23 with drawn := W23.drawn + 1 } : World) []) (by kernel_rfl) (by kernel_rfl) ?_
        have hMd30 := hM.drew
        have hS := Still.refl ({ W23 with drawn := W23.drawn + 1 } : World) []
        generalize ({ W23 with drawn := W23.drawn + 1 } : World) = W29 at hMd30 hS ⊢
        replace hM := hMd30
        refine RunAny.y 0 (by kernel_rfl) (yl_pure (d := some 40) (v := .int .i64 t18.2) (k2 := [.inRegion (opsOf (pl Go.Proofs.Tryd.f9 [1, 1, 1, 1, 1, 1, 0])) []]) fun w => by kernel_rfl) (fun _ _ => trivial) hS ?_
        refine RunAny.y 1 (by kernel_rfl) (yl_pure (d := some 41) (v := .bool (t18.2 == 0)) (k2 := [.inRegion (opsOf (pl Go.Proofs.Tryd.f9 [1, 1, 1, 1, 1, 1, 0])) []]) fun w => by kernel_rfl) (fun _ _ => trivial) hS ?_
        refine RunAny.y 2 (by kernel_rfl) (yl_pure (d := some 42) (v := .bool (t18.2 == 0)) (k2 := [.inRegion (opsOf (pl Go.Proofs.Tryd.f9 [1, 1, 1, 1, 1, 1, 0])) []]) fun w => by kernel_rfl) (fun _ _ => trivial) hS ?_
        rcases two ((t18.2 == 0)) with c31 | c31
        · replace h := of_true h c31
          refine RunAny.know 42 (b := true) (by kernel_rfl) c31 ?_
          refine RunAny.y 3 (by kernel_rfl) (yl_pure (d := some 43) (v := .int .i64 t24.2) (k2 := [.inRegion (opsOf (pl Go.Proofs.Tryd.f9 [1, 1, 1, 1, 1, 1, 0])) []]) fun w => by kernel_rfl) (fun _ _ => trivial) hS ?_
          refine RunAny.y 4 (by kernel_rfl) (yl_pure (d := some 44) (v := .bool (t24.2 == 0)) (k2 := [.inRegion (opsOf (pl Go.Proofs.Tryd.f9 [1, 1, 1, 1, 1, 1, 0])) []]) fun w => by kernel_rfl) (fun _ _ => trivial) hS ?_
          refine RunAny.y 5 (by kernel_rfl) (yl_pure (d := some 45) (v := .bool (t24.2 == 0)) (k2 := [.inRegion (opsOf (pl Go.Proofs.Tryd.f9 [1, 1, 1, 1, 1, 1, 0])) []]) fun w => by kernel_rfl) (fun _ _ => trivial) hS ?_
          refine RunAny.y 6 (by kernel_rfl) (yl_pure (d := some 46) (v := .bool (t24.2 == 0)) (k2 := [.inRegion (opsOf (pl Go.Proofs.Tryd.f9 [1, 1, 1, 1, 1, 1, 0])) []]) fun w => by kernel_rfl) (fun _ _ => trivial) hS ?_
          rcases two ((t24.2 == 0)) with c32 | c32
          · replace h := of_true h c32
            refine RunAny.know 46 (b := true) (by kernel_rfl) c32 ?_
            refine RunAny.y 7 (by kernel_rfl) (yl_pure (d := some 47) (v := .slice A19 t18.1.length c21) (k2 := [.inRegion (opsOf (pl Go.Proofs.Tryd.f9 [1, 1, 1, 1, 1, 1, 0])) []]) fun w => by kernel_rfl) (fun _ _ => trivial) hS ?_
            refine RunAny.y 8 (by kernel_rfl) (yl_pure (d := some 48) (v := .int .i64 (t18.1.length : Int)) (k2 := [.inRegion (opsOf (pl Go.Proofs.Tryd.f9 [1, 1, 1, 1, 1, 1, 0])) []]) fun w => by kernel_rfl) (fun _ _ => trivial) hS ?_
            refine RunAny.y 9 (by kernel_rfl) (yl_pure (d := some 49) (v := .bool ((t18.1.length : Int) == 16)) (k2 := [.inRegion (opsOf (pl Go.Proofs.Tryd.f9 [1, 1, 1, 1, 1, 1, 0])) []]) fun w => by kernel_rfl) (fun _ _ => trivial) hS ?_
            refine RunAny.y 10 (by kernel_rfl) (yl_pure (d := some 50) (v := .bool ((t18.1.length : Int) == 16)) (k2 := [.inRegion (opsOf (pl Go.Proofs.Tryd.f9 [1, 1, 1, 1, 1, 1, 0])) []]) fun w => by kernel_rfl) (fun _ _ => trivial) hS ?_
            refine RunAny.y 11 (by kernel_rfl) (yl_pure (d := some 51) (v := .bool ((t18.1.length : Int) == 16)) (k2 := [.inRegion (opsOf (pl Go.Proofs.Tryd.f9 [1, 1, 1, 1, 1, 1, 0])) []]) fun w => by kernel_rfl) (fun _ _ => trivial) hS ?_
            rcases two (((t18.1.length : Int) == 16)) with c33 | c33
            · replace h := of_true h c33
              refine RunAny.know 51 (b := true) (by kernel_rfl) c33 ?_
              refine RunAny.y 12 (by kernel_rfl) (yl_pure (d := some 52) (v := .slice A19 t18.1.length c21) (k2 := [.inRegion (opsOf (pl Go.Proofs.Tryd.f9 [1, 1, 1, 1, 1, 1, 0])) []]) fun w => by kernel_rfl) (fun _ _ => trivial) hS ?_
              refine RunAny.y 13 (by kernel_rfl) (str_y (d := some 53) (A := A19) (m := t18.1.length) (c := c21) (k2 := [.inRegion (opsOf (pl Go.Proofs.Tryd.f9 [1, 1, 1, 1, 1, 1, 0])) []]) t18.1 (by kernel_rfl)) (fun _ hs => ((hM.rd 1 rfl).still hs (by simp))) hS ?_
              refine RunAny.y 14 (by kernel_rfl) (yl_pure (d := some 54) (v := .slice A25 t24.1.length c27) (k2 := [.inRegion (opsOf (pl Go.Proofs.Tryd.f9 [1, 1, 1, 1, 1, 1, 0])) []]) fun w => by kernel_rfl) (fun _ _ => trivial) hS ?_
              refine RunAny.y 15 (by kernel_rfl) (str_y (d := some 55) (A := A25) (m := t24.1.length) (c := c27) (k2 := [.inRegion (opsOf (pl Go.Proofs.Tryd.f9 [1, 1, 1, 1, 1, 1, 0])) []]) t24.1 (by kernel_rfl)) (fun _ hs => ((hM.rd 0 rfl).still hs (by simp))) hS ?_
              refine RunAny.y 16 (by kernel_rfl) (yl_pure (d := some 56) (v := .bool (!((strOf t18.1).toList == (strOf t24.1).toList))) (k2 := [.inRegion (opsOf (pl Go.Proofs.Tryd.f9 [1, 1, 1, 1, 1, 1, 0])) []]) fun w => by kernel_rfl) (fun _ _ => trivial) hS ?_
              refine RunAny.y 17 (by kernel_rfl) (yl_pure (d := some 57) (v := .bool (!((strOf t18.1).toList == (strOf t24.1).toList))) (k2 := [.inRegion (opsOf (pl Go.Proofs.Tryd.f9 [1, 1, 1, 1, 1, 1, 0])) []]) fun w => by kernel_rfl) (fun _ _ => trivial) hS ?_
              refine RunAny.y 18 (by kernel_rfl) (yl_pure (d := some 58) (v := .bool (!((strOf t18.1).toList == (strOf t24.1).toList))) (k2 := [.inRegion (opsOf (pl Go.Proofs.Tryd.f9 [1, 1, 1, 1, 1, 1, 0])) []]) fun w => by kernel_rfl) (fun _ _ => trivial) hS ?_
              rcases two (!((strOf t18.1).toList == (strOf t24.1).toList)) with c34 | c34
              · replace h := of_true h c34
                refine RunAny.know 58 (b := true) (by kernel_rfl) c34 ?_
                refine RunAny.y 19 (by kernel_rfl) (yl_pure (d := some 59) (v := .slice A25 t24.1.length c27) (k2 := [.inRegion (opsOf (pl Go.Proofs.Tryd.f9 [1, 1, 1, 1, 1, 1, 0])) []]) fun w => by kernel_rfl) (fun _ _ => trivial) hS ?_
                refine RunAny.y 20 (by kernel_rfl) (str_y (d := some 60) (A := A25) (m := t24.1.length) (c := c27) (k2 := [.inRegion (opsOf (pl Go.Proofs.Tryd.f9 [1, 1, 1, 1, 1, 1, 0])) []]) t24.1 (by kernel_rfl)) (fun _ hs => ((hM.rd 0 rfl).still hs (by simp))) hS ?_
                obtain ⟨W35, hD, hM', hB_⟩ := mk_does (P := Go.Proofs.Tryd.prog) (n := 65) (k := (one (opsOf (pl Go.Proofs.Tryd.f9 [1, 1, 1, 1, 1, 1, 0])) 21)) (L := (upd (upd (known (upd (upd (upd (upd (upd (upd (upd (known (upd (upd (upd (upd (upd (known (upd (upd (upd (upd (known (upd (upd (upd [(5, .slice A19 t18.1.length c21), (6, .int .i64 t18.2), (7, .slice A25 t24.1.length c27), (8, .int .i64 t24.2)] (some 40) (.int .i64 t18.2)) (some 41) (.bool (t18.2 == 0))) (some 42) (.bool (t18.2 == 0))) 42 true) (some 43) (.int .i64 t24.2)) (some 44) (.bool (t24.2 == 0))) (some 45) (.bool (t24.2 == 0))) (some 46) (.bool (t24.2 == 0))) 46 true) (some 47) (.slice A19 t18.1.length c21)) (some 48) (.int .i64 (t18.1.length : Int))) (some 49) (.bool ((t18.1.length : Int) == 16))) (some 50) (.bool ((t18.1.length : Int) == 16))) (some 51) (.bool ((t18.1.length : Int) == 16))) 51 true) (some 52) (.slice A19 t18.1.length c21)) (some 53) (.string (strOf t18.1))) (some 54) (.slice A25 t24.1.length c27)) (some 55) (.string (strOf t24.1))) (some 56) (.bool (!((strOf t18.1).toList == (strOf t24.1).toList)))) (some 57) (.bool (!((strOf t18.1).toList == (strOf t24.1).toList)))) (some 58) (.bool (!((strOf t18.1).toList == (strOf t24.1).toList)))) 58 true) (some 59) (.slice A25 t24.1.length c27)) (some 60) (.string (strOf t24.1)))) (d := some 61) (e := 5) (z := .int .u8 0) (l := 16) (c := 16) (k2 := [.inRegion (opsOf (pl Go.Proofs.Tryd.f9 [1, 1, 1, 1, 1, 1, 0])) []]) (by kernel_rfl) (by omega) (by omega) (by omega) hM
                rw [rep_nums] at hM'
                refine RunAny.does 21 (by kernel_rfl) hD (hS.below hB_) ?_
                replace hS := hS.below hB_; clear hB_
                replace hM := hM'; clear hD hM'
                generalize W29.heap.size = g36 at hM ⊢
                refine RunAny.rebase hS ?_
                replace hS := Still.refl W35 []
                refine RunAny.y 22 (by kernel_rfl) (str_y (d := some 62) (A := (some ⟨g36, 0, none⟩)) (m := 16) (c := 16) (k2 := [.inRegion (opsOf (pl Go.Proofs.Tryd.f9 [1, 1, 1, 1, 1, 1, 0])) []]) (List.replicate 16 (0 : Int)) (by kernel_rfl)) (fun _ hs => ((hM.rd 0 rfl).still hs (by simp))) hS ?_
                refine RunAny.y 23 (by kernel_rfl) (yl_pure (d := some 63) (v := .bool ((strOf t24.1).toList == (strOf (List.replicate 16 (0 : Int))).toList)) (k2 := [.inRegion (opsOf (pl Go.Proofs.Tryd.f9 [1, 1, 1, 1, 1, 1, 0])) []]) fun w => by kernel_rfl) (fun _ _ => trivial) hS ?_
                refine RunAny.y 24 (by kernel_rfl) (yl_pure (d := some 64) (v := .bool ((strOf t24.1).toList == (strOf (List.replicate 16 (0 : Int))).toList)) (k2 := [.inRegion (opsOf (pl Go.Proofs.Tryd.f9 [1, 1, 1, 1, 1, 1, 0])) []]) fun w => by kernel_rfl) (fun _ _ => trivial) hS ?_
                refine RunAny.y 25 (by kernel_rfl) (yl_pure (d := some 0) (v := .bool ((strOf t24.1).toList == (strOf (List.replicate 16 (0 : Int))).toList)) (k2 := [.inRegion (opsOf (pl Go.Proofs.Tryd.f9 [1, 1, 1, 1, 1, 1, 0])) []]) fun w => by kernel_rfl) (fun _ _ => trivial) hS ?_
                refine RunAny.done (by kernel_rfl) ?_
                clear hS
                obtain rfl := Option.some.inj h
                exact RunF.ret1 0 (.bool ((strOf t24.1).toList == (strOf (List.replicate 16 (0 : Int))).toList)) (fn := Go.Proofs.Tryd.f9) Go.Proofs.Tryd.func9 (by kernel_rfl) (by kernel_rfl) (by kernel_rfl) ⟨_, rfl, rfl, (Mem.pickF (hM.as (H' := Gs [⟨.slice (some ⟨g36, 0, none⟩) 16 16, 5, 1, nums .u8 (List.replicate 16 (0 : Int))⟩, ⟨.slice A25 t24.1.length c27, 5, 1, nums .u8 t24.1⟩, ⟨.slice A19 t18.1.length c21, 5, 1, nums .u8 t18.1⟩, ⟨.slice (some ⟨g15, 0, none⟩) 16 16, 5, 1, nums .u8 (List.replicate 16 (0 : Int))⟩, ⟨.slice (some ⟨g4, 0, none⟩) 16 16, 5, 1, nums .u8 (List.replicate 16 (0 : Int))⟩] [Ft7_0, Ft2_0]) rfl) [] rfl rfl rfl).ungrp⟩
              · replace h := of_false h c34
                refine RunAny.know 58 (b := false) (by kernel_rfl) c34 ?_
                refine RunAny.off 19 (d := some 59) (by kernel_rfl) (by kernel_rfl) hS ?_
                refine RunAny.off 20 (d := some 60) (by kernel_rfl) (by kernel_rfl) hS ?_
                refine RunAny.off 21 (d := some 61) (by kernel_rfl) (by kernel_rfl) hS ?_
                refine RunAny.off 22 (d := some 62) (by kernel_rfl) (by kernel_rfl) hS ?_
                refine RunAny.off 23 (d := some 63) (by kernel_rfl) (by kernel_rfl) hS ?_
                refine RunAny.y 24 (by kernel_rfl) (yl_pure (d := some 64) (v := .bool false) (k2 := [.inRegion (opsOf (pl Go.Proofs.Tryd.f9 [1, 1, 1, 1, 1, 1, 0])) []]) fun w => by kernel_rfl) (fun _ _ => trivial) hS ?_
                refine RunAny.y 25 (by kernel_rfl) (yl_pure (d := some 0) (v := .bool false) (k2 := [.inRegion (opsOf (pl Go.Proofs.Tryd.f9 [1, 1, 1, 1, 1, 1, 0])) []]) fun w => by kernel_rfl) (fun _ _ => trivial) hS ?_
                refine RunAny.done (by kernel_rfl) ?_
                clear hS
                obtain rfl := Option.some.inj h
                exact RunF.ret1 0 (.bool false) (fn := Go.Proofs.Tryd.f9) Go.Proofs.Tryd.func9 (by kernel_rfl) (by kernel_rfl) (by kernel_rfl) ⟨_, rfl, rfl, (Mem.pickF (hM.as (H' := Gs [⟨.slice A25 t24.1.length c27, 5, 1, nums .u8 t24.1⟩, ⟨.slice A19 t18.1.length c21, 5, 1, nums .u8 t18.1⟩, ⟨.slice (some ⟨g15, 0, none⟩) 16 16, 5, 1, nums .u8 (List.replicate 16 (0 : Int))⟩, ⟨.slice (some ⟨g4, 0, none⟩) 16 16, 5, 1, nums .u8 (List.replicate 16 (0 : Int))⟩] [Ft7_0, Ft2_0]) rfl) [] rfl rfl rfl).ungrp⟩
            · replace h := of_false h c33
              refine RunAny.know 51 (b := false) (by kernel_rfl) c33 ?_
              refine RunAny.off 12 (d := some 52) (by kernel_rfl) (by kernel_rfl) hS ?_
              refine RunAny.off 13 (d := some 53) (by kernel_rfl) (by kernel_rfl) hS ?_
              refine RunAny.off 14 (d := some 54) (by kernel_rfl) (by kernel_rfl) hS ?_
              refine RunAny.off 15 (d := some 55) (by kernel_rfl) (by kernel_rfl) hS ?_
              refine RunAny.off 16 (d := some 56) (by kernel_rfl) (by kernel_rfl) hS ?_
              refine RunAny.y 17 (by kernel_rfl) (yl_pure (d := some 57) (v := .bool false) (k2 := [.inRegion (opsOf (pl Go.Proofs.Tryd.f9 [1, 1, 1, 1, 1, 1, 0])) []]) fun w => by kernel_rfl) (fun _ _ => trivial) hS ?_
              refine RunAny.y 18 (by kernel_rfl) (yl_pure (d := some 58) (v := .bool false) (k2 := [.inRegion (opsOf (pl Go.Proofs.Tryd.f9 [1, 1, 1, 1, 1, 1, 0])) []]) fun w => by kernel_rfl) (fun _ _ => trivial) hS ?_
              refine RunAny.off 19 (d := some 59) (by kernel_rfl) (by kernel_rfl) hS ?_
              refine RunAny.off 20 (d := some 60) (by kernel_rfl) (by kernel_rfl) hS ?_
              refine RunAny.off 21 (d := some 61) (by kernel_rfl) (by kernel_rfl) hS ?_
              refine RunAny.off 22 (d := some 62) (by kernel_rfl) (by kernel_rfl) hS ?_
              refine RunAny.off 23 (d := some 63) (by kernel_rfl) (by kernel_rfl) hS ?_
              refine RunAny.y 24 (by kernel_rfl) (yl_pure (d := some 64) (v := .bool false) (k2 := [.inRegion (opsOf (pl Go.Proofs.Tryd.f9 [1, 1, 1, 1, 1, 1, 0])) []]) fun w => by kernel_rfl) (fun _ _ => trivial) hS ?_
              refine RunAny.y 25 (by kernel_rfl) (yl_pure (d := some 0) (v := .bool false) (k2 := [.inRegion (opsOf (pl Go.Proofs.Tryd.f9 [1, 1, 1, 1, 1, 1, 0])) []]) fun w => by kernel_rfl) (fun _ _ => trivial) hS ?_
              refine RunAny.done (by kernel_rfl) ?_
              clear hS
              obtain rfl := Option.some.inj h
              exact RunF.ret1 0 (.bool false) (fn := Go.Proofs.Tryd.f9) Go.Proofs.Tryd.func9 (by kernel_rfl) (by kernel_rfl) (by kernel_rfl) ⟨_, rfl, rfl, (Mem.pickF (hM.as (H' := Gs [⟨.slice A25 t24.1.length c27, 5, 1, nums .u8 t24.1⟩, ⟨.slice A19 t18.1.length c21, 5, 1, nums .u8 t18.1⟩, ⟨.slice (some ⟨g15, 0, none⟩) 16 16, 5, 1, nums .u8 (List.replicate 16 (0 : Int))⟩, ⟨.slice (some ⟨g4, 0, none⟩) 16 16, 5, 1, nums .u8 (List.replicate 16 (0 : Int))⟩] [Ft7_0, Ft2_0]) rfl) [] rfl rfl rfl).ungrp⟩
          · replace h := of_false h c32
            refine RunAny.know 46 (b := false) (by kernel_rfl) c32 ?_
            refine RunAny.off 7 (d := some 47) (by kernel_rfl) (by kernel_rfl) hS ?_
            refine RunAny.off 8 (d := some 48) (by kernel_rfl) (by kernel_rfl) hS ?_
            refine RunAny.off 9 (d := some 49) (by kernel_rfl) (by kernel_rfl) hS ?_
            refine RunAny.y 10 (by kernel_rfl) (yl_pure (d := some 50) (v := .bool false) (k2 := [.inRegion (opsOf (pl Go.Proofs.Tryd.f9 [1, 1, 1, 1, 1, 1, 0])) []]) fun w => by kernel_rfl) (fun _ _ => trivial) hS ?_
            refine RunAny.y 11 (by kernel_rfl) (yl_pure (d := some 51) (v := .bool false) (k2 := [.inRegion (opsOf (pl Go.Proofs.Tryd.f9 [1, 1, 1, 1, 1, 1, 0])) []]) fun w => by kernel_rfl) (fun _ _ => trivial) hS ?_
            refine RunAny.off 12 (d := some 52) (by kernel_rfl) (by kernel_rfl) hS ?_
            refine RunAny.off 13 (d := some 53) (by kernel_rfl) (by kernel_rfl) hS ?_
            refine RunAny.off 14 (d := some 54) (by kernel_rfl) (by kernel_rfl) hS ?_
            refine RunAny.off 15 (d := some 55) (by kernel_rfl) (by kernel_rfl) hS ?_
            refine RunAny.off 16 (d := some 56) (by kernel_rfl) (by kernel_rfl) hS ?_
            refine RunAny.y 17 (by kernel_rfl) (yl_pure (d := some 57) (v := .bool false) (k2 := [.inRegion (opsOf (pl Go.Proofs.Tryd.f9 [1, 1, 1, 1, 1, 1, 0])) []]) fun w => by kernel_rfl) (fun _ _ => trivial) hS ?_
            refine RunAny.y 18 (by kernel_rfl) (yl_pure (d := some 58) (v := .bool false) (k2 := [.inRegion (opsOf (pl Go.Proofs.Tryd.f9 [1, 1, 1, 1, 1, 1, 0])) []]) fun w => by kernel_rfl) (fun _ _ => trivial) hS ?_
            refine RunAny.off 19 (d := some 59) (by kernel_rfl) (by kernel_rfl) hS ?_
            refine RunAny.off 20 (d := some 60) (by kernel_rfl) (by kernel_rfl) hS ?_
            refine RunAny.off 21 (d := some 61) (by kernel_rfl) (by kernel_rfl) hS ?_
            refine RunAny.off 22 (d := some 62) (by kernel_rfl) (by kernel_rfl) hS ?_
            refine RunAny.off 23 (d := some 63) (by kernel_rfl) (by kernel_rfl) hS ?_
            refine RunAny.y 24 (by kernel_rfl) (yl_pure (d := some 64) (v := .bool false) (k2 := [.inRegion (opsOf (pl Go.Proofs.Tryd.f9 [1, 1, 1, 1, 1, 1, 0])) []]) fun w => by kernel_rfl) (fun _ _ => trivial) hS ?_
            refine RunAny.y 25 (by kernel_rfl) (yl_pure (d := some 0) (v := .bool false) (k2 := [.inRegion (opsOf (pl Go.Proofs.Tryd.f9 [1, 1, 1, 1, 1, 1, 0])) []]) fun w => by kernel_rfl) (fun _ _ => trivial) hS ?_
            refine RunAny.done (by kernel_rfl) ?_
            clear hS
            obtain rfl := Option.some.inj h
            exact RunF.ret1 0 (.bool false) (fn := Go.Proofs.Tryd.f9) Go.Proofs.Tryd.func9 (by kernel_rfl) (by kernel_rfl) (by kernel_rfl) ⟨_, rfl, rfl, (Mem.pickF (hM.as (H' := Gs [⟨.slice A25 t24.1.length c27, 5, 1, nums .u8 t24.1⟩, ⟨.slice A19 t18.1.length c21, 5, 1, nums .u8 t18.1⟩, ⟨.slice (some ⟨g15, 0, none⟩) 16 16, 5, 1, nums .u8 (List.replicate 16 (0 : Int))⟩, ⟨.slice (some ⟨g4, 0, none⟩) 16 16, 5, 1, nums .u8 (List.replicate 16 (0 : Int))⟩] [Ft7_0, Ft2_0]) rfl) [] rfl rfl rfl).ungrp⟩
        · replace h := of_false h c31
          refine RunAny.know 42 (b := false) (by kernel_rfl) c31 ?_
          refine RunAny.off 3 (d := some 43) (by kernel_rfl) (by kernel_rfl) hS ?_
          refine RunAny.off 4 (d := some 44) (by kernel_rfl) (by kernel_rfl) hS ?_
          refine RunAny.y 5 (by kernel_rfl) (yl_pure (d := some 45) (v := .bool false) (k2 := [.inRegion (opsOf (pl Go.Proofs.Tryd.f9 [1, 1, 1, 1, 1, 1, 0])) []]) fun w => by kernel_rfl) (fun _ _ => trivial) hS ?_
          refine RunAny.y 6 (by kernel_rfl) (yl_pure (d := some 46) (v := .bool false) (k2 := [.inRegion (opsOf (pl Go.Proofs.Tryd.f9 [1, 1, 1, 1, 1, 1, 0])) []]) fun w => by kernel_rfl) (fun _ _ => trivial) hS ?_
          refine RunAny.off 7 (d := some 47) (by kernel_rfl) (by kernel_rfl) hS ?_
          refine RunAny.off 8 (d := some 48) (by kernel_rfl) (by kernel_rfl) hS ?_
          refine RunAny.off 9 (d := some 49) (by kernel_rfl) (by kernel_rfl) hS ?_
          refine RunAny.y 10 (by kernel_rfl) (yl_pure (d := some 50) (v := .bool false) (k2 := [.inRegion (opsOf (pl Go.Proofs.Tryd.f9 [1, 1, 1, 1, 1, 1, 0])) []]) fun w => by kernel_rfl) (fun _ _ => trivial) hS ?_
          refine RunAny.y 11 (by kernel_rfl) (yl_pure (d := some 51) (v := .bool false) (k2 := [.inRegion (opsOf (pl Go.Proofs.Tryd.f9 [1, 1, 1, 1, 1, 1, 0])) []]) fun w => by kernel_rfl) (fun _ _ => trivial) hS ?_
          refine RunAny.off 12 (d := some 52) (by kernel_rfl) (by kernel_rfl) hS ?_
          refine RunAny.off 13 (d := some 53) (by kernel_rfl) (by kernel_rfl) hS ?_
          refine RunAny.off 14 (d := some 54) (by kernel_rfl) (by kernel_rfl) hS ?_
          refine RunAny.off 15 (d := some 55) (by kernel_rfl) (by kernel_rfl) hS ?_
          refine RunAny.off 16 (d := some 56) (by kernel_rfl) (by kernel_rfl) hS ?_
          refine RunAny.y 17 (by kernel_rfl) (yl_pure (d := some 57) (v := .bool false) (k2 := [.inRegion (opsOf (pl Go.Proofs.Tryd.f9 [1, 1, 1, 1, 1, 1, 0])) []]) fun w => by kernel_rfl) (fun _ _ => trivial) hS ?_
          refine RunAny.y 18 (by kernel_rfl) (yl_pure (d := some 58) (v := .bool false) (k2 := [.inRegion (opsOf (pl Go.Proofs.Tryd.f9 [1, 1, 1, 1, 1, 1, 0])) []]) fun w => by kernel_rfl) (fun _ _ => trivial) hS ?_
          refine RunAny.off 19 (d := some 59) (by kernel_rfl) (by kernel_rfl) hS ?_
          refine RunAny.off 20 (d := some 60) (by kernel_rfl) (by kernel_rfl) hS ?_
          refine RunAny.off 21 (d := some 61) (by kernel_rfl) (by kernel_rfl) hS ?_
          refine RunAny.off 22 (d := some 62) (by kernel_rfl) (by kernel_rfl) hS ?_
          refine RunAny.off 23 (d := some 63) (by kernel_rfl) (by kernel_rfl) hS ?_
          refine RunAny.y 24 (by kernel_rfl) (yl_pure (d := some 64) (v := .bool false) (k2 := [.inRegion (opsOf (pl Go.Proofs.Tryd.f9 [1, 1, 1, 1, 1, 1, 0])) []]) fun w => by kernel_rfl) (fun _ _ => trivial) hS ?_
          refine RunAny.y 25 (by kernel_rfl) (yl_pure (d := some 0) (v := .bool false) (k2 := [.inRegion (opsOf (pl Go.Proofs.Tryd.f9 [1, 1, 1, 1, 1, 1, 0])) []]) fun w => by kernel_rfl) (fun _ _ => trivial) hS ?_
          refine RunAny.done (by kernel_rfl) ?_
          clear hS
          obtain rfl := Option.some.inj h
          exact RunF.ret1 0 (.bool false) (fn := Go.Proofs.Tryd.f9) Go.Proofs.Tryd.func9 (by kernel_rfl) (by kernel_rfl) (by kernel_rfl) ⟨_, rfl, rfl, (Mem.pickF (hM.as (H' := Gs [⟨.slice A25 t24.1.length c27, 5, 1, nums .u8 t24.1⟩, ⟨.slice A19 t18.1.length c21, 5, 1, nums .u8 t18.1⟩, ⟨.slice (some ⟨g15, 0, none⟩) 16 16, 5, 1, nums .u8 (List.replicate 16 (0 : Int))⟩, ⟨.slice (some ⟨g4, 0, none⟩) 16 16, 5, 1, nums .u8 (List.replicate 16 (0 : Int))⟩] [Ft7_0, Ft2_0]) rfl) [] rfl rfl rfl).ungrp⟩
      · replace h := of_false h c10
        obtain rfl := rOpt.none hRt7_0 c10
        refine RunF.go 8 [0] (k' := (pl Go.Proofs.Tryd.f9 [1, 1, 1, 0, 1, 0, 1])) (L' := [(0, .bool false)]) (w' := W6) (by kernel_rfl) ?_
        obtain rfl := Option.some.inj h
        exact RunF.ret1 0 (.bool false) (fn := Go.Proofs.Tryd.f9) Go.Proofs.Tryd.func9 (by kernel_rfl) (by kernel_rfl) (by kernel_rfl) ⟨_, rfl, rfl, (Mem.pickF (hM.as (H' := Gs [⟨.slice (some ⟨g4, 0, none⟩) 16 16, 5, 1, nums .u8 (List.replicate 16 (0 : Int))⟩] [Ft7_0, Ft2_0]) rfl) [] rfl rfl rfl).ungrp⟩

/-! ### scrim/aria.Keys: function 13 -/
def aria_Keys.f (k : Nat) (a0 : List Int) : Option (List (List Int) × Int) := (aria_fits.f k a0).bind fun t2 => (if (!t2) = true then (some (([] : List (List Int)), 4)) else ((aria_made.f k).bind fun t5 => ((aria_boxes_keys.f k t5 a0).bind fun t7 => (some (t7, 0)))))
set_option maxRecDepth 100000 in
theorem aria_Keys.calls (k : Nat) (Ap0 : Option Addr) (np0 cp0 : Nat) (a0 : List Int) (r : List (List Int) × Int) (w : World) (hr0 : Rd w (.slice Ap0 np0 cp0) (nums .u8 a0)) (hG0 : Rg w 0 (nums .u8 [1, 2, 4, 8, 16, 32, 64, 128])) (h : aria_Keys.f k a0 = some r) :
    Calls Go.Proofs.Tryd.prog 13 #[(.slice Ap0 np0 cp0)] w (Ret fun v w' => ∃ (v0' : Value) (F0' : List Ent), v = .tuple #[v0', .int .i64 r.2] ∧ (rRows (rNums .u8)) (Oks F0') v0' r.1 ∧ Mem w w' (Gs [] [F0'])) := by
  obtain rfl : a0.length = np0 := by have h_ := hr0.1; simpa [nums_length, bools_length, strs_length] using h_
  unfold aria_Keys.f at h
  refine calls_of [.slice Ap0 a0.length cp0] (fn := Go.Proofs.Tryd.f13) Go.Proofs.Tryd.func13 (by kernel_rfl) (by kernel_rfl) ?_
  have hM := Mem.refl w
  refine RunF.go 9 [0, 4] (k' := (pin Go.Proofs.Tryd.f13 [1, 0, 0] 1)) (L' := [(0, .slice Ap0 a0.length cp0), (4, .slice Ap0 a0.length cp0)]) (w' := w) (by kernel_rfl) ?_
  obtain ⟨t2, ht2, h⟩ := Option.bind_eq_some_iff.mp h
  refine RunF.call (d := some 5) (g := 23) (args := #[.slice Ap0 a0.length cp0]) (k2 := (pin Go.Proofs.Tryd.f13 [1, 0, 0] 2)) (by kernel_rfl) (aria_fits.calls k Ap0 a0.length cp0 a0 t2 _ (hr0.mono hM.below) ht2) ?_
  rintro _ W1 ⟨rfl, hM_⟩
  replace hM := hM.call hM_
  clear hM_ ht2
  refine RunF.go 2 [0, 6] (k' := (pl Go.Proofs.Tryd.f13 [1, 0, 1])) (L' := [(0, .slice Ap0 a0.length cp0), (6, .bool (!t2))]) (w' := W1) (by kernel_rfl) ?_
  rcases two (!t2) with c3 | c3
  · replace h := of_true h c3
    refine RunF.know 6 (b := true) (by kernel_rfl) c3 ?_
    refine RunF.go 6 [2, 3] (k' := (pl Go.Proofs.Tryd.f13 [1, 0, 1, 0, 1])) (L' := [(2, .slice none 0 0), (3, .int .i64 4)]) (w' := W1) (by kernel_rfl) ?_
    obtain rfl := Option.some.inj h
    exact RunF.ret2 2 3 (.slice none 0 0) (.int .i64 4) (fn := Go.Proofs.Tryd.f13) Go.Proofs.Tryd.func13 (by kernel_rfl) (by kernel_rfl) (by kernel_rfl) (by kernel_rfl) ⟨_, rfl, .slice none 0 0, ([] : List Ent), rfl, ⟨_, _, _, rfl, (fun _ _ => ⟨rfl, Nat.le_refl _, fun i u hi => by cases hi⟩), (Each2.nil _)⟩, (Mem.pickF (hM.as (H' := Gs [] []) rfl) [] rfl rfl (by simp [Gs]))⟩
  · replace h := of_false h c3
    refine RunF.know 6 (b := false) (by kernel_rfl) c3 ?_
    refine RunF.go 4 [0] (k' := (pin Go.Proofs.Tryd.f13 [1, 1, 0] 0)) (L' := [(0, .slice Ap0 a0.length cp0)]) (w' := W1) (by kernel_rfl) ?_
    obtain ⟨t5, ht5, h⟩ := Option.bind_eq_some_iff.mp h
    refine RunF.call (d := some 7) (g := 24) (args := #[]) (k2 := (pin Go.Proofs.Tryd.f13 [1, 1, 0] 1)) (by kernel_rfl) (aria_made.calls k t5 _ (hG0.mono hM.below) ht5) ?_
    rintro vt5_0 W4 ⟨_, Ft5_0, rfl, hRt5_0, hM_⟩
    obtain ⟨cst5_0, rfl, hlt5_0, hqt5_0⟩ := hRt5_0
    replace hM : Mem w W4 (Gs [] [Ft5_0]) := (Mem.callG (hM.as (H' := Gs [] []) rfl) hM_).as rfl
    clear hM_ ht5
    refine RunF.go 1 [7, 8] (k' := (pin Go.Proofs.Tryd.f13 [1, 1, 0] 2)) (L' := [(7, .agg (cst5_0).toArray), (8, .slice Ap0 a0.length cp0)]) (w' := W4) (by kernel_rfl) ?_
    obtain ⟨t7, ht7, h⟩ := Option.bind_eq_some_iff.mp h
    refine RunF.call (d := some 9) (g := 25) (args := #[.agg (cst5_0).toArray, .slice Ap0 a0.length cp0]) (k2 := (pin Go.Proofs.Tryd.f13 [1, 1, 0] 3)) (by kernel_rfl) (aria_boxes_keys.calls k (.agg (cst5_0).toArray) (Oks Ft5_0) t5 Ap0 a0.length cp0 a0 t7 _ (hr0.mono hM.below) ⟨_, rfl, hlt5_0, hqt5_0⟩ (fun _ hb_ => ((Mem.oks (hM.as (H' := Gs [] [Ft5_0]) rfl) 0 rfl).kept hb_)) ht7) ?_
    rintro vt7_0 W6 ⟨_, Ft7_0, rfl, hRt7_0, hM_⟩
    obtain ⟨At7_0, ct7_0, cst7_0, rfl, hrt7_0, hqt7_0⟩ := hRt7_0
    replace hM : Mem w W6 (Gs [] [Ft7_0, Ft5_0]) := (Mem.callG (hM.as (H' := Gs [] [Ft5_0]) rfl) hM_).as rfl
    clear hM_ ht7
    refine RunF.go 3 [2, 3] (k' := (pl Go.Proofs.Tryd.f13 [1, 1, 1])) (L' := [(2, .slice At7_0 t7.length ct7_0), (3, .int .i64 0)]) (w' := W6) (by kernel_rfl) ?_
    obtain rfl := Option.some.inj h
    exact RunF.ret2 2 3 (.slice At7_0 t7.length ct7_0) (.int .i64 0) (fn := Go.Proofs.Tryd.f13) Go.Proofs.Tryd.func13 (by kernel_rfl) (by kernel_rfl) (by kernel_rfl) (by kernel_rfl) ⟨_, rfl, .slice At7_0 t7.length ct7_0, Ft7_0, rfl, ⟨_, _, _, rfl, hrt7_0, hqt7_0⟩, (Mem.pickF (hM.as (H' := Gs [] [Ft7_0, Ft5_0]) rfl) [0] rfl rfl rfl)⟩

/-! ### scrim/scrimlaw10.Bytes: function 10 -/
def scrimlaw10_Bytes.l0 : Nat → Int → (List Int) → Int → Option (List Int)
  | 0, _, _, _ => none
  | k + 1, a0, x5_0, x6_0 => if (decide (x6_0 < a0)) = true then (if (decide (0 ≤ x6_0)) = true then (if (decide (x6_0 < ((a0 : Int).toNat : Int))) = true then (scrimlaw10_Bytes.l0 k a0 (x5_0.set (x6_0 : Int).toNat (U8 (I64 (x6_0 * 37)))) (I64 (x6_0 + 1))) else (none)) else (none)) else (some x5_0)
def scrimlaw10_Bytes.f (k : Nat) (a0 : Int) (a1 : List Int) : Option (List Int) := if (decide (0 ≤ a0)) = true then (if (decide (a0 ≤ 1000000000)) = true then (scrimlaw10_Bytes.l0 k a0 (a1.take (List.replicate ((a0 : Int).toNat) (0 : Int)).length ++ (List.replicate ((a0 : Int).toNat) (0 : Int)).drop a1.length) (a1.length : Int)) else (none)) else (none)
set_option maxRecDepth 100000 in
theorem scrimlaw10_Bytes.calls (k : Nat) (a0 : Int) (Ap1 : Option Addr) (np1 cp1 : Nat) (a1 : List Int) (r : List Int) (w : World) (hr1 : Rd w (.slice Ap1 np1 cp1) (nums .u8 a1)) (h : scrimlaw10_Bytes.f k a0 a1 = some r) :
    Calls Go.Proofs.Tryd.prog 10 #[.int .i64 a0, (.slice Ap1 np1 cp1)] w (Ret fun v w' => ∃ A0' n0' c0', v = .slice A0' n0' c0' ∧ Mem w w' [⟨.slice A0' n0' c0', 5, 1, nums .u8 r⟩]) := by
  obtain rfl : a1.length = np1 := by have h_ := hr1.1; simpa [nums_length, bools_length, strs_length] using h_
  unfold scrimlaw10_Bytes.f at h
  refine calls_of [.int .i64 a0, .slice Ap1 a1.length cp1] (fn := Go.Proofs.Tryd.f10) Go.Proofs.Tryd.func10 (by kernel_rfl) (by kernel_rfl) ?_
  have hM := Mem.refl w
  refine RunF.go 7 [0, 1, 7] (k' := (pin Go.Proofs.Tryd.f10 [1, 0] 1)) (L' := [(0, .int .i64 a0), (1, .slice Ap1 a1.length cp1), (7, .int .i64 a0)]) (w' := w) (by kernel_rfl) ?_
  rcases two (decide (0 ≤ a0)) with c3 | c3
  · replace h := of_true h c3
    rcases two (decide (a0 ≤ 1000000000)) with c4 | c4
    · replace h := of_true h c4
      have := of_decide_eq_true c3
      have := of_decide_eq_true c4
      obtain ⟨W1, hD, hM', hB_⟩ := mk_does (P := Go.Proofs.Tryd.prog) (n := 26) (k := (pin Go.Proofs.Tryd.f10 [1, 0] 1)) (L := [(0, .int .i64 a0), (1, .slice Ap1 a1.length cp1), (7, .int .i64 a0)]) (d := some 8) (e := 5) (z := .int .u8 0) (l := a0) (c := a0) (k2 := (pin Go.Proofs.Tryd.f10 [1, 0] 2)) (by kernel_rfl) (by omega) (by omega) (by omega) hM
      rw [rep_nums] at hM'
      refine RunF.does hD ?_
      replace hM := hM'; clear hD hM'
      generalize w.heap.size = g2 at hM ⊢
      refine RunF.go 6 [0, 1, 5, 9, 10] (k' := (pin Go.Proofs.Tryd.f10 [1, 1, 0] 2)) (L' := [(0, .int .i64 a0), (1, .slice Ap1 a1.length cp1), (5, .slice (some ⟨g2, 0, none⟩) ((a0 : Int).toNat) ((a0 : Int).toNat)), (9, .slice (some ⟨g2, 0, none⟩) ((a0 : Int).toNat) ((a0 : Int).toNat)), (10, .slice Ap1 a1.length cp1)]) (w' := W1) (by kernel_rfl) ?_
      obtain ⟨W6, hD, hM', hS_⟩ := cp_does (P := Go.Proofs.Tryd.prog) (n := 26) (k := (pin Go.Proofs.Tryd.f10 [1, 1, 0] 2)) (L := [(0, .int .i64 a0), (1, .slice Ap1 a1.length cp1), (5, .slice (some ⟨g2, 0, none⟩) ((a0 : Int).toNat) ((a0 : Int).toNat)), (9, .slice (some ⟨g2, 0, none⟩) ((a0 : Int).toNat) ((a0 : Int).toNat)), (10, .slice Ap1 a1.length cp1)]) (d := some 11) (ty := 5) (A := (some ⟨g2, 0, none⟩)) (m := (a0 : Int).toNat) (c := (a0 : Int).toNat) (A2 := Ap1) (m2 := a1.length) (c2 := cp1) (cs := nums .u8 (List.replicate ((a0 : Int).toNat) (0 : Int))) (ys := nums .u8 a1) (k2 := (pin Go.Proofs.Tryd.f10 [1, 1, 0] 3)) [] [] (by kernel_rfl) (hM.pick [0] rfl rfl) (hr1.mono hM.below) (one_nums _ _)
      simp only [nums_length, nums_take, nums_drop, nums_append] at hM'
      refine RunF.does hD ?_
      replace hM := hM'; clear hM' hD hS_
      refine RunF.go 10 [0, 5, 6] (k' := (pl Go.Proofs.Tryd.f10 [1, 1, 1, 0, 1, 0, 0])) (L' := [(0, .int .i64 a0), (5, .slice (some ⟨g2, 0, none⟩) ((a0 : Int).toNat) ((a0 : Int).toNat)), (6, .int .i64 (a1.length : Int))]) (w' := W6) (by kernel_rfl) ?_
      have l0 : ∀ (k_ : Nat), k_ ≤ k → ∀ (x5_0 : List Int) (x6_0 : Int) (W : World) (hM : Mem w W [⟨.slice (some ⟨g2, 0, none⟩) ((a0 : Int).toNat) ((a0 : Int).toNat), 5, 1, nums .u8 x5_0⟩]) (h : scrimlaw10_Bytes.l0 k_ a0 x5_0 x6_0 = some r), RunF Go.Proofs.Tryd.prog (Ret fun v w' => ∃ A0' n0' c0', v = .slice A0' n0' c0' ∧ Mem w w' [⟨.slice A0' n0' c0', 5, 1, nums .u8 r⟩]) 10 (pl Go.Proofs.Tryd.f10 [1, 1, 1, 0, 1, 0, 0]) 26 [(0, .int .i64 a0), (5, .slice (some ⟨g2, 0, none⟩) ((a0 : Int).toNat) ((a0 : Int).toNat)), (6, .int .i64 x6_0)] W := by
        intro k_
        induction k_ using Nat.strongRecOn with
        | _ k_ ih0 =>
          intro hk x5_0 x6_0 W hM h
          cases k_ with
          | zero => exact absurd h (by simp [scrimlaw10_Bytes.l0])
          | succ k =>
            simp only [scrimlaw10_Bytes.l0] at h
            replace ih0 : ∀ m, m ≤ k → _ := fun m hm => ih0 m (by omega) (by omega)
            refine RunF.go 7 [0, 5, 6, 16] (k' := (pl Go.Proofs.Tryd.f10 [1, 1, 1, 0, 1, 0, 0, 0, 1])) (L' := [(0, .int .i64 a0), (5, .slice (some ⟨g2, 0, none⟩) ((a0 : Int).toNat) ((a0 : Int).toNat)), (6, .int .i64 x6_0), (16, .bool (decide (x6_0 < a0)))]) (w' := W) (by kernel_rfl) ?_
            rcases two (decide (x6_0 < a0)) with c7 | c7
            · replace h := of_true h c7
              refine RunF.know 16 (b := true) (by kernel_rfl) c7 ?_
              refine RunF.go 10 [0, 5, 6, 19, 20, 23] (k' := (pin Go.Proofs.Tryd.f10 [1, 1, 1, 0, 1, 0, 0, 1, 0, 0] 5)) (L' := [(0, .int .i64 a0), (5, .slice (some ⟨g2, 0, none⟩) ((a0 : Int).toNat) ((a0 : Int).toNat)), (6, .int .i64 x6_0), (19, .slice (some ⟨g2, 0, none⟩) ((a0 : Int).toNat) ((a0 : Int).toNat)), (20, .int .i64 x6_0), (23, .int .u8 (U8 (I64 (x6_0 * 37))))]) (w' := W) (by kernel_rfl) ?_
              rcases two (decide (0 ≤ x6_0)) with c9 | c9
              · replace h := of_true h c9
                rcases two (decide (x6_0 < ((a0 : Int).toNat : Int))) with c10 | c10
                · replace h := of_true h c10
                  obtain ⟨q8, hAq8, hcq8, hfq8, hlq8⟩ := hM.num_at 0 rfl (i := x6_0) (of_decide_eq_true c9) (by have h_ := of_decide_eq_true c10; omega)
                  refine RunF.y (idx_own (d := some 24) (A := (some ⟨g2, 0, none⟩)) (m := (a0 : Int).toNat) (i := x6_0) (k2 := (pin Go.Proofs.Tryd.f10 [1, 1, 1, 0, 1, 0, 0, 1, 0, 0] 6)) (by kernel_rfl) (of_decide_eq_true c9) (by have h_ := of_decide_eq_true c10; omega) hAq8) trivial ?_
                  obtain ⟨g_, hA_, hc_, hf_, hl_⟩ := hM.num_at 0 rfl (i := x6_0) (of_decide_eq_true c9) (by have h_ := of_decide_eq_true c10; omega)
                  obtain rfl : q8 = g_ := by rw [hAq8] at hA_; injection hA_ with hA_; injection hA_
                  refine RunF.doesU (st_u (p := (⟨q8, (x6_0 : Int).toNat, none⟩ : Addr)) (v := .int .u8 (U8 (I64 (x6_0 * 37)))) (k2 := (pin Go.Proofs.Tryd.f10 [1, 1, 1, 0, 1, 0, 0, 1, 0, 0] 7)) (by kernel_rfl) hc_ hf_) ?_
                  replace hM : Mem w (W.setCell (⟨q8, (x6_0 : Int).toNat, none⟩ : Addr) (.int .u8 (U8 (I64 (x6_0 * 37))))) [⟨.slice (some ⟨g2, 0, none⟩) ((a0 : Int).toNat) ((a0 : Int).toNat), 5, 1, nums .u8 (x5_0.set (x6_0 : Int).toNat (U8 (I64 (x6_0 * 37))))⟩] := Mem.put_num [] [] (hM.pick [0] rfl rfl) hAq8 _ hl_ _
                  generalize W.setCell (⟨q8, (x6_0 : Int).toNat, none⟩ : Addr) (.int .u8 (U8 (I64 (x6_0 * 37)))) = W11 at hM ⊢
                  clear hc_ hf_ hl_ hA_ hcq8
                  refine RunF.go 8 [0, 5, 6] (k' := (pl Go.Proofs.Tryd.f10 [1, 1, 1, 0, 1, 0, 0])) (L' := [(0, .int .i64 a0), (5, .slice (some ⟨g2, 0, none⟩) ((a0 : Int).toNat) ((a0 : Int).toNat)), (6, .int .i64 (I64 (x6_0 + 1)))]) (w' := W11) (by kernel_rfl) ?_
                  exact ih0 k (by omega) (x5_0.set (x6_0 : Int).toNat (U8 (I64 (x6_0 * 37)))) (I64 (x6_0 + 1)) _ (hM.pick [0] rfl rfl) h
                · replace h := of_false h c10
                  cases h
              · replace h := of_false h c9
                cases h
            · replace h := of_false h c7
              refine RunF.know 16 (b := false) (by kernel_rfl) c7 ?_
              refine RunF.go 7 [4] (k' := (pl Go.Proofs.Tryd.f10 [1, 1, 1, 1, 1])) (L' := [(4, .slice (some ⟨g2, 0, none⟩) ((a0 : Int).toNat) ((a0 : Int).toNat))]) (w' := W) (by kernel_rfl) ?_
              obtain rfl := Option.some.inj h
              exact RunF.ret1 4 (.slice (some ⟨g2, 0, none⟩) ((a0 : Int).toNat) ((a0 : Int).toNat)) (fn := Go.Proofs.Tryd.f10) Go.Proofs.Tryd.func10 (by kernel_rfl) (by kernel_rfl) (by kernel_rfl) ⟨_, rfl, (some ⟨g2, 0, none⟩), (a0 : Int).toNat, (a0 : Int).toNat, rfl, (hM.pick [0] rfl rfl)⟩
      exact l0 k (Nat.le_refl _) (a1.take (List.replicate ((a0 : Int).toNat) (0 : Int)).length ++ (List.replicate ((a0 : Int).toNat) (0 : Int)).drop a1.length) (a1.length : Int) _ (hM.pick [0] rfl rfl) h
    · replace h := of_false h c4
      cases h
  · replace h := of_false h c3
    cases h

/-! ### scrim/scrimlaw10.within: function 12 -/
def scrimlaw10_within.f (k : Nat) (a0 : Int) (a1 : Int) : Option (Int) := if (decide (a1 = 0)) = true then (none) else (if (decide ((Int.tmod a0 a1) < 0)) = true then (some (I64 ((Int.tmod a0 a1) + a1))) else (some (Int.tmod a0 a1)))
set_option maxRecDepth 100000 in
theorem scrimlaw10_within.calls (k : Nat) (a0 : Int) (a1 : Int) (r : Int) (w : World) (h : scrimlaw10_within.f k a0 a1 = some r) :
    Calls Go.Proofs.Tryd.prog 12 #[.int .i64 a0, .int .i64 a1] w (Ret fun v w' => v = .int .i64 r ∧ Mem w w' []) := by
  unfold scrimlaw10_within.f at h
  refine calls_of [.int .i64 a0, .int .i64 a1] (fn := Go.Proofs.Tryd.f12) Go.Proofs.Tryd.func12 (by kernel_rfl) (by kernel_rfl) ?_
  have hM := Mem.refl w
  refine RunF.go 8 [1, 6, 7] (k' := (pin Go.Proofs.Tryd.f12 [1, 0] 2)) (L' := [(1, .int .i64 a1), (6, .int .i64 a0), (7, .int .i64 a1)]) (w' := w) (by kernel_rfl) ?_
  rcases two (decide (a1 = 0)) with c1 | c1
  · replace h := of_true h c1
    cases h
  · replace h := of_false h c1
    refine RunF.y (div_y (d := some 8) (b := false) (kd := .i64) (x := a0) (y := a1) (k2 := (pin Go.Proofs.Tryd.f12 [1, 0] 3)) (by kernel_rfl) c1) trivial ?_
    refine RunF.go 8 [1, 5, 10] (k' := (pl Go.Proofs.Tryd.f12 [1, 1, 0, 1])) (L' := [(1, .int .i64 a1), (5, .int .i64 (Int.tmod a0 a1)), (10, .bool (decide ((Int.tmod a0 a1) < 0)))]) (w' := w) (by kernel_rfl) ?_
    rcases two (decide ((Int.tmod a0 a1) < 0)) with c2 | c2
    · replace h := of_true h c2
      refine RunF.know 10 (b := true) (by kernel_rfl) c2 ?_
      refine RunF.go 12 [4] (k' := (pl Go.Proofs.Tryd.f12 [1, 1, 1, 1])) (L' := [(4, .int .i64 (I64 ((Int.tmod a0 a1) + a1)))]) (w' := w) (by kernel_rfl) ?_
      obtain rfl := Option.some.inj h
      exact RunF.ret1 4 (.int .i64 (I64 ((Int.tmod a0 a1) + a1))) (fn := Go.Proofs.Tryd.f12) Go.Proofs.Tryd.func12 (by kernel_rfl) (by kernel_rfl) (by kernel_rfl) ⟨_, rfl, rfl, (hM.pick [] rfl rfl)⟩
    · replace h := of_false h c2
      refine RunF.know 10 (b := false) (by kernel_rfl) c2 ?_
      refine RunF.go 7 [4] (k' := (pl Go.Proofs.Tryd.f12 [1, 1, 1, 1])) (L' := [(4, .int .i64 (Int.tmod a0 a1))]) (w' := w) (by kernel_rfl) ?_
      obtain rfl := Option.some.inj h
      exact RunF.ret1 4 (.int .i64 (Int.tmod a0 a1)) (fn := Go.Proofs.Tryd.f12) Go.Proofs.Tryd.func12 (by kernel_rfl) (by kernel_rfl) (by kernel_rfl) ⟨_, rfl, rfl, (hM.pick [] rfl rfl)⟩

/-! ### scrim/scrimlaw10.key: function 14 -/
def scrimlaw10_key.f (k : Nat) (a0 : List Int) (a1 : Int) : Option (List Int) := (scrimlaw10_within.f k a1 3).bind fun t5 => (if (decide (0 ≤ t5)) = true then (if (decide (t5 < (3 : Int))) = true then ((scrimlaw10_Bytes.f k (rd ([16, 24, 32] : List Int) t5) a0).bind fun t10 => (some t10)) else (none)) else (none))
set_option maxRecDepth 100000 in
theorem scrimlaw10_key.calls (k : Nat) (Ap0 : Option Addr) (np0 cp0 : Nat) (a0 : List Int) (a1 : Int) (r : List Int) (w : World) (hr0 : Rd w (.slice Ap0 np0 cp0) (nums .u8 a0)) (h : scrimlaw10_key.f k a0 a1 = some r) :
    Calls Go.Proofs.Tryd.prog 14 #[(.slice Ap0 np0 cp0), .int .i64 a1] w (Ret fun v w' => ∃ A0' n0' c0', v = .slice A0' n0' c0' ∧ Mem w w' [⟨.slice A0' n0' c0', 5, 1, nums .u8 r⟩]) := by
  obtain rfl : a0.length = np0 := by have h_ := hr0.1; simpa [nums_length, bools_length, strs_length] using h_
  unfold scrimlaw10_key.f at h
  refine calls_of [.slice Ap0 a0.length cp0, .int .i64 a1] (fn := Go.Proofs.Tryd.f14) Go.Proofs.Tryd.func14 (by kernel_rfl) (by kernel_rfl) ?_
  have hM := Mem.refl w
  refine RunF.go 6 [0, 1] (k' := (pin Go.Proofs.Tryd.f14 [1, 0] 0)) (L' := [(0, .slice Ap0 a0.length cp0), (1, .int .i64 a1)]) (w' := w) (by kernel_rfl) ?_
  refine RunF.new 3 1 3 (nums .i64 [16, 24, 32]) (d := some 5) (k2 := (pin Go.Proofs.Tryd.f14 [1, 0] 1)) hM (by simp [nums, bools, strs]) (by kernel_rfl) (by kernel_rfl) ?_
  replace hM := hM
  intro g1 W2 hM
  refine RunF.go 1 [0, 5, 6] (k' := (pin Go.Proofs.Tryd.f14 [1, 0] 2)) (L' := [(0, .slice Ap0 a0.length cp0), (5, .slice (some ⟨g1, 0, none⟩) 3 3), (6, .int .i64 a1)]) (w' := W2) (by kernel_rfl) ?_
  obtain ⟨t5, ht5, h⟩ := Option.bind_eq_some_iff.mp h
  refine RunF.call (d := some 7) (g := 12) (args := #[.int .i64 a1, .int .i64 3]) (k2 := (pin Go.Proofs.Tryd.f14 [1, 0] 3)) (by kernel_rfl) (scrimlaw10_within.calls k a1 3 t5 _ ht5) ?_
  rintro _ W4 ⟨rfl, hM_⟩
  replace hM := hM.call hM_
  clear hM_ ht5
  rcases two (decide (0 ≤ t5)) with c7 | c7
  · replace h := of_true h c7
    rcases two (decide (t5 < (3 : Int))) with c8 | c8
    · replace h := of_true h c8
      obtain ⟨q6, hAq6, hcq6, hfq6, hlq6⟩ := hM.num_at 0 rfl (i := t5) (of_decide_eq_true c7) (by have h_ := of_decide_eq_true c8; omega)
      refine RunF.y (idx_own (d := some 8) (A := (some ⟨g1, 0, none⟩)) (m := 3) (i := t5) (k2 := (pin Go.Proofs.Tryd.f14 [1, 0] 4)) (by kernel_rfl) (of_decide_eq_true c7) (by have h_ := of_decide_eq_true c8; omega) hAq6) trivial ?_
      refine RunF.y (ld_y (d := some 9) (p := ⟨q6, (t5 : Int).toNat, none⟩) (k2 := (pin Go.Proofs.Tryd.f14 [1, 0] 5)) (.int .i64 (rd ([16, 24, 32] : List Int) t5)) (by kernel_rfl)) hcq6 ?_
      refine RunF.go 1 [9, 10] (k' := (pin Go.Proofs.Tryd.f14 [1, 0] 6)) (L' := [(9, .int .i64 (rd ([16, 24, 32] : List Int) t5)), (10, .slice Ap0 a0.length cp0)]) (w' := W4) (by kernel_rfl) ?_
      obtain ⟨t10, ht10, h⟩ := Option.bind_eq_some_iff.mp h
      refine RunF.call (d := some 11) (g := 10) (args := #[.int .i64 (rd ([16, 24, 32] : List Int) t5), .slice Ap0 a0.length cp0]) (k2 := (pin Go.Proofs.Tryd.f14 [1, 0] 7)) (by kernel_rfl) (scrimlaw10_Bytes.calls k (rd ([16, 24, 32] : List Int) t5) Ap0 a0.length cp0 a0 t10 _ (hr0.mono hM.below) ht10) ?_
      rintro _ W9 ⟨A11, n12, c13, rfl, hM_⟩
      obtain rfl : t10.length = n12 := by have h_ := (hM_.rd 0 rfl).1; simpa [nums_length, bools_length, strs_length] using h_
      replace hM := hM.call hM_
      clear hM_ ht10
      refine RunF.go 2 [4] (k' := (pl Go.Proofs.Tryd.f14 [1, 1])) (L' := [(4, .slice A11 t10.length c13)]) (w' := W9) (by kernel_rfl) ?_
      obtain rfl := Option.some.inj h
      exact RunF.ret1 4 (.slice A11 t10.length c13) (fn := Go.Proofs.Tryd.f14) Go.Proofs.Tryd.func14 (by kernel_rfl) (by kernel_rfl) (by kernel_rfl) ⟨_, rfl, A11, t10.length, c13, rfl, (hM.pick [0] rfl rfl)⟩
    · replace h := of_false h c8
      cases h
  · replace h := of_false h c7
    cases h

/-! ### scrim/scrimref4.Affine: function 48 -/
mutual
def scrimref4_Affine.l0 : Nat → Int → (List Int) → Int → Int → Option (Int)
  | 0, _, _, _, _ => none
  | k + 1, a0, a1, x2_0, x7_0 => if (decide (x7_0 < 8)) = true then (if (decide (0 ≤ x7_0)) = true then (if (decide (x7_0 < (8 : Int))) = true then (scrimref4_Affine.l1 k a0 a1 x7_0 x2_0 0) else (none)) else (none)) else (some x2_0)
def scrimref4_Affine.l1 : Nat → Int → (List Int) → Int → Int → Int → Option (Int)
  | 0, _, _, _, _, _ => none
  | k + 1, a0, a1, x7_0, x2_1, x9_1 => if (decide (x9_1 < 8)) = true then (if (decide (0 ≤ x9_1)) = true then ((some (band .u8 (shrv .u8 (band .u8 (rd a1 x7_0) a0) x9_1) 1 : Int)).bind fun y10 => (if (decide (0 ≤ (U64 (x7_0)))) = true then (scrimref4_Affine.l1 k a0 a1 x7_0 (bxor .u8 x2_1 (shlv .u8 y10 (U64 (x7_0)))) (U64 (x9_1 + 1))) else (none))) else (none)) else (scrimref4_Affine.l0 k a0 a1 x2_1 (I64 (x7_0 + 1)))
end
def scrimref4_Affine.f (k : Nat) (a0 : Int) (a1 : List Int) (a2 : Int) : Option (Int) := scrimref4_Affine.l0 k a0 a1 a2 0
set_option maxRecDepth 100000 in
theorem scrimref4_Affine.calls (k : Nat) (a0 : Int) (a1 : List Int) (a2 : Int) (r : Int) (w : World) (hl1 : a1.length = 8) (h : scrimref4_Affine.f k a0 a1 a2 = some r) :
    Calls Go.Proofs.Tryd.prog 48 #[.int .u8 a0, .agg (nums .u8 a1).toArray, .int .u8 a2] w (Ret fun v w' => v = .int .u8 r ∧ Mem w w' []) := by
  unfold scrimref4_Affine.f at h
  refine calls_of [.int .u8 a0, .agg (nums .u8 a1).toArray, .int .u8 a2] (fn := Go.Proofs.Tryd.f48) Go.Proofs.Tryd.func48 (by kernel_rfl) (by kernel_rfl) ?_
  have hM := Mem.refl w
  refine RunF.go 2 [0, 1, 2] (k' := (pin Go.Proofs.Tryd.f48 [0] 0)) (L' := [(0, .int .u8 a0), (1, .agg (nums .u8 a1).toArray), (2, .int .u8 a2)]) (w' := w) (by kernel_rfl) ?_
  refine RunF.newVar 63 (nums .u8 a1) (d := some 4) (k2 := (pin Go.Proofs.Tryd.f48 [0] 1)) hM (by kernel_rfl) ?_
  intro g1 W2 hM
  refine RunF.go 9 [0, 2, 4, 7] (k' := (pl Go.Proofs.Tryd.f48 [1, 0, 1, 0, 0])) (L' := [(0, .int .u8 a0), (2, .int .u8 a2), (4, .pointer (some ⟨g1, 0, none⟩)), (7, .int .i64 0)]) (w' := W2) (by kernel_rfl) ?_
  have l0 : ∀ (k_ : Nat), k_ ≤ k → ∀ (x2_0 : Int) (x7_0 : Int) (W : World) (hM : Mem w W [⟨.pointer (some ⟨g1, 0, none⟩), 63, 0, nums .u8 a1⟩]) (h : scrimref4_Affine.l0 k_ a0 a1 x2_0 x7_0 = some r), RunF Go.Proofs.Tryd.prog (Ret fun v w' => v = .int .u8 r ∧ Mem w w' []) 48 (pl Go.Proofs.Tryd.f48 [1, 0, 1, 0, 0]) 33 [(0, .int .u8 a0), (2, .int .u8 x2_0), (4, .pointer (some ⟨g1, 0, none⟩)), (7, .int .i64 x7_0)] W := by
    intro k_
    induction k_ using Nat.strongRecOn with
    | _ k_ ih0 =>
      intro hk x2_0 x7_0 W hM h
      cases k_ with
      | zero => exact absurd h (by simp [scrimref4_Affine.l0])
      | succ k =>
        simp only [scrimref4_Affine.l0] at h
        replace ih0 : ∀ m, m ≤ k → _ := fun m hm => ih0 m (by omega) (by omega)
        refine RunF.go 6 [0, 2, 4, 7, 11] (k' := (pl Go.Proofs.Tryd.f48 [1, 0, 1, 0, 0, 0, 1])) (L' := [(0, .int .u8 a0), (2, .int .u8 x2_0), (4, .pointer (some ⟨g1, 0, none⟩)), (7, .int .i64 x7_0), (11, .bool (decide (x7_0 < 8)))]) (w' := W) (by kernel_rfl) ?_
        rcases two (decide (x7_0 < 8)) with c4 | c4
        · replace h := of_true h c4
          refine RunF.know 11 (b := true) (by kernel_rfl) c4 ?_
          refine RunF.go 7 [0, 2, 4, 7, 14] (k' := (pin Go.Proofs.Tryd.f48 [1, 0, 1, 0, 0, 1, 0, 0, 0] 1)) (L' := [(0, .int .u8 a0), (2, .int .u8 x2_0), (4, .pointer (some ⟨g1, 0, none⟩)), (7, .int .i64 x7_0), (14, .int .i64 x7_0)]) (w' := W) (by kernel_rfl) ?_
          rcases two (decide (0 ≤ x7_0)) with c6 | c6
          · replace h := of_true h c6
            rcases two (decide (x7_0 < (8 : Int))) with c7 | c7
            · replace h := of_true h c7
              obtain ⟨hcq5, hfq5, hlq5⟩ := hM.arr_num 0 rfl (i := x7_0) (of_decide_eq_true c6) (N := 8) hl1 (of_decide_eq_true c7)
              refine RunF.y (idxArr_own (d := some 15) (g := g1) (len := 8) (i := x7_0) (k2 := (pin Go.Proofs.Tryd.f48 [1, 0, 1, 0, 0, 1, 0, 0, 0] 2)) (by kernel_rfl) (of_decide_eq_true c6) (of_decide_eq_true c7)) trivial ?_
              refine RunF.y (ld_y (d := some 16) (p := ⟨g1, (x7_0 : Int).toNat, none⟩) (k2 := (pin Go.Proofs.Tryd.f48 [1, 0, 1, 0, 0, 1, 0, 0, 0] 3)) (.int .u8 (rd a1 x7_0)) (by kernel_rfl)) hcq5 ?_
              refine RunF.go 10 [0, 2, 4, 7, 8, 9] (k' := (pl Go.Proofs.Tryd.f48 [1, 0, 1, 0, 0, 1, 0, 0, 1, 1, 0, 0])) (L' := [(0, .int .u8 a0), (2, .int .u8 x2_0), (4, .pointer (some ⟨g1, 0, none⟩)), (7, .int .i64 x7_0), (8, .int .u8 (band .u8 (rd a1 x7_0) a0)), (9, .int .u64 0)]) (w' := W) (by kernel_rfl) ?_
              have l1 : ∀ (k_ : Nat), k_ ≤ k → ∀ (x2_1 : Int) (x9_1 : Int) (W : World) (hM : Mem w W [⟨.pointer (some ⟨g1, 0, none⟩), 63, 0, nums .u8 a1⟩]) (h : scrimref4_Affine.l1 k_ a0 a1 x7_0 x2_1 x9_1 = some r), RunF Go.Proofs.Tryd.prog (Ret fun v w' => v = .int .u8 r ∧ Mem w w' []) 48 (pl Go.Proofs.Tryd.f48 [1, 0, 1, 0, 0, 1, 0, 0, 1, 1, 0, 0]) 33 [(0, .int .u8 a0), (2, .int .u8 x2_1), (4, .pointer (some ⟨g1, 0, none⟩)), (7, .int .i64 x7_0), (8, .int .u8 (band .u8 (rd a1 x7_0) a0)), (9, .int .u64 x9_1)] W := by
                intro k_
                induction k_ using Nat.strongRecOn with
                | _ k_ ih1 =>
                  intro hk x2_1 x9_1 W hM h
                  cases k_ with
                  | zero => exact absurd h (by simp [scrimref4_Affine.l1])
                  | succ k =>
                    simp only [scrimref4_Affine.l1] at h
                    replace ih1 : ∀ m, m ≤ k → _ := fun m hm => ih1 m (by omega) (by omega)
                    replace ih0 : ∀ m, m ≤ k → _ := fun m hm => ih0 m (by omega)
                    refine RunF.go 6 [0, 2, 4, 7, 8, 9, 20] (k' := (pl Go.Proofs.Tryd.f48 [1, 0, 1, 0, 0, 1, 0, 0, 1, 1, 0, 0, 0, 1])) (L' := [(0, .int .u8 a0), (2, .int .u8 x2_1), (4, .pointer (some ⟨g1, 0, none⟩)), (7, .int .i64 x7_0), (8, .int .u8 (band .u8 (rd a1 x7_0) a0)), (9, .int .u64 x9_1), (20, .bool (decide (x9_1 < 8)))]) (w' := W) (by kernel_rfl) ?_
                    rcases two (decide (x9_1 < 8)) with c8 | c8
                    · replace h := of_true h c8
                      refine RunF.know 20 (b := true) (by kernel_rfl) c8 ?_
                      refine RunF.go 8 [0, 4, 7, 8, 9, 23, 24, 25] (k' := (pin Go.Proofs.Tryd.f48 [1, 0, 1, 0, 0, 1, 0, 0, 1, 1, 0, 0, 1, 0, 0] 3)) (L' := [(0, .int .u8 a0), (4, .pointer (some ⟨g1, 0, none⟩)), (7, .int .i64 x7_0), (8, .int .u8 (band .u8 (rd a1 x7_0) a0)), (9, .int .u64 x9_1), (23, .int .u8 x2_1), (24, .int .u8 (band .u8 (rd a1 x7_0) a0)), (25, .int .u64 x9_1)]) (w' := W) (by kernel_rfl) ?_
                      rcases two (decide (0 ≤ x9_1)) with c9 | c9
                      · replace h := of_true h c9
                        refine RunF.y (sh_y (d := some 26) (b := false) (kd := .u8) (x := band .u8 (rd a1 x7_0) a0) (y := x9_1) (k2 := (pin Go.Proofs.Tryd.f48 [1, 0, 1, 0, 0, 1, 0, 0, 1, 1, 0, 0, 1, 0, 0] 4)) (by kernel_rfl) c9) trivial ?_
                        refine RunF.go 3 [0, 4, 7, 8, 9, 23, 27, 29] (k' := (pin Go.Proofs.Tryd.f48 [1, 0, 1, 0, 0, 1, 0, 0, 1, 1, 0, 0, 1, 0, 0] 7)) (L' := [(0, .int .u8 a0), (4, .pointer (some ⟨g1, 0, none⟩)), (7, .int .i64 x7_0), (8, .int .u8 (band .u8 (rd a1 x7_0) a0)), (9, .int .u64 x9_1), (23, .int .u8 x2_1), (27, .int .u8 (band .u8 (shrv .u8 (band .u8 (rd a1 x7_0) a0) x9_1) 1)), (29, .int .u64 (U64 (x7_0)))]) (w' := W) (by kernel_rfl) ?_
                        obtain ⟨y10, hy, h⟩ := Option.bind_eq_some_iff.mp h
                        rw [show (band .u8 (shrv .u8 (band .u8 (rd a1 x7_0) a0) x9_1) 1) = y10 from Option.some.inj hy]
                        clear hy
                        rcases two (decide (0 ≤ (U64 (x7_0)))) with c11 | c11
                        · replace h := of_true h c11
                          refine RunF.y (sh_y (d := some 30) (b := true) (kd := .u8) (x := y10) (y := U64 (x7_0)) (k2 := (pin Go.Proofs.Tryd.f48 [1, 0, 1, 0, 0, 1, 0, 0, 1, 1, 0, 0, 1, 0, 0] 8)) (by kernel_rfl) c11) trivial ?_
                          refine RunF.go 10 [0, 2, 4, 7, 8, 9] (k' := (pl Go.Proofs.Tryd.f48 [1, 0, 1, 0, 0, 1, 0, 0, 1, 1, 0, 0])) (L' := [(0, .int .u8 a0), (2, .int .u8 (bxor .u8 x2_1 (shlv .u8 y10 (U64 (x7_0))))), (4, .pointer (some ⟨g1, 0, none⟩)), (7, .int .i64 x7_0), (8, .int .u8 (band .u8 (rd a1 x7_0) a0)), (9, .int .u64 (U64 (x9_1 + 1)))]) (w' := W) (by kernel_rfl) ?_
                          exact ih1 k (by omega) (bxor .u8 x2_1 (shlv .u8 y10 (U64 (x7_0)))) (U64 (x9_1 + 1)) _ (hM.pick [0] rfl rfl) h
                        · replace h := of_false h c11
                          cases h
                      · replace h := of_false h c9
                        cases h
                    · replace h := of_false h c8
                      refine RunF.know 20 (b := false) (by kernel_rfl) c8 ?_
                      refine RunF.go 9 [0, 2, 4, 7] (k' := (pl Go.Proofs.Tryd.f48 [1, 0, 1, 0, 0])) (L' := [(0, .int .u8 a0), (2, .int .u8 x2_1), (4, .pointer (some ⟨g1, 0, none⟩)), (7, .int .i64 (I64 (x7_0 + 1)))]) (w' := W) (by kernel_rfl) ?_
                      exact ih0 k (by omega) x2_1 (I64 (x7_0 + 1)) _ (hM.pick [0] rfl rfl) h
              exact l1 k (Nat.le_refl _) x2_0 0 _ (hM.pick [0] rfl rfl) h
            · replace h := of_false h c7
              cases h
          · replace h := of_false h c6
            cases h
        · replace h := of_false h c4
          refine RunF.know 11 (b := false) (by kernel_rfl) c4 ?_
          refine RunF.go 7 [6] (k' := (pl Go.Proofs.Tryd.f48 [1, 1, 1])) (L' := [(6, .int .u8 x2_0)]) (w' := W) (by kernel_rfl) ?_
          obtain rfl := Option.some.inj h
          exact RunF.ret1 6 (.int .u8 x2_0) (fn := Go.Proofs.Tryd.f48) Go.Proofs.Tryd.func48 (by kernel_rfl) (by kernel_rfl) (by kernel_rfl) ⟨_, rfl, rfl, (hM.pick [] rfl rfl)⟩
  exact l0 k (Nat.le_refl _) a2 0 _ (hM.pick [0] rfl rfl) h

/-! ### scrim/scrimref3.Mul: function 57 -/
def scrimref3_Mul.l0 : Nat → Int → Int → Int → Int → Int → Option (Int)
  | 0, _, _, _, _, _ => none
  | k + 1, a1, a2, x7_0, x8_0, x9_0 => if (decide (x9_0 < 8)) = true then (if (decide (0 ≤ x9_0)) = true then (if ((band .u8 (shrv .u8 a1 x9_0) 1) == 1) = true then (if (decide ((shl .i64 x8_0 1) ≥ 256)) = true then (scrimref3_Mul.l0 k a1 a2 (bxor .i64 x7_0 x8_0) (bxor .i64 (shl .i64 x8_0 1) a2) (U64 (x9_0 + 1))) else (scrimref3_Mul.l0 k a1 a2 (bxor .i64 x7_0 x8_0) (shl .i64 x8_0 1) (U64 (x9_0 + 1)))) else (if (decide ((shl .i64 x8_0 1) ≥ 256)) = true then (scrimref3_Mul.l0 k a1 a2 x7_0 (bxor .i64 (shl .i64 x8_0 1) a2) (U64 (x9_0 + 1))) else (scrimref3_Mul.l0 k a1 a2 x7_0 (shl .i64 x8_0 1) (U64 (x9_0 + 1))))) else (none)) else (some (U8 (x7_0)))
def scrimref3_Mul.f (k : Nat) (a0 : Int) (a1 : Int) (a2 : Int) : Option (Int) := scrimref3_Mul.l0 k a1 a2 0 (I64 (a0)) 0
set_option maxRecDepth 100000 in
theorem scrimref3_Mul.calls (k : Nat) (a0 : Int) (a1 : Int) (a2 : Int) (r : Int) (w : World) (h : scrimref3_Mul.f k a0 a1 a2 = some r) :
    Calls Go.Proofs.Tryd.prog 57 #[.int .u8 a0, .int .u8 a1, .int .i64 a2] w (Ret fun v w' => v = .int .u8 r ∧ Mem w w' []) := by
  unfold scrimref3_Mul.f at h
  refine calls_of [.int .u8 a0, .int .u8 a1, .int .i64 a2] (fn := Go.Proofs.Tryd.f57) Go.Proofs.Tryd.func57 (by kernel_rfl) (by kernel_rfl) ?_
  have hM := Mem.refl w
  refine RunF.go 18 [1, 2, 7, 8, 9] (k' := (pl Go.Proofs.Tryd.f57 [1, 1, 0, 1, 0, 0])) (L' := [(1, .int .u8 a1), (2, .int .i64 a2), (7, .int .i64 0), (8, .int .i64 (I64 (a0))), (9, .int .u64 0)]) (w' := w) (by kernel_rfl) ?_
  have l0 : ∀ (k_ : Nat), k_ ≤ k → ∀ (x7_0 : Int) (x8_0 : Int) (x9_0 : Int) (W : World) (hM : Mem w W []) (h : scrimref3_Mul.l0 k_ a1 a2 x7_0 x8_0 x9_0 = some r), RunF Go.Proofs.Tryd.prog (Ret fun v w' => v = .int .u8 r ∧ Mem w w' []) 57 (pl Go.Proofs.Tryd.f57 [1, 1, 0, 1, 0, 0]) 33 [(1, .int .u8 a1), (2, .int .i64 a2), (7, .int .i64 x7_0), (8, .int .i64 x8_0), (9, .int .u64 x9_0)] W := by
    intro k_
    induction k_ using Nat.strongRecOn with
    | _ k_ ih0 =>
      intro hk x7_0 x8_0 x9_0 W hM h
      cases k_ with
      | zero => exact absurd h (by simp [scrimref3_Mul.l0])
      | succ k =>
        simp only [scrimref3_Mul.l0] at h
        replace ih0 : ∀ m, m ≤ k → _ := fun m hm => ih0 m (by omega) (by omega)
        refine RunF.go 6 [1, 2, 7, 8, 9, 13] (k' := (pl Go.Proofs.Tryd.f57 [1, 1, 0, 1, 0, 0, 0, 1])) (L' := [(1, .int .u8 a1), (2, .int .i64 a2), (7, .int .i64 x7_0), (8, .int .i64 x8_0), (9, .int .u64 x9_0), (13, .bool (decide (x9_0 < 8)))]) (w' := W) (by kernel_rfl) ?_
        rcases two (decide (x9_0 < 8)) with c1 | c1
        · replace h := of_true h c1
          refine RunF.know 13 (b := true) (by kernel_rfl) c1 ?_
          refine RunF.go 9 [1, 2, 7, 8, 9, 16, 17] (k' := (pin Go.Proofs.Tryd.f57 [1, 1, 0, 1, 0, 0, 1, 0, 0, 0, 0] 2)) (L' := [(1, .int .u8 a1), (2, .int .i64 a2), (7, .int .i64 x7_0), (8, .int .i64 x8_0), (9, .int .u64 x9_0), (16, .int .u8 a1), (17, .int .u64 x9_0)]) (w' := W) (by kernel_rfl) ?_
          rcases two (decide (0 ≤ x9_0)) with c2 | c2
          · replace h := of_true h c2
            refine RunF.y (sh_y (d := some 18) (b := false) (kd := .u8) (x := a1) (y := x9_0) (k2 := (pin Go.Proofs.Tryd.f57 [1, 1, 0, 1, 0, 0, 1, 0, 0, 0, 0] 3)) (by kernel_rfl) c2) trivial ?_
            refine RunF.go 3 [1, 2, 7, 8, 9, 20] (k' := (pl Go.Proofs.Tryd.f57 [1, 1, 0, 1, 0, 0, 1, 0, 0, 0, 1])) (L' := [(1, .int .u8 a1), (2, .int .i64 a2), (7, .int .i64 x7_0), (8, .int .i64 x8_0), (9, .int .u64 x9_0), (20, .bool ((band .u8 (shrv .u8 a1 x9_0) 1) == 1))]) (w' := W) (by kernel_rfl) ?_
            rcases two (((band .u8 (shrv .u8 a1 x9_0) 1) == 1)) with c3 | c3
            · replace h := of_true h c3
              refine RunF.know 20 (b := true) (by kernel_rfl) c3 ?_
              refine RunF.go 18 [1, 2, 7, 8, 9, 27] (k' := (pl Go.Proofs.Tryd.f57 [1, 1, 0, 1, 0, 0, 1, 0, 0, 1, 1, 1])) (L' := [(1, .int .u8 a1), (2, .int .i64 a2), (7, .int .i64 (bxor .i64 x7_0 x8_0)), (8, .int .i64 (shl .i64 x8_0 1)), (9, .int .u64 x9_0), (27, .bool (decide ((shl .i64 x8_0 1) ≥ 256)))]) (w' := W) (by kernel_rfl) ?_
              rcases two (decide ((shl .i64 x8_0 1) ≥ 256)) with c4 | c4
              · replace h := of_true h c4
                refine RunF.know 27 (b := true) (by kernel_rfl) c4 ?_
                refine RunF.go 14 [1, 2, 7, 8, 9] (k' := (pl Go.Proofs.Tryd.f57 [1, 1, 0, 1, 0, 0])) (L' := [(1, .int .u8 a1), (2, .int .i64 a2), (7, .int .i64 (bxor .i64 x7_0 x8_0)), (8, .int .i64 (bxor .i64 (shl .i64 x8_0 1) a2)), (9, .int .u64 (U64 (x9_0 + 1)))]) (w' := W) (by kernel_rfl) ?_
                exact ih0 k (by omega) (bxor .i64 x7_0 x8_0) (bxor .i64 (shl .i64 x8_0 1) a2) (U64 (x9_0 + 1)) _ (hM.pick [] rfl rfl) h
              · replace h := of_false h c4
                refine RunF.know 27 (b := false) (by kernel_rfl) c4 ?_
                refine RunF.go 9 [1, 2, 7, 8, 9] (k' := (pl Go.Proofs.Tryd.f57 [1, 1, 0, 1, 0, 0])) (L' := [(1, .int .u8 a1), (2, .int .i64 a2), (7, .int .i64 (bxor .i64 x7_0 x8_0)), (8, .int .i64 (shl .i64 x8_0 1)), (9, .int .u64 (U64 (x9_0 + 1)))]) (w' := W) (by kernel_rfl) ?_
                exact ih0 k (by omega) (bxor .i64 x7_0 x8_0) (shl .i64 x8_0 1) (U64 (x9_0 + 1)) _ (hM.pick [] rfl rfl) h
            · replace h := of_false h c3
              refine RunF.know 20 (b := false) (by kernel_rfl) c3 ?_
              refine RunF.go 13 [1, 2, 7, 8, 9, 27] (k' := (pl Go.Proofs.Tryd.f57 [1, 1, 0, 1, 0, 0, 1, 0, 0, 1, 1, 1])) (L' := [(1, .int .u8 a1), (2, .int .i64 a2), (7, .int .i64 x7_0), (8, .int .i64 (shl .i64 x8_0 1)), (9, .int .u64 x9_0), (27, .bool (decide ((shl .i64 x8_0 1) ≥ 256)))]) (w' := W) (by kernel_rfl) ?_
              rcases two (decide ((shl .i64 x8_0 1) ≥ 256)) with c5 | c5
              · replace h := of_true h c5
                refine RunF.know 27 (b := true) (by kernel_rfl) c5 ?_
                refine RunF.go 14 [1, 2, 7, 8, 9] (k' := (pl Go.Proofs.Tryd.f57 [1, 1, 0, 1, 0, 0])) (L' := [(1, .int .u8 a1), (2, .int .i64 a2), (7, .int .i64 x7_0), (8, .int .i64 (bxor .i64 (shl .i64 x8_0 1) a2)), (9, .int .u64 (U64 (x9_0 + 1)))]) (w' := W) (by kernel_rfl) ?_
                exact ih0 k (by omega) x7_0 (bxor .i64 (shl .i64 x8_0 1) a2) (U64 (x9_0 + 1)) _ (hM.pick [] rfl rfl) h
              · replace h := of_false h c5
                refine RunF.know 27 (b := false) (by kernel_rfl) c5 ?_
                refine RunF.go 9 [1, 2, 7, 8, 9] (k' := (pl Go.Proofs.Tryd.f57 [1, 1, 0, 1, 0, 0])) (L' := [(1, .int .u8 a1), (2, .int .i64 a2), (7, .int .i64 x7_0), (8, .int .i64 (shl .i64 x8_0 1)), (9, .int .u64 (U64 (x9_0 + 1)))]) (w' := W) (by kernel_rfl) ?_
                exact ih0 k (by omega) x7_0 (shl .i64 x8_0 1) (U64 (x9_0 + 1)) _ (hM.pick [] rfl rfl) h
          · replace h := of_false h c2
            cases h
        · replace h := of_false h c1
          refine RunF.know 13 (b := false) (by kernel_rfl) c1 ?_
          refine RunF.go 8 [6] (k' := (pl Go.Proofs.Tryd.f57 [1, 1, 1, 1])) (L' := [(6, .int .u8 (U8 (x7_0)))]) (w' := W) (by kernel_rfl) ?_
          obtain rfl := Option.some.inj h
          exact RunF.ret1 6 (.int .u8 (U8 (x7_0))) (fn := Go.Proofs.Tryd.f57) Go.Proofs.Tryd.func57 (by kernel_rfl) (by kernel_rfl) (by kernel_rfl) ⟨_, rfl, rfl, (hM.pick [] rfl rfl)⟩
  exact l0 k (Nat.le_refl _) 0 (I64 (a0)) 0 _ (hM.pick [] rfl rfl) h

/-! ### scrim/scrimref3.Pow: function 49 -/
def scrimref3_Pow.l0 : Nat → Int → Int → Int → Int → Option (Int)
  | 0, _, _, _, _ => none
  | k + 1, a2, x0_0, x1_0, x7_0 => if (decide (x1_0 > 0)) = true then (if ((Int.tmod x1_0 2) == 1) = true then ((scrimref3_Mul.f k x7_0 x0_0 a2).bind fun t4 => ((scrimref3_Mul.f k x0_0 x0_0 a2).bind fun t6 => (scrimref3_Pow.l0 k a2 t6 (I64 (Int.tdiv x1_0 2)) t4))) else ((scrimref3_Mul.f k x0_0 x0_0 a2).bind fun t8 => (scrimref3_Pow.l0 k a2 t8 (I64 (Int.tdiv x1_0 2)) x7_0))) else (some x7_0)
def scrimref3_Pow.f (k : Nat) (a0 : Int) (a1 : Int) (a2 : Int) : Option (Int) := scrimref3_Pow.l0 k a2 a0 a1 1
set_option maxRecDepth 100000 in
theorem scrimref3_Pow.calls (k : Nat) (a0 : Int) (a1 : Int) (a2 : Int) (r : Int) (w : World) (h : scrimref3_Pow.f k a0 a1 a2 = some r) :
    Calls Go.Proofs.Tryd.prog 49 #[.int .u8 a0, .int .i64 a1, .int .i64 a2] w (Ret fun v w' => v = .int .u8 r ∧ Mem w w' []) := by
  unfold scrimref3_Pow.f at h
  refine calls_of [.int .u8 a0, .int .i64 a1, .int .i64 a2] (fn := Go.Proofs.Tryd.f49) Go.Proofs.Tryd.func49 (by kernel_rfl) (by kernel_rfl) ?_
  have hM := Mem.refl w
  refine RunF.go 11 [0, 1, 2, 7] (k' := (pl Go.Proofs.Tryd.f49 [1, 1, 0, 0, 0])) (L' := [(0, .int .u8 a0), (1, .int .i64 a1), (2, .int .i64 a2), (7, .int .u8 1)]) (w' := w) (by kernel_rfl) ?_
  have l0 : ∀ (k_ : Nat), k_ ≤ k → ∀ (x0_0 : Int) (x1_0 : Int) (x7_0 : Int) (W : World) (hM : Mem w W []) (h : scrimref3_Pow.l0 k_ a2 x0_0 x1_0 x7_0 = some r), RunF Go.Proofs.Tryd.prog (Ret fun v w' => v = .int .u8 r ∧ Mem w w' []) 49 (pl Go.Proofs.Tryd.f49 [1, 1, 0, 0, 0]) 24 [(0, .int .u8 x0_0), (1, .int .i64 x1_0), (2, .int .i64 a2), (7, .int .u8 x7_0)] W := by
    intro k_
    induction k_ using Nat.strongRecOn with
    | _ k_ ih0 =>
      intro hk x0_0 x1_0 x7_0 W hM h
      cases k_ with
      | zero => exact absurd h (by simp [scrimref3_Pow.l0])
      | succ k =>
        simp only [scrimref3_Pow.l0] at h
        replace ih0 : ∀ m, m ≤ k → _ := fun m hm => ih0 m (by omega) (by omega)
        refine RunF.go 6 [0, 1, 2, 7, 9] (k' := (pl Go.Proofs.Tryd.f49 [1, 1, 0, 0, 0, 0, 1])) (L' := [(0, .int .u8 x0_0), (1, .int .i64 x1_0), (2, .int .i64 a2), (7, .int .u8 x7_0), (9, .bool (decide (x1_0 > 0)))]) (w' := W) (by kernel_rfl) ?_
        rcases two (decide (x1_0 > 0)) with c1 | c1
        · replace h := of_true h c1
          refine RunF.know 9 (b := true) (by kernel_rfl) c1 ?_
          refine RunF.go 10 [0, 1, 2, 7, 12] (k' := (pl Go.Proofs.Tryd.f49 [1, 1, 0, 0, 0, 1, 0, 0, 1])) (L' := [(0, .int .u8 x0_0), (1, .int .i64 x1_0), (2, .int .i64 a2), (7, .int .u8 x7_0), (12, .bool ((Int.tmod x1_0 2) == 1))]) (w' := W) (by kernel_rfl) ?_
          rcases two (((Int.tmod x1_0 2) == 1)) with c2 | c2
          · replace h := of_true h c2
            refine RunF.know 12 (b := true) (by kernel_rfl) c2 ?_
            refine RunF.go 5 [0, 1, 2, 13, 14, 15] (k' := (pin Go.Proofs.Tryd.f49 [1, 1, 0, 0, 0, 1, 0, 0, 1, 0] 3)) (L' := [(0, .int .u8 x0_0), (1, .int .i64 x1_0), (2, .int .i64 a2), (13, .int .u8 x7_0), (14, .int .u8 x0_0), (15, .int .i64 a2)]) (w' := W) (by kernel_rfl) ?_
            obtain ⟨t4, ht4, h⟩ := Option.bind_eq_some_iff.mp h
            refine RunF.call (d := some 16) (g := 57) (args := #[.int .u8 x7_0, .int .u8 x0_0, .int .i64 a2]) (k2 := (pin Go.Proofs.Tryd.f49 [1, 1, 0, 0, 0, 1, 0, 0, 1, 0] 4)) (by kernel_rfl) (scrimref3_Mul.calls k x7_0 x0_0 a2 t4 _ ht4) ?_
            rintro _ W3 ⟨rfl, hM_⟩
            replace hM := hM.call hM_
            clear hM_ ht4
            refine RunF.go 7 [1, 2, 7, 17, 18, 19] (k' := (pin Go.Proofs.Tryd.f49 [1, 1, 0, 0, 0, 1, 0, 1, 0] 3)) (L' := [(1, .int .i64 x1_0), (2, .int .i64 a2), (7, .int .u8 t4), (17, .int .u8 x0_0), (18, .int .u8 x0_0), (19, .int .i64 a2)]) (w' := W3) (by kernel_rfl) ?_
            obtain ⟨t6, ht6, h⟩ := Option.bind_eq_some_iff.mp h
            refine RunF.call (d := some 20) (g := 57) (args := #[.int .u8 x0_0, .int .u8 x0_0, .int .i64 a2]) (k2 := (pin Go.Proofs.Tryd.f49 [1, 1, 0, 0, 0, 1, 0, 1, 0] 4)) (by kernel_rfl) (scrimref3_Mul.calls k x0_0 x0_0 a2 t6 _ ht6) ?_
            rintro _ W5 ⟨rfl, hM_⟩
            replace hM := hM.call hM_
            clear hM_ ht6
            refine RunF.go 9 [0, 1, 2, 7] (k' := (pl Go.Proofs.Tryd.f49 [1, 1, 0, 0, 0])) (L' := [(0, .int .u8 t6), (1, .int .i64 (I64 (Int.tdiv x1_0 2))), (2, .int .i64 a2), (7, .int .u8 t4)]) (w' := W5) (by kernel_rfl) ?_
            exact ih0 k (by omega) t6 (I64 (Int.tdiv x1_0 2)) t4 _ (hM.pick [] rfl rfl) h
          · replace h := of_false h c2
            refine RunF.know 12 (b := false) (by kernel_rfl) c2 ?_
            refine RunF.go 7 [1, 2, 7, 17, 18, 19] (k' := (pin Go.Proofs.Tryd.f49 [1, 1, 0, 0, 0, 1, 0, 1, 0] 3)) (L' := [(1, .int .i64 x1_0), (2, .int .i64 a2), (7, .int .u8 x7_0), (17, .int .u8 x0_0), (18, .int .u8 x0_0), (19, .int .i64 a2)]) (w' := W) (by kernel_rfl) ?_
            obtain ⟨t8, ht8, h⟩ := Option.bind_eq_some_iff.mp h
            refine RunF.call (d := some 20) (g := 57) (args := #[.int .u8 x0_0, .int .u8 x0_0, .int .i64 a2]) (k2 := (pin Go.Proofs.Tryd.f49 [1, 1, 0, 0, 0, 1, 0, 1, 0] 4)) (by kernel_rfl) (scrimref3_Mul.calls k x0_0 x0_0 a2 t8 _ ht8) ?_
            rintro _ W7 ⟨rfl, hM_⟩
            replace hM := hM.call hM_
            clear hM_ ht8
            refine RunF.go 9 [0, 1, 2, 7] (k' := (pl Go.Proofs.Tryd.f49 [1, 1, 0, 0, 0])) (L' := [(0, .int .u8 t8), (1, .int .i64 (I64 (Int.tdiv x1_0 2))), (2, .int .i64 a2), (7, .int .u8 x7_0)]) (w' := W7) (by kernel_rfl) ?_
            exact ih0 k (by omega) t8 (I64 (Int.tdiv x1_0 2)) x7_0 _ (hM.pick [] rfl rfl) h
        · replace h := of_false h c1
          refine RunF.know 9 (b := false) (by kernel_rfl) c1 ?_
          refine RunF.go 7 [6] (k' := (pl Go.Proofs.Tryd.f49 [1, 1, 1, 1])) (L' := [(6, .int .u8 x7_0)]) (w' := W) (by kernel_rfl) ?_
          obtain rfl := Option.some.inj h
          exact RunF.ret1 6 (.int .u8 x7_0) (fn := Go.Proofs.Tryd.f49) Go.Proofs.Tryd.func49 (by kernel_rfl) (by kernel_rfl) (by kernel_rfl) ⟨_, rfl, rfl, (hM.pick [] rfl rfl)⟩
  exact l0 k (Nat.le_refl _) a0 a1 1 _ (hM.pick [] rfl rfl) h

/-! ### scrim/scrimref4.Make: function 37 -/
def scrimref4_Make.l0 : Nat → Int → Int → (List Int) → Int → (List Int) → Int → Option (List Int)
  | 0, _, _, _, _, _, _ => none
  | k + 1, a0, a1, a2, a3, x9_0, x10_0 => if (decide (x10_0 < 256)) = true then ((scrimref3_Pow.f k (U8 (x10_0)) a0 a1).bind fun t11 => ((scrimref4_Affine.f k t11 a2 a3).bind fun t13 => (if (decide (0 ≤ x10_0)) = true then (if (decide (x10_0 < (256 : Int))) = true then (scrimref4_Make.l0 k a0 a1 a2 a3 (x9_0.set (x10_0 : Int).toNat t13) (I64 (x10_0 + 1))) else (none)) else (none)))) else (some x9_0)
def scrimref4_Make.f (k : Nat) (a0 : Int) (a1 : Int) (a2 : List Int) (a3 : Int) : Option (List Int) := scrimref4_Make.l0 k a0 a1 a2 a3 (List.replicate 256 (0 : Int)) 0
set_option maxRecDepth 100000 in
theorem scrimref4_Make.calls (k : Nat) (a0 : Int) (a1 : Int) (a2 : List Int) (a3 : Int) (r : List Int) (w : World) (hl2 : a2.length = 8) (h : scrimref4_Make.f k a0 a1 a2 a3 = some r) :
    Calls Go.Proofs.Tryd.prog 37 #[.int .i64 a0, .int .i64 a1, .agg (nums .u8 a2).toArray, .int .u8 a3] w (Ret fun v w' => ∃ A0' n0' c0', v = .slice A0' n0' c0' ∧ Mem w w' [⟨.slice A0' n0' c0', 5, 1, nums .u8 r⟩]) := by
  unfold scrimref4_Make.f at h
  refine calls_of [.int .i64 a0, .int .i64 a1, .agg (nums .u8 a2).toArray, .int .u8 a3] (fn := Go.Proofs.Tryd.f37) Go.Proofs.Tryd.func37 (by kernel_rfl) (by kernel_rfl) ?_
  have hM := Mem.refl w
  refine RunF.go 2 [0, 1, 2, 3] (k' := (pin Go.Proofs.Tryd.f37 [0] 0)) (L' := [(0, .int .i64 a0), (1, .int .i64 a1), (2, .agg (nums .u8 a2).toArray), (3, .int .u8 a3)]) (w' := w) (by kernel_rfl) ?_
  refine RunF.newVar 63 (nums .u8 a2) (d := some 6) (k2 := (pin Go.Proofs.Tryd.f37 [0] 1)) hM (by kernel_rfl) ?_
  intro g1 W2 hM
  refine RunF.go 4 [0, 1, 3, 6] (k' := (pin Go.Proofs.Tryd.f37 [1, 0] 0)) (L' := [(0, .int .i64 a0), (1, .int .i64 a1), (3, .int .u8 a3), (6, .pointer (some ⟨g1, 0, none⟩))]) (w' := W2) (by kernel_rfl) ?_
  obtain ⟨W4, hD, hM', hB_⟩ := mk_does (P := Go.Proofs.Tryd.prog) (n := 28) (k := (pin Go.Proofs.Tryd.f37 [1, 0] 0)) (L := [(0, .int .i64 a0), (1, .int .i64 a1), (3, .int .u8 a3), (6, .pointer (some ⟨g1, 0, none⟩))]) (d := some 11) (e := 5) (z := .int .u8 0) (l := 256) (c := 256) (k2 := (pin Go.Proofs.Tryd.f37 [1, 0] 1)) (by kernel_rfl) (by omega) (by omega) (by omega) hM
  rw [rep_nums] at hM'
  refine RunF.does hD ?_
  replace hM := hM'; clear hD hM'
  generalize W2.heap.size = g5 at hM ⊢
  refine RunF.go 9 [0, 1, 3, 6, 9, 10] (k' := (pl Go.Proofs.Tryd.f37 [1, 1, 0, 1, 0, 0])) (L' := [(0, .int .i64 a0), (1, .int .i64 a1), (3, .int .u8 a3), (6, .pointer (some ⟨g1, 0, none⟩)), (9, .slice (some ⟨g5, 0, none⟩) 256 256), (10, .int .i64 0)]) (w' := W4) (by kernel_rfl) ?_
  have l0 : ∀ (k_ : Nat), k_ ≤ k → ∀ (x9_0 : List Int) (x10_0 : Int) (W : World) (hM : Mem w W [⟨.pointer (some ⟨g1, 0, none⟩), 63, 0, nums .u8 a2⟩, ⟨.slice (some ⟨g5, 0, none⟩) 256 256, 5, 1, nums .u8 x9_0⟩]) (h : scrimref4_Make.l0 k_ a0 a1 a2 a3 x9_0 x10_0 = some r), RunF Go.Proofs.Tryd.prog (Ret fun v w' => ∃ A0' n0' c0', v = .slice A0' n0' c0' ∧ Mem w w' [⟨.slice A0' n0' c0', 5, 1, nums .u8 r⟩]) 37 (pl Go.Proofs.Tryd.f37 [1, 1, 0, 1, 0, 0]) 28 [(0, .int .i64 a0), (1, .int .i64 a1), (3, .int .u8 a3), (6, .pointer (some ⟨g1, 0, none⟩)), (9, .slice (some ⟨g5, 0, none⟩) 256 256), (10, .int .i64 x10_0)] W := by
    intro k_
    induction k_ using Nat.strongRecOn with
    | _ k_ ih0 =>
      intro hk x9_0 x10_0 W hM h
      cases k_ with
      | zero => exact absurd h (by simp [scrimref4_Make.l0])
      | succ k =>
        simp only [scrimref4_Make.l0] at h
        replace ih0 : ∀ m, m ≤ k → _ := fun m hm => ih0 m (by omega) (by omega)
        refine RunF.go 6 [0, 1, 3, 6, 9, 10, 13] (k' := (pl Go.Proofs.Tryd.f37 [1, 1, 0, 1, 0, 0, 0, 1])) (L' := [(0, .int .i64 a0), (1, .int .i64 a1), (3, .int .u8 a3), (6, .pointer (some ⟨g1, 0, none⟩)), (9, .slice (some ⟨g5, 0, none⟩) 256 256), (10, .int .i64 x10_0), (13, .bool (decide (x10_0 < 256)))]) (w' := W) (by kernel_rfl) ?_
        rcases two (decide (x10_0 < 256)) with c7 | c7
        · replace h := of_true h c7
          refine RunF.know 13 (b := true) (by kernel_rfl) c7 ?_
          refine RunF.go 4 [0, 1, 3, 6, 9, 10] (k' := (pl Go.Proofs.Tryd.f37 [1, 1, 0, 1, 0, 0, 1, 0, 0])) (L' := [(0, .int .i64 a0), (1, .int .i64 a1), (3, .int .u8 a3), (6, .pointer (some ⟨g1, 0, none⟩)), (9, .slice (some ⟨g5, 0, none⟩) 256 256), (10, .int .i64 x10_0)]) (w' := W) (by kernel_rfl) ?_
          refine RunF.draw (Still ({ W with drawn := W.drawn + 1 } : World) [.slice (some ⟨g5, 0, none⟩) 256 256]) (by kernel_rfl) (by kernel_rfl) ?_
          have hMd9 := hM.drew
          have hS := Still.refl ({ W with drawn := W.drawn + 1 } : World) [.slice (some ⟨g5, 0, none⟩) 256 256]
          generalize ({ W with drawn := W.drawn + 1 } : World) = W8 at hMd9 hS ⊢
          replace hM := hMd9
          refine RunAny.y 0 (by kernel_rfl) (yl_pure (d := some 16) (v := .slice (some ⟨g5, 0, none⟩) 256 256) (k2 := [.inRegion (opsOf (pl Go.Proofs.Tryd.f37 [1, 1, 0, 1, 0, 0, 1, 0, 0])) []]) fun w => by kernel_rfl) (fun _ _ => trivial) hS ?_
          refine RunAny.y 1 (by kernel_rfl) (yl_pure (d := some 17) (v := .int .i64 x10_0) (k2 := [.inRegion (opsOf (pl Go.Proofs.Tryd.f37 [1, 1, 0, 1, 0, 0, 1, 0, 0])) []]) fun w => by kernel_rfl) (fun _ _ => trivial) hS ?_
          refine RunAny.y 2 (by kernel_rfl) (yl_pure (d := some 18) (v := .int .i64 x10_0) (k2 := [.inRegion (opsOf (pl Go.Proofs.Tryd.f37 [1, 1, 0, 1, 0, 0, 1, 0, 0])) []]) fun w => by kernel_rfl) (fun _ _ => trivial) hS ?_
          refine RunAny.y 3 (by kernel_rfl) (yl_pure (d := some 19) (v := .int .u8 (U8 (x10_0))) (k2 := [.inRegion (opsOf (pl Go.Proofs.Tryd.f37 [1, 1, 0, 1, 0, 0, 1, 0, 0])) []]) fun w => by kernel_rfl) (fun _ _ => trivial) hS ?_
          refine RunAny.y 4 (by kernel_rfl) (yl_pure (d := some 20) (v := .int .i64 a0) (k2 := [.inRegion (opsOf (pl Go.Proofs.Tryd.f37 [1, 1, 0, 1, 0, 0, 1, 0, 0])) []]) fun w => by kernel_rfl) (fun _ _ => trivial) hS ?_
          refine RunAny.y 5 (by kernel_rfl) (yl_pure (d := some 21) (v := .int .i64 a1) (k2 := [.inRegion (opsOf (pl Go.Proofs.Tryd.f37 [1, 1, 0, 1, 0, 0, 1, 0, 0])) []]) fun w => by kernel_rfl) (fun _ _ => trivial) hS ?_
          refine RunAny.y 7 (by kernel_rfl) (ldv_y (d := some 23) (g := g1) (N := 8) (ty := 63) (k2 := [.inRegion (opsOf (pl Go.Proofs.Tryd.f37 [1, 1, 0, 1, 0, 0, 1, 0, 0])) []]) (nums .u8 a2) (by kernel_rfl) (by simp only [nums_length, bools_length, strs_length]; exact hl2)) (fun _ hs => hs.block (hM.block 0 rfl) (by intro v hv; simp only [List.mem_cons, List.not_mem_nil, or_false] at hv; rcases hv with rfl; exact (hM.ne 0 1 rfl rfl rfl rfl))) hS ?_
          refine RunAny.y 8 (by kernel_rfl) (yl_pure (d := some 24) (v := .int .u8 a3) (k2 := [.inRegion (opsOf (pl Go.Proofs.Tryd.f37 [1, 1, 0, 1, 0, 0, 1, 0, 0])) []]) fun w => by kernel_rfl) (fun _ _ => trivial) hS ?_
          obtain ⟨t11, ht11, h⟩ := Option.bind_eq_some_iff.mp h
          refine RunAny.call 6 (d := some 22) (g := 49) (args := #[.int .u8 (U8 (x10_0)), .int .i64 a0, .int .i64 a1]) (by kernel_rfl) (by kernel_rfl) (scrimref3_Pow.calls k (U8 (x10_0)) a0 a1 t11 _ ht11) (by rintro _ _ ⟨rfl, hM_⟩; exact hS.below hM_.below) ?_
          rintro _ W10 ⟨rfl, hM_⟩
          replace hS := hS.below hM_.below
          replace hM := hM.call hM_
          clear hM_ ht11
          refine RunAny.rebase hS ?_
          replace hS := Still.refl W10 [.slice (some ⟨g5, 0, none⟩) 256 256]
          obtain ⟨t13, ht13, h⟩ := Option.bind_eq_some_iff.mp h
          refine RunAny.call 9 (d := some 25) (g := 48) (args := #[.int .u8 t11, .agg (nums .u8 a2).toArray, .int .u8 a3]) (by kernel_rfl) (by kernel_rfl) (scrimref4_Affine.calls k t11 a2 a3 t13 _ hl2 ht13) (by rintro _ _ ⟨rfl, hM_⟩; exact hS.below hM_.below) ?_
          rintro _ W12 ⟨rfl, hM_⟩
          replace hS := hS.below hM_.below
          replace hM := hM.call hM_
          clear hM_ ht13
          refine RunAny.rebase hS ?_
          replace hS := Still.refl W12 [.slice (some ⟨g5, 0, none⟩) 256 256]
          rcases two (decide (0 ≤ x10_0)) with c15 | c15
          · replace h := of_true h c15
            rcases two (decide (x10_0 < (256 : Int))) with c16 | c16
            · replace h := of_true h c16
              obtain ⟨q14, hAq14, hcq14, hfq14, hlq14⟩ := hM.num_at 1 rfl (i := x10_0) (of_decide_eq_true c15) (by have h_ := of_decide_eq_true c16; omega)
              refine RunAny.y 10 (by kernel_rfl) (idx_own (d := some 26) (A := (some ⟨g5, 0, none⟩)) (m := 256) (i := x10_0) (k2 := [.inRegion (opsOf (pl Go.Proofs.Tryd.f37 [1, 1, 0, 1, 0, 0, 1, 0, 0])) []]) (by kernel_rfl) (of_decide_eq_true c15) (by have h_ := of_decide_eq_true c16; omega) hAq14) (fun _ _ => trivial) hS ?_
              obtain ⟨g_, hA_, hc_, hf_, hl_⟩ := hM.num_at 1 rfl (i := x10_0) (of_decide_eq_true c15) (by have h_ := of_decide_eq_true c16; omega)
              obtain rfl : q14 = g_ := by rw [hAq14] at hA_; injection hA_ with hA_; injection hA_
              have hS' := hS.set (v := .slice (some ⟨g5, 0, none⟩) 256 256) (g := q14) (i := (x10_0 : Int).toNat) (by simp) (by rw [hAq14]; rfl) (.int .u8 t13)
              refine RunAny.doesU 11 (by kernel_rfl) (st_u (p := (⟨q14, (x10_0 : Int).toNat, none⟩ : Addr)) (v := .int .u8 t13) (k2 := [.inRegion (opsOf (pl Go.Proofs.Tryd.f37 [1, 1, 0, 1, 0, 0, 1, 0, 0])) []]) (by kernel_rfl) hc_ hf_) hS' ?_
              replace hM : Mem w (W12.setCell (⟨q14, (x10_0 : Int).toNat, none⟩ : Addr) (.int .u8 t13)) [⟨.pointer (some ⟨g1, 0, none⟩), 63, 0, nums .u8 a2⟩, ⟨.slice (some ⟨g5, 0, none⟩) 256 256, 5, 1, nums .u8 (x9_0.set (x10_0 : Int).toNat t13)⟩] := Mem.put_num [⟨.pointer (some ⟨g1, 0, none⟩), 63, 0, nums .u8 a2⟩] [] (hM.pick [0, 1] rfl rfl) hAq14 _ hl_ _
              generalize W12.setCell (⟨q14, (x10_0 : Int).toNat, none⟩ : Addr) (.int .u8 t13) = W17 at hM hS' ⊢
              clear hc_ hf_ hl_ hA_ hcq14
              replace hS := hS'
              refine RunAny.rebase hS ?_
              replace hS := Still.refl W17 [.slice (some ⟨g5, 0, none⟩) 256 256]
              refine RunAny.done (by kernel_rfl) ?_
              clear hS
              refine RunF.go 7 [0, 1, 3, 6, 9, 10] (k' := (pl Go.Proofs.Tryd.f37 [1, 1, 0, 1, 0, 0])) (L' := [(0, .int .i64 a0), (1, .int .i64 a1), (3, .int .u8 a3), (6, .pointer (some ⟨g1, 0, none⟩)), (9, .slice (some ⟨g5, 0, none⟩) 256 256), (10, .int .i64 (I64 (x10_0 + 1)))]) (w' := W17) (by kernel_rfl) ?_
              exact ih0 k (by omega) (x9_0.set (x10_0 : Int).toNat t13) (I64 (x10_0 + 1)) _ (hM.pick [0, 1] rfl rfl) h
            · replace h := of_false h c16
              cases h
          · replace h := of_false h c15
            cases h
        · replace h := of_false h c7
          refine RunF.know 13 (b := false) (by kernel_rfl) c7 ?_
          refine RunF.go 7 [8] (k' := (pl Go.Proofs.Tryd.f37 [1, 1, 1, 1])) (L' := [(8, .slice (some ⟨g5, 0, none⟩) 256 256)]) (w' := W) (by kernel_rfl) ?_
          obtain rfl := Option.some.inj h
          exact RunF.ret1 8 (.slice (some ⟨g5, 0, none⟩) 256 256) (fn := Go.Proofs.Tryd.f37) Go.Proofs.Tryd.func37 (by kernel_rfl) (by kernel_rfl) (by kernel_rfl) ⟨_, rfl, (some ⟨g5, 0, none⟩), 256, 256, rfl, (hM.pick [1] rfl rfl)⟩
  exact l0 k (Nat.le_refl _) (List.replicate 256 (0 : Int)) 0 _ (hM.pick [1, 0] rfl rfl) h

/-! ### scrim/scrimref4.Is: function 50 -/
def scrimref4_Is.l0 : Nat → (List Int) → (List Bool) → Int → Option (Bool)
  | 0, _, _, _ => none
  | k + 1, a0, x3_0, x4_0 => if (decide (x4_0 < (a0.length : Int))) = true then (if (decide (0 ≤ x4_0)) = true then (if (decide (x4_0 < (a0.length : Int))) = true then ((some (decide ((I64 (rd a0 x4_0)) ≥ (a0.length : Int)) : Bool)).bind fun y8 => (if y8 = true then (some false) else (if (decide (0 ≤ x4_0)) = true then (if (decide (x4_0 < (a0.length : Int))) = true then (if (decide (0 ≤ (rd a0 x4_0))) = true then (if (decide ((rd a0 x4_0) < (256 : Int))) = true then (if (rdb x3_0 (rd a0 x4_0)) = true then (some false) else (if (decide (0 ≤ x4_0)) = true then (if (decide (x4_0 < (a0.length : Int))) = true then (if (decide (0 ≤ (rd a0 x4_0))) = true then (if (decide ((rd a0 x4_0) < (256 : Int))) = true then (scrimref4_Is.l0 k a0 (x3_0.set (rd a0 x4_0 : Int).toNat true) (I64 (x4_0 + 1))) else (none)) else (none)) else (none)) else (none))) else (none)) else (none)) else (none)) else (none)))) else (none)) else (none)) else (some true)
def scrimref4_Is.f (k : Nat) (a0 : List Int) : Option (Bool) := scrimref4_Is.l0 k a0 (List.replicate 256 false) 0
set_option maxRecDepth 100000 in
theorem scrimref4_Is.calls (k : Nat) (Ap0 : Option Addr) (np0 cp0 : Nat) (a0 : List Int) (r : Bool) (w : World) (hr0 : Rd w (.slice Ap0 np0 cp0) (nums .u8 a0)) (h : scrimref4_Is.f k a0 = some r) :
    Calls Go.Proofs.Tryd.prog 50 #[(.slice Ap0 np0 cp0)] w (Ret fun v w' => v = .bool r ∧ Mem w w' []) := by
  obtain rfl : a0.length = np0 := by have h_ := hr0.1; simpa [nums_length, bools_length, strs_length] using h_
  unfold scrimref4_Is.f at h
  refine calls_of [.slice Ap0 a0.length cp0] (fn := Go.Proofs.Tryd.f50) Go.Proofs.Tryd.func50 (by kernel_rfl) (by kernel_rfl) ?_
  have hM := Mem.refl w
  refine RunF.go 6 [0] (k' := (pin Go.Proofs.Tryd.f50 [1, 0] 0)) (L' := [(0, .slice Ap0 a0.length cp0)]) (w' := w) (by kernel_rfl) ?_
  obtain ⟨W1, hD, hM', hB_⟩ := mk_does (P := Go.Proofs.Tryd.prog) (n := 35) (k := (pin Go.Proofs.Tryd.f50 [1, 0] 0)) (L := [(0, .slice Ap0 a0.length cp0)]) (d := some 5) (e := 4) (z := .bool false) (l := 256) (c := 256) (k2 := (pin Go.Proofs.Tryd.f50 [1, 0] 1)) (by kernel_rfl) (by omega) (by omega) (by omega) hM
  rw [rep_bools] at hM'
  refine RunF.does hD ?_
  replace hM := hM'; clear hD hM'
  generalize w.heap.size = g2 at hM ⊢
  refine RunF.go 9 [0, 3, 4] (k' := (pl Go.Proofs.Tryd.f50 [1, 1, 0, 1, 0, 0])) (L' := [(0, .slice Ap0 a0.length cp0), (3, .slice (some ⟨g2, 0, none⟩) 256 256), (4, .int .i64 0)]) (w' := W1) (by kernel_rfl) ?_
  have l0 : ∀ (k_ : Nat), k_ ≤ k → ∀ (x3_0 : List Bool) (x4_0 : Int) (W : World) (hM : Mem w W [⟨.slice (some ⟨g2, 0, none⟩) 256 256, 4, 1, bools x3_0⟩]) (h : scrimref4_Is.l0 k_ a0 x3_0 x4_0 = some r), RunF Go.Proofs.Tryd.prog (Ret fun v w' => v = .bool r ∧ Mem w w' []) 50 (pl Go.Proofs.Tryd.f50 [1, 1, 0, 1, 0, 0]) 35 [(0, .slice Ap0 a0.length cp0), (3, .slice (some ⟨g2, 0, none⟩) 256 256), (4, .int .i64 x4_0)] W := by
    intro k_
    induction k_ using Nat.strongRecOn with
    | _ k_ ih0 =>
      intro hk x3_0 x4_0 W hM h
      cases k_ with
      | zero => exact absurd h (by simp [scrimref4_Is.l0])
      | succ k =>
        simp only [scrimref4_Is.l0] at h
        replace ih0 : ∀ m, m ≤ k → _ := fun m hm => ih0 m (by omega) (by omega)
        refine RunF.go 8 [0, 3, 4, 9] (k' := (pl Go.Proofs.Tryd.f50 [1, 1, 0, 1, 0, 0, 0, 1])) (L' := [(0, .slice Ap0 a0.length cp0), (3, .slice (some ⟨g2, 0, none⟩) 256 256), (4, .int .i64 x4_0), (9, .bool (decide (x4_0 < (a0.length : Int))))]) (w' := W) (by kernel_rfl) ?_
        rcases two (decide (x4_0 < (a0.length : Int))) with c4 | c4
        · replace h := of_true h c4
          refine RunF.know 9 (b := true) (by kernel_rfl) c4 ?_
          refine RunF.go 9 [0, 3, 4, 12, 13] (k' := (pin Go.Proofs.Tryd.f50 [1, 1, 0, 1, 0, 0, 1, 0, 0, 0, 0] 2)) (L' := [(0, .slice Ap0 a0.length cp0), (3, .slice (some ⟨g2, 0, none⟩) 256 256), (4, .int .i64 x4_0), (12, .slice Ap0 a0.length cp0), (13, .int .i64 x4_0)]) (w' := W) (by kernel_rfl) ?_
          rcases two (decide (0 ≤ x4_0)) with c6 | c6
          · replace h := of_true h c6
            rcases two (decide (x4_0 < (a0.length : Int))) with c7 | c7
            · replace h := of_true h c7
              obtain ⟨q5, hAq5, hcq5⟩ := Rd.num (hr0.mono hM.below) (i := x4_0) (of_decide_eq_true c6) (by have h_ := of_decide_eq_true c7; omega)
              refine RunF.y (idx_y (d := some 14) (A := Ap0) (m := a0.length) (i := x4_0) (k2 := (pin Go.Proofs.Tryd.f50 [1, 1, 0, 1, 0, 0, 1, 0, 0, 0, 0] 3)) (by kernel_rfl) (of_decide_eq_true c6) (by have h_ := of_decide_eq_true c7; omega) hAq5) trivial ?_
              refine RunF.y (ld_y (d := some 15) (p := (q5.add (x4_0 : Int).toNat)) (k2 := (pin Go.Proofs.Tryd.f50 [1, 1, 0, 1, 0, 0, 1, 0, 0, 0, 0] 4)) (.int .u8 (rd a0 x4_0)) (by kernel_rfl)) hcq5 ?_
              refine RunF.go 5 [0, 3, 4, 20] (k' := (pin Go.Proofs.Tryd.f50 [1, 1, 0, 1, 0, 0, 1, 0, 0, 0, 0] 9)) (L' := [(0, .slice Ap0 a0.length cp0), (3, .slice (some ⟨g2, 0, none⟩) 256 256), (4, .int .i64 x4_0), (20, .bool (decide ((I64 (rd a0 x4_0)) ≥ (a0.length : Int))))]) (w' := W) (by kernel_rfl) ?_
              obtain ⟨y8, hy, h⟩ := Option.bind_eq_some_iff.mp h
              rw [show (decide ((I64 (rd a0 x4_0)) ≥ (a0.length : Int))) = y8 from Option.some.inj hy]
              clear hy
              rcases two (y8) with c9 | c9
              · replace h := of_true h c9
                refine RunF.know 20 (b := true) (by kernel_rfl) c9 ?_
                refine RunF.go 14 [2] (k' := (pl Go.Proofs.Tryd.f50 [1, 1, 0, 1, 0, 0, 1, 0, 0, 0, 1, 0, 1])) (L' := [(2, .bool false)]) (w' := W) (by kernel_rfl) ?_
                obtain rfl := Option.some.inj h
                exact RunF.ret1 2 (.bool false) (fn := Go.Proofs.Tryd.f50) Go.Proofs.Tryd.func50 (by kernel_rfl) (by kernel_rfl) (by kernel_rfl) ⟨_, rfl, rfl, (hM.pick [] rfl rfl)⟩
              · replace h := of_false h c9
                refine RunF.know 20 (b := false) (by kernel_rfl) c9 ?_
                refine RunF.go 3 [0, 3, 4, 20, 21, 22, 23] (k' := (pin Go.Proofs.Tryd.f50 [1, 1, 0, 1, 0, 0, 1, 0, 0, 0, 0] 12)) (L' := [(0, .slice Ap0 a0.length cp0), (3, .slice (some ⟨g2, 0, none⟩) 256 256), (4, .int .i64 x4_0), (20, .bool false), (21, .slice (some ⟨g2, 0, none⟩) 256 256), (22, .slice Ap0 a0.length cp0), (23, .int .i64 x4_0)]) (w' := W) (by kernel_rfl) ?_
                rcases two (decide (0 ≤ x4_0)) with c11 | c11
                · replace h := of_true h c11
                  rcases two (decide (x4_0 < (a0.length : Int))) with c12 | c12
                  · replace h := of_true h c12
                    obtain ⟨q10, hAq10, hcq10⟩ := Rd.num (hr0.mono hM.below) (i := x4_0) (of_decide_eq_true c11) (by have h_ := of_decide_eq_true c12; omega)
                    refine RunF.y (idx_y (d := some 24) (A := Ap0) (m := a0.length) (i := x4_0) (k2 := (pin Go.Proofs.Tryd.f50 [1, 1, 0, 1, 0, 0, 1, 0, 0, 0, 0] 13)) (by kernel_rfl) (of_decide_eq_true c11) (by have h_ := of_decide_eq_true c12; omega) hAq10) trivial ?_
                    refine RunF.y (ld_y (d := some 25) (p := (q10.add (x4_0 : Int).toNat)) (k2 := (pin Go.Proofs.Tryd.f50 [1, 1, 0, 1, 0, 0, 1, 0, 0, 0, 0] 14)) (.int .u8 (rd a0 x4_0)) (by kernel_rfl)) hcq10 ?_
                    rcases two (decide (0 ≤ (rd a0 x4_0))) with c14 | c14
                    · replace h := of_true h c14
                      rcases two (decide ((rd a0 x4_0) < (256 : Int))) with c15 | c15
                      · replace h := of_true h c15
                        obtain ⟨q13, hAq13, hcq13, hfq13, hlq13⟩ := hM.bool_at 0 rfl (i := rd a0 x4_0) (of_decide_eq_true c14) (by have h_ := of_decide_eq_true c15; omega)
                        refine RunF.y (idx_own (d := some 26) (A := (some ⟨g2, 0, none⟩)) (m := 256) (i := rd a0 x4_0) (k2 := (pin Go.Proofs.Tryd.f50 [1, 1, 0, 1, 0, 0, 1, 0, 0, 0, 0] 15)) (by kernel_rfl) (of_decide_eq_true c14) (by have h_ := of_decide_eq_true c15; omega) hAq13) trivial ?_
                        refine RunF.y (ld_y (d := some 27) (p := ⟨q13, (rd a0 x4_0 : Int).toNat, none⟩) (k2 := (pin Go.Proofs.Tryd.f50 [1, 1, 0, 1, 0, 0, 1, 0, 0, 0, 0] 16)) (.bool (rdb x3_0 (rd a0 x4_0))) (by kernel_rfl)) hcq13 ?_
                        refine RunF.go 2 [0, 3, 4, 28] (k' := (pl Go.Proofs.Tryd.f50 [1, 1, 0, 1, 0, 0, 1, 0, 0, 0, 1])) (L' := [(0, .slice Ap0 a0.length cp0), (3, .slice (some ⟨g2, 0, none⟩) 256 256), (4, .int .i64 x4_0), (28, .bool (rdb x3_0 (rd a0 x4_0)))]) (w' := W) (by kernel_rfl) ?_
                        rcases two (rdb x3_0 (rd a0 x4_0)) with c16 | c16
                        · replace h := of_true h c16
                          refine RunF.know 28 (b := true) (by kernel_rfl) c16 ?_
                          refine RunF.go 5 [2] (k' := (pl Go.Proofs.Tryd.f50 [1, 1, 0, 1, 0, 0, 1, 0, 0, 0, 1, 0, 1])) (L' := [(2, .bool false)]) (w' := W) (by kernel_rfl) ?_
                          obtain rfl := Option.some.inj h
                          exact RunF.ret1 2 (.bool false) (fn := Go.Proofs.Tryd.f50) Go.Proofs.Tryd.func50 (by kernel_rfl) (by kernel_rfl) (by kernel_rfl) ⟨_, rfl, rfl, (hM.pick [] rfl rfl)⟩
                        · replace h := of_false h c16
                          refine RunF.know 28 (b := false) (by kernel_rfl) c16 ?_
                          refine RunF.go 6 [0, 3, 4, 29, 30, 31] (k' := (pin Go.Proofs.Tryd.f50 [1, 1, 0, 1, 0, 0, 1, 0, 0, 1] 3)) (L' := [(0, .slice Ap0 a0.length cp0), (3, .slice (some ⟨g2, 0, none⟩) 256 256), (4, .int .i64 x4_0), (29, .slice (some ⟨g2, 0, none⟩) 256 256), (30, .slice Ap0 a0.length cp0), (31, .int .i64 x4_0)]) (w' := W) (by kernel_rfl) ?_
                          rcases two (decide (0 ≤ x4_0)) with c18 | c18
                          · replace h := of_true h c18
                            rcases two (decide (x4_0 < (a0.length : Int))) with c19 | c19
                            · replace h := of_true h c19
                              obtain ⟨q17, hAq17, hcq17⟩ := Rd.num (hr0.mono hM.below) (i := x4_0) (of_decide_eq_true c18) (by have h_ := of_decide_eq_true c19; omega)
                              refine RunF.y (idx_y (d := some 32) (A := Ap0) (m := a0.length) (i := x4_0) (k2 := (pin Go.Proofs.Tryd.f50 [1, 1, 0, 1, 0, 0, 1, 0, 0, 1] 4)) (by kernel_rfl) (of_decide_eq_true c18) (by have h_ := of_decide_eq_true c19; omega) hAq17) trivial ?_
                              refine RunF.y (ld_y (d := some 33) (p := (q17.add (x4_0 : Int).toNat)) (k2 := (pin Go.Proofs.Tryd.f50 [1, 1, 0, 1, 0, 0, 1, 0, 0, 1] 5)) (.int .u8 (rd a0 x4_0)) (by kernel_rfl)) hcq17 ?_
                              rcases two (decide (0 ≤ (rd a0 x4_0))) with c21 | c21
                              · replace h := of_true h c21
                                rcases two (decide ((rd a0 x4_0) < (256 : Int))) with c22 | c22
                                · replace h := of_true h c22
                                  obtain ⟨q20, hAq20, hcq20, hfq20, hlq20⟩ := hM.bool_at 0 rfl (i := rd a0 x4_0) (of_decide_eq_true c21) (by have h_ := of_decide_eq_true c22; omega)
                                  refine RunF.y (idx_own (d := some 34) (A := (some ⟨g2, 0, none⟩)) (m := 256) (i := rd a0 x4_0) (k2 := (pin Go.Proofs.Tryd.f50 [1, 1, 0, 1, 0, 0, 1, 0, 0, 1] 6)) (by kernel_rfl) (of_decide_eq_true c21) (by have h_ := of_decide_eq_true c22; omega) hAq20) trivial ?_
                                  obtain ⟨g_, hA_, hc_, hf_, hl_⟩ := hM.bool_at 0 rfl (i := rd a0 x4_0) (of_decide_eq_true c21) (by have h_ := of_decide_eq_true c22; omega)
                                  obtain rfl : q20 = g_ := by rw [hAq20] at hA_; injection hA_ with hA_; injection hA_
                                  refine RunF.doesU (st_u (p := (⟨q20, (rd a0 x4_0 : Int).toNat, none⟩ : Addr)) (v := .bool true) (k2 := (pin Go.Proofs.Tryd.f50 [1, 1, 0, 1, 0, 0, 1, 0, 0, 1] 7)) (by kernel_rfl) hc_ hf_) ?_
                                  replace hM : Mem w (W.setCell (⟨q20, (rd a0 x4_0 : Int).toNat, none⟩ : Addr) (.bool true)) [⟨.slice (some ⟨g2, 0, none⟩) 256 256, 4, 1, bools (x3_0.set (rd a0 x4_0 : Int).toNat true)⟩] := Mem.put_bool [] [] (hM.pick [0] rfl rfl) hAq20 _ hl_ _
                                  generalize W.setCell (⟨q20, (rd a0 x4_0 : Int).toNat, none⟩ : Addr) (.bool true) = W23 at hM ⊢
                                  clear hc_ hf_ hl_ hA_ hcq20
                                  refine RunF.go 8 [0, 3, 4] (k' := (pl Go.Proofs.Tryd.f50 [1, 1, 0, 1, 0, 0])) (L' := [(0, .slice Ap0 a0.length cp0), (3, .slice (some ⟨g2, 0, none⟩) 256 256), (4, .int .i64 (I64 (x4_0 + 1)))]) (w' := W23) (by kernel_rfl) ?_
                                  exact ih0 k (by omega) (x3_0.set (rd a0 x4_0 : Int).toNat true) (I64 (x4_0 + 1)) _ (hM.pick [0] rfl rfl) h
                                · replace h := of_false h c22
                                  cases h
                              · replace h := of_false h c21
                                cases h
                            · replace h := of_false h c19
                              cases h
                          · replace h := of_false h c18
                            cases h
                      · replace h := of_false h c15
                        cases h
                    · replace h := of_false h c14
                      cases h
                  · replace h := of_false h c12
                    cases h
                · replace h := of_false h c11
                  cases h
            · replace h := of_false h c7
              cases h
          · replace h := of_false h c6
            cases h
        · replace h := of_false h c4
          refine RunF.know 9 (b := false) (by kernel_rfl) c4 ?_
          refine RunF.go 6 [2] (k' := (pl Go.Proofs.Tryd.f50 [1, 1, 1, 1])) (L' := [(2, .bool true)]) (w' := W) (by kernel_rfl) ?_
          obtain rfl := Option.some.inj h
          exact RunF.ret1 2 (.bool true) (fn := Go.Proofs.Tryd.f50) Go.Proofs.Tryd.func50 (by kernel_rfl) (by kernel_rfl) (by kernel_rfl) ⟨_, rfl, rfl, (hM.pick [] rfl rfl)⟩
  exact l0 k (Nat.le_refl _) (List.replicate 256 false) 0 _ (hM.pick [0] rfl rfl) h

/-! ### scrim/scrimref4.Back: function 38 -/
def scrimref4_Back.l0 : Nat → (List Int) → (List Int) → Int → Option (List Int × Bool)
  | 0, _, _, _ => none
  | k + 1, a0, x4_0, x5_0 => if (decide (x5_0 < (a0.length : Int))) = true then (if (decide (0 ≤ x5_0)) = true then (if (decide (x5_0 < (a0.length : Int))) = true then (if (decide (0 ≤ (rd a0 x5_0))) = true then (if (decide ((rd a0 x5_0) < (((a0.length : Int)).toNat : Int))) = true then (scrimref4_Back.l0 k a0 (x4_0.set (rd a0 x5_0 : Int).toNat (U8 (x5_0))) (I64 (x5_0 + 1))) else (none)) else (none)) else (none)) else (none)) else (some (x4_0, true))
def scrimref4_Back.f (k : Nat) (a0 : List Int) : Option (List Int × Bool) := (scrimref4_Is.f k a0).bind fun t2 => (if (!t2) = true then (some (([] : List Int), false)) else (if (decide (0 ≤ (a0.length : Int))) = true then (if (decide ((a0.length : Int) ≤ 1000000000)) = true then (scrimref4_Back.l0 k a0 (List.replicate (((a0.length : Int)).toNat) (0 : Int)) 0) else (none)) else (none)))
set_option maxRecDepth 100000 in
theorem scrimref4_Back.calls (k : Nat) (Ap0 : Option Addr) (np0 cp0 : Nat) (a0 : List Int) (r : List Int × Bool) (w : World) (hr0 : Rd w (.slice Ap0 np0 cp0) (nums .u8 a0)) (h : scrimref4_Back.f k a0 = some r) :
    Calls Go.Proofs.Tryd.prog 38 #[(.slice Ap0 np0 cp0)] w (Ret fun v w' => ∃ A0' n0' c0', v = .tuple #[.slice A0' n0' c0', .bool r.2] ∧ Mem w w' [⟨.slice A0' n0' c0', 5, 1, nums .u8 r.1⟩]) := by
  obtain rfl : a0.length = np0 := by have h_ := hr0.1; simpa [nums_length, bools_length, strs_length] using h_
  unfold scrimref4_Back.f at h
  refine calls_of [.slice Ap0 a0.length cp0] (fn := Go.Proofs.Tryd.f38) Go.Proofs.Tryd.func38 (by kernel_rfl) (by kernel_rfl) ?_
  have hM := Mem.refl w
  refine RunF.go 9 [0, 6] (k' := (pin Go.Proofs.Tryd.f38 [1, 0, 0] 1)) (L' := [(0, .slice Ap0 a0.length cp0), (6, .slice Ap0 a0.length cp0)]) (w' := w) (by kernel_rfl) ?_
  obtain ⟨t2, ht2, h⟩ := Option.bind_eq_some_iff.mp h
  refine RunF.call (d := some 7) (g := 50) (args := #[.slice Ap0 a0.length cp0]) (k2 := (pin Go.Proofs.Tryd.f38 [1, 0, 0] 2)) (by kernel_rfl) (scrimref4_Is.calls k Ap0 a0.length cp0 a0 t2 _ (hr0.mono hM.below) ht2) ?_
  rintro _ W1 ⟨rfl, hM_⟩
  replace hM := hM.call hM_
  clear hM_ ht2
  refine RunF.go 2 [0, 8] (k' := (pl Go.Proofs.Tryd.f38 [1, 0, 1])) (L' := [(0, .slice Ap0 a0.length cp0), (8, .bool (!t2))]) (w' := W1) (by kernel_rfl) ?_
  rcases two (!t2) with c3 | c3
  · replace h := of_true h c3
    refine RunF.know 8 (b := true) (by kernel_rfl) c3 ?_
    refine RunF.go 6 [2, 3] (k' := (pl Go.Proofs.Tryd.f38 [1, 0, 1, 0, 1])) (L' := [(2, .slice none 0 0), (3, .bool false)]) (w' := W1) (by kernel_rfl) ?_
    replace hM := hM.nil 5
    obtain rfl := Option.some.inj h
    exact RunF.ret2 2 3 (.slice none 0 0) (.bool false) (fn := Go.Proofs.Tryd.f38) Go.Proofs.Tryd.func38 (by kernel_rfl) (by kernel_rfl) (by kernel_rfl) (by kernel_rfl) ⟨_, rfl, none, 0, 0, rfl, (hM.pick [0] rfl rfl)⟩
  · replace h := of_false h c3
    refine RunF.know 8 (b := false) (by kernel_rfl) c3 ?_
    refine RunF.go 6 [0, 10] (k' := (pin Go.Proofs.Tryd.f38 [1, 1, 0] 2)) (L' := [(0, .slice Ap0 a0.length cp0), (10, .int .i64 (a0.length : Int))]) (w' := W1) (by kernel_rfl) ?_
    rcases two (decide (0 ≤ (a0.length : Int))) with c7 | c7
    · replace h := of_true h c7
      rcases two (decide ((a0.length : Int) ≤ 1000000000)) with c8 | c8
      · replace h := of_true h c8
        have := of_decide_eq_true c7
        have := of_decide_eq_true c8
        obtain ⟨W5, hD, hM', hB_⟩ := mk_does (P := Go.Proofs.Tryd.prog) (n := 27) (k := (pin Go.Proofs.Tryd.f38 [1, 1, 0] 2)) (L := [(0, .slice Ap0 a0.length cp0), (10, .int .i64 (a0.length : Int))]) (d := some 11) (e := 5) (z := .int .u8 0) (l := (a0.length : Int)) (c := (a0.length : Int)) (k2 := (pin Go.Proofs.Tryd.f38 [1, 1, 0] 3)) (by kernel_rfl) (by omega) (by omega) (by omega) hM
        rw [rep_nums] at hM'
        refine RunF.does hD ?_
        replace hM := hM'; clear hD hM'
        generalize W1.heap.size = g6 at hM ⊢
        refine RunF.go 9 [0, 4, 5] (k' := (pl Go.Proofs.Tryd.f38 [1, 1, 1, 0, 1, 0, 0])) (L' := [(0, .slice Ap0 a0.length cp0), (4, .slice (some ⟨g6, 0, none⟩) (((a0.length : Int)).toNat) (((a0.length : Int) : Int).toNat)), (5, .int .i64 0)]) (w' := W5) (by kernel_rfl) ?_
        have l0 : ∀ (k_ : Nat), k_ ≤ k → ∀ (x4_0 : List Int) (x5_0 : Int) (W : World) (hM : Mem w W [⟨.slice (some ⟨g6, 0, none⟩) (((a0.length : Int)).toNat) (((a0.length : Int) : Int).toNat), 5, 1, nums .u8 x4_0⟩]) (h : scrimref4_Back.l0 k_ a0 x4_0 x5_0 = some r), RunF Go.Proofs.Tryd.prog (Ret fun v w' => ∃ A0' n0' c0', v = .tuple #[.slice A0' n0' c0', .bool r.2] ∧ Mem w w' [⟨.slice A0' n0' c0', 5, 1, nums .u8 r.1⟩]) 38 (pl Go.Proofs.Tryd.f38 [1, 1, 1, 0, 1, 0, 0]) 27 [(0, .slice Ap0 a0.length cp0), (4, .slice (some ⟨g6, 0, none⟩) (((a0.length : Int)).toNat) (((a0.length : Int) : Int).toNat)), (5, .int .i64 x5_0)] W := by
          intro k_
          induction k_ using Nat.strongRecOn with
          | _ k_ ih0 =>
            intro hk x4_0 x5_0 W hM h
            cases k_ with
            | zero => exact absurd h (by simp [scrimref4_Back.l0])
            | succ k =>
              simp only [scrimref4_Back.l0] at h
              replace ih0 : ∀ m, m ≤ k → _ := fun m hm => ih0 m (by omega) (by omega)
              refine RunF.go 8 [0, 4, 5, 15] (k' := (pl Go.Proofs.Tryd.f38 [1, 1, 1, 0, 1, 0, 0, 0, 1])) (L' := [(0, .slice Ap0 a0.length cp0), (4, .slice (some ⟨g6, 0, none⟩) (((a0.length : Int)).toNat) (((a0.length : Int) : Int).toNat)), (5, .int .i64 x5_0), (15, .bool (decide (x5_0 < (a0.length : Int))))]) (w' := W) (by kernel_rfl) ?_
              rcases two (decide (x5_0 < (a0.length : Int))) with c10 | c10
              · replace h := of_true h c10
                refine RunF.know 15 (b := true) (by kernel_rfl) c10 ?_
                refine RunF.go 8 [0, 4, 5, 18, 19, 20] (k' := (pin Go.Proofs.Tryd.f38 [1, 1, 1, 0, 1, 0, 0, 1, 0, 0] 3)) (L' := [(0, .slice Ap0 a0.length cp0), (4, .slice (some ⟨g6, 0, none⟩) (((a0.length : Int)).toNat) (((a0.length : Int) : Int).toNat)), (5, .int .i64 x5_0), (18, .slice (some ⟨g6, 0, none⟩) (((a0.length : Int)).toNat) (((a0.length : Int) : Int).toNat)), (19, .slice Ap0 a0.length cp0), (20, .int .i64 x5_0)]) (w' := W) (by kernel_rfl) ?_
                rcases two (decide (0 ≤ x5_0)) with c12 | c12
                · replace h := of_true h c12
                  rcases two (decide (x5_0 < (a0.length : Int))) with c13 | c13
                  · replace h := of_true h c13
                    obtain ⟨q11, hAq11, hcq11⟩ := Rd.num (hr0.mono hM.below) (i := x5_0) (of_decide_eq_true c12) (by have h_ := of_decide_eq_true c13; omega)
                    refine RunF.y (idx_y (d := some 21) (A := Ap0) (m := a0.length) (i := x5_0) (k2 := (pin Go.Proofs.Tryd.f38 [1, 1, 1, 0, 1, 0, 0, 1, 0, 0] 4)) (by kernel_rfl) (of_decide_eq_true c12) (by have h_ := of_decide_eq_true c13; omega) hAq11) trivial ?_
                    refine RunF.y (ld_y (d := some 22) (p := (q11.add (x5_0 : Int).toNat)) (k2 := (pin Go.Proofs.Tryd.f38 [1, 1, 1, 0, 1, 0, 0, 1, 0, 0] 5)) (.int .u8 (rd a0 x5_0)) (by kernel_rfl)) hcq11 ?_
                    refine RunF.go 2 [0, 4, 5, 18, 22, 24] (k' := (pin Go.Proofs.Tryd.f38 [1, 1, 1, 0, 1, 0, 0, 1, 0, 0] 7)) (L' := [(0, .slice Ap0 a0.length cp0), (4, .slice (some ⟨g6, 0, none⟩) (((a0.length : Int)).toNat) (((a0.length : Int) : Int).toNat)), (5, .int .i64 x5_0), (18, .slice (some ⟨g6, 0, none⟩) (((a0.length : Int)).toNat) (((a0.length : Int) : Int).toNat)), (22, .int .u8 (rd a0 x5_0)), (24, .int .u8 (U8 (x5_0)))]) (w' := W) (by kernel_rfl) ?_
                    rcases two (decide (0 ≤ (rd a0 x5_0))) with c15 | c15
                    · replace h := of_true h c15
                      rcases two (decide ((rd a0 x5_0) < (((a0.length : Int)).toNat : Int))) with c16 | c16
                      · replace h := of_true h c16
                        obtain ⟨q14, hAq14, hcq14, hfq14, hlq14⟩ := hM.num_at 0 rfl (i := rd a0 x5_0) (of_decide_eq_true c15) (by have h_ := of_decide_eq_true c16; omega)
                        refine RunF.y (idx_own (d := some 25) (A := (some ⟨g6, 0, none⟩)) (m := ((a0.length : Int)).toNat) (i := rd a0 x5_0) (k2 := (pin Go.Proofs.Tryd.f38 [1, 1, 1, 0, 1, 0, 0, 1, 0, 0] 8)) (by kernel_rfl) (of_decide_eq_true c15) (by have h_ := of_decide_eq_true c16; omega) hAq14) trivial ?_
                        obtain ⟨g_, hA_, hc_, hf_, hl_⟩ := hM.num_at 0 rfl (i := rd a0 x5_0) (of_decide_eq_true c15) (by have h_ := of_decide_eq_true c16; omega)
                        obtain rfl : q14 = g_ := by rw [hAq14] at hA_; injection hA_ with hA_; injection hA_
                        refine RunF.doesU (st_u (p := (⟨q14, (rd a0 x5_0 : Int).toNat, none⟩ : Addr)) (v := .int .u8 (U8 (x5_0))) (k2 := (pin Go.Proofs.Tryd.f38 [1, 1, 1, 0, 1, 0, 0, 1, 0, 0] 9)) (by kernel_rfl) hc_ hf_) ?_
                        replace hM : Mem w (W.setCell (⟨q14, (rd a0 x5_0 : Int).toNat, none⟩ : Addr) (.int .u8 (U8 (x5_0)))) [⟨.slice (some ⟨g6, 0, none⟩) (((a0.length : Int)).toNat) (((a0.length : Int) : Int).toNat), 5, 1, nums .u8 (x4_0.set (rd a0 x5_0 : Int).toNat (U8 (x5_0)))⟩] := Mem.put_num [] [] (hM.pick [0] rfl rfl) hAq14 _ hl_ _
                        generalize W.setCell (⟨q14, (rd a0 x5_0 : Int).toNat, none⟩ : Addr) (.int .u8 (U8 (x5_0))) = W17 at hM ⊢
                        clear hc_ hf_ hl_ hA_ hcq14
                        refine RunF.go 8 [0, 4, 5] (k' := (pl Go.Proofs.Tryd.f38 [1, 1, 1, 0, 1, 0, 0])) (L' := [(0, .slice Ap0 a0.length cp0), (4, .slice (some ⟨g6, 0, none⟩) (((a0.length : Int)).toNat) (((a0.length : Int) : Int).toNat)), (5, .int .i64 (I64 (x5_0 + 1)))]) (w' := W17) (by kernel_rfl) ?_
                        exact ih0 k (by omega) (x4_0.set (rd a0 x5_0 : Int).toNat (U8 (x5_0))) (I64 (x5_0 + 1)) _ (hM.pick [0] rfl rfl) h
                      · replace h := of_false h c16
                        cases h
                    · replace h := of_false h c15
                      cases h
                  · replace h := of_false h c13
                    cases h
                · replace h := of_false h c12
                  cases h
              · replace h := of_false h c10
                refine RunF.know 15 (b := false) (by kernel_rfl) c10 ?_
                refine RunF.go 8 [2, 3] (k' := (pl Go.Proofs.Tryd.f38 [1, 1, 1, 1, 1])) (L' := [(2, .slice (some ⟨g6, 0, none⟩) (((a0.length : Int)).toNat) (((a0.length : Int) : Int).toNat)), (3, .bool true)]) (w' := W) (by kernel_rfl) ?_
                obtain rfl := Option.some.inj h
                exact RunF.ret2 2 3 (.slice (some ⟨g6, 0, none⟩) (((a0.length : Int)).toNat) (((a0.length : Int) : Int).toNat)) (.bool true) (fn := Go.Proofs.Tryd.f38) Go.Proofs.Tryd.func38 (by kernel_rfl) (by kernel_rfl) (by kernel_rfl) (by kernel_rfl) ⟨_, rfl, (some ⟨g6, 0, none⟩), ((a0.length : Int)).toNat, ((a0.length : Int) : Int).toNat, rfl, (hM.pick [0] rfl rfl)⟩
        exact l0 k (Nat.le_refl _) (List.replicate (((a0.length : Int)).toNat) (0 : Int)) 0 _ (hM.pick [0] rfl rfl) h
      · replace h := of_false h c8
        cases h
    · replace h := of_false h c7
      cases h

/-! ### scrim/scrimref10.boxes: function 26 -/
def scrimref10_boxes.f (k : Nat)  : Option (Option ((List (List Int)))) := (scrimref4_Make.f k 254 283 ([241, 227, 199, 143, 31, 62, 124, 248] : List Int) 99).bind fun t2 => ((scrimref4_Make.f k 247 283 ([122, 188, 235, 185, 52, 129, 186, 203] : List Int) 226).bind fun t8 => ((scrimref4_Back.f k t2).bind fun t14 => ((scrimref4_Back.f k t8).bind fun t20 => (some (some (([t2, t8, t14.1, t20.1] : List (List Int))))))))
set_option maxRecDepth 100000 in
theorem scrimref10_boxes.calls (k : Nat)  (r : Option ((List (List Int)))) (w : World) (h : scrimref10_boxes.f k = some r) :
    Calls Go.Proofs.Tryd.prog 26 #[] w (Ret fun v w' => ∃ (v0' : Value) (F0' : List Ent), v = v0' ∧ (rOpt (rPtr Rs_scrimref10_Boxes)) (Oks F0') v0' r ∧ Mem w w' (Gs [] [F0'])) := by
  unfold scrimref10_boxes.f at h
  refine calls_of [] (fn := Go.Proofs.Tryd.f26) Go.Proofs.Tryd.func26 (by kernel_rfl) (by kernel_rfl) ?_
  have hM := Mem.refl w
  refine RunF.go 7 [7] (k' := (pin Go.Proofs.Tryd.f26 [1, 0] 1)) (L' := [(7, .agg (nums .u8 ([241, 227, 199, 143, 31, 62, 124, 248] : List Int)).toArray)]) (w' := w) (by kernel_rfl) ?_
  obtain ⟨t2, ht2, h⟩ := Option.bind_eq_some_iff.mp h
  refine RunF.call (d := some 8) (g := 37) (args := #[.int .i64 254, .int .i64 283, .agg (nums .u8 ([241, 227, 199, 143, 31, 62, 124, 248] : List Int)).toArray, .int .u8 99]) (k2 := (pin Go.Proofs.Tryd.f26 [1, 0] 2)) (by kernel_rfl) (scrimref4_Make.calls k 254 283 ([241, 227, 199, 143, 31, 62, 124, 248] : List Int) 99 t2 _ rfl ht2) ?_
  rintro _ W1 ⟨A3, n4, c5, rfl, hM_⟩
  obtain rfl : t2.length = n4 := by have h_ := (hM_.rd 0 rfl).1; simpa [nums_length, bools_length, strs_length] using h_
  replace hM := hM.call hM_
  clear hM_ ht2
  refine RunF.go 5 [1, 9] (k' := (pin Go.Proofs.Tryd.f26 [1, 1, 0] 1)) (L' := [(1, .slice A3 t2.length c5), (9, .agg (nums .u8 ([122, 188, 235, 185, 52, 129, 186, 203] : List Int)).toArray)]) (w' := W1) (by kernel_rfl) ?_
  obtain ⟨t8, ht8, h⟩ := Option.bind_eq_some_iff.mp h
  refine RunF.call (d := some 10) (g := 37) (args := #[.int .i64 247, .int .i64 283, .agg (nums .u8 ([122, 188, 235, 185, 52, 129, 186, 203] : List Int)).toArray, .int .u8 226]) (k2 := (pin Go.Proofs.Tryd.f26 [1, 1, 0] 2)) (by kernel_rfl) (scrimref4_Make.calls k 247 283 ([122, 188, 235, 185, 52, 129, 186, 203] : List Int) 226 t8 _ rfl ht8) ?_
  rintro _ W7 ⟨A9, n10, c11, rfl, hM_⟩
  obtain rfl : t8.length = n10 := by have h_ := (hM_.rd 0 rfl).1; simpa [nums_length, bools_length, strs_length] using h_
  replace hM := hM.call hM_
  clear hM_ ht8
  refine RunF.go 5 [1, 2, 12] (k' := (pin Go.Proofs.Tryd.f26 [1, 1, 1, 0] 1)) (L' := [(1, .slice A3 t2.length c5), (2, .slice A9 t8.length c11), (12, .slice A3 t2.length c5)]) (w' := W7) (by kernel_rfl) ?_
  obtain ⟨t14, ht14, h⟩ := Option.bind_eq_some_iff.mp h
  refine RunF.call (d := some 13) (g := 38) (args := #[.slice A3 t2.length c5]) (k2 := (pin Go.Proofs.Tryd.f26 [1, 1, 1, 0] 2)) (by kernel_rfl) (scrimref4_Back.calls k A3 t2.length c5 t2 t14 _ (hM.rd 1 rfl) ht14) ?_
  rintro _ W13 ⟨A15, n16, c17, rfl, hM_⟩
  obtain rfl : t14.1.length = n16 := by have h_ := (hM_.rd 0 rfl).1; simpa [nums_length, bools_length, strs_length] using h_
  replace hM := hM.call hM_
  clear hM_ ht14
  refine RunF.go 9 [1, 2, 3, 17] (k' := (pin Go.Proofs.Tryd.f26 [1, 1, 1, 1, 0] 1)) (L' := [(1, .slice A3 t2.length c5), (2, .slice A9 t8.length c11), (3, .slice A15 t14.1.length c17), (17, .slice A9 t8.length c11)]) (w' := W13) (by kernel_rfl) ?_
  obtain ⟨t20, ht20, h⟩ := Option.bind_eq_some_iff.mp h
  refine RunF.call (d := some 18) (g := 38) (args := #[.slice A9 t8.length c11]) (k2 := (pin Go.Proofs.Tryd.f26 [1, 1, 1, 1, 0] 2)) (by kernel_rfl) (scrimref4_Back.calls k A9 t8.length c11 t8 t20 _ (hM.rd 1 rfl) ht20) ?_
  rintro _ W19 ⟨A21, n22, c23, rfl, hM_⟩
  obtain rfl : t20.1.length = n22 := by have h_ := (hM_.rd 0 rfl).1; simpa [nums_length, bools_length, strs_length] using h_
  replace hM := hM.call hM_
  clear hM_ ht20
  refine RunF.go 13 [25] (k' := (pin Go.Proofs.Tryd.f26 [1, 1, 1, 1, 1, 0] 5)) (L' := [(25, .agg #[.slice A3 t2.length c5, .slice A9 t8.length c11, .slice A15 t14.1.length c17, .slice A21 t20.1.length c23])]) (w' := W19) (by kernel_rfl) ?_
  obtain ⟨Fq25, hfq25, hM⟩ := Mem.freezeS (H1 := [⟨.slice A21 t20.1.length c23, 5, 1, nums .u8 t20.1⟩, ⟨.slice A15 t14.1.length c17, 5, 1, nums .u8 t14.1⟩, ⟨.slice A9 t8.length c11, 5, 1, nums .u8 t8⟩]) (H2 := []) (Fs := []) (A := A3) (n := t2.length) (c := c5) (ty := 5) (cs := nums .u8 t2) (hM.as rfl)
  obtain ⟨Fq26, hfq26, hM⟩ := Mem.freezeS (H1 := [⟨.slice A21 t20.1.length c23, 5, 1, nums .u8 t20.1⟩, ⟨.slice A15 t14.1.length c17, 5, 1, nums .u8 t14.1⟩]) (H2 := []) (Fs := [Fq25]) (A := A9) (n := t8.length) (c := c11) (ty := 5) (cs := nums .u8 t8) (hM.as rfl)
  obtain ⟨Fq27, hfq27, hM⟩ := Mem.freezeS (H1 := [⟨.slice A21 t20.1.length c23, 5, 1, nums .u8 t20.1⟩]) (H2 := []) (Fs := [Fq26, Fq25]) (A := A15) (n := t14.1.length) (c := c17) (ty := 5) (cs := nums .u8 t14.1) (hM.as rfl)
  obtain ⟨Fq28, hfq28, hM⟩ := Mem.freezeS (H1 := []) (H2 := []) (Fs := [Fq27, Fq26, Fq25]) (A := A21) (n := t20.1.length) (c := c23) (ty := 5) (cs := nums .u8 t20.1) (hM.as rfl)
  have hqq29 : Each2 ((rNums .u8) (andZ (Oks Fq25) (andZ (Oks Fq26) (andZ (Oks Fq27) (Oks Fq28))))) [.slice A3 t2.length c5, .slice A9 t8.length c11, .slice A15 t14.1.length c17, .slice A21 t20.1.length c23] ([t2, t8, t14.1, t20.1] : List (List Int)) := (.cons (rnums_of (RdF.up hfq25 (fun _ hz_ => hz_.1)) (And.intro (Mem.oks (hM.as (H' := Gs [] [Fq28, Fq27, Fq26, Fq25]) rfl) 3 rfl) (And.intro (Mem.oks (hM.as (H' := Gs [] [Fq28, Fq27, Fq26, Fq25]) rfl) 2 rfl) (And.intro (Mem.oks (hM.as (H' := Gs [] [Fq28, Fq27, Fq26, Fq25]) rfl) 1 rfl) (Mem.oks (hM.as (H' := Gs [] [Fq28, Fq27, Fq26, Fq25]) rfl) 0 rfl))))) (.cons (rnums_of (RdF.up hfq26 (fun _ hz_ => hz_.2.1)) (And.intro (Mem.oks (hM.as (H' := Gs [] [Fq28, Fq27, Fq26, Fq25]) rfl) 3 rfl) (And.intro (Mem.oks (hM.as (H' := Gs [] [Fq28, Fq27, Fq26, Fq25]) rfl) 2 rfl) (And.intro (Mem.oks (hM.as (H' := Gs [] [Fq28, Fq27, Fq26, Fq25]) rfl) 1 rfl) (Mem.oks (hM.as (H' := Gs [] [Fq28, Fq27, Fq26, Fq25]) rfl) 0 rfl))))) (.cons (rnums_of (RdF.up hfq27 (fun _ hz_ => hz_.2.2.1)) (And.intro (Mem.oks (hM.as (H' := Gs [] [Fq28, Fq27, Fq26, Fq25]) rfl) 3 rfl) (And.intro (Mem.oks (hM.as (H' := Gs [] [Fq28, Fq27, Fq26, Fq25]) rfl) 2 rfl) (And.intro (Mem.oks (hM.as (H' := Gs [] [Fq28, Fq27, Fq26, Fq25]) rfl) 1 rfl) (Mem.oks (hM.as (H' := Gs [] [Fq28, Fq27, Fq26, Fq25]) rfl) 0 rfl))))) (.cons (rnums_of (RdF.up hfq28 (fun _ hz_ => hz_.2.2.2)) (And.intro (Mem.oks (hM.as (H' := Gs [] [Fq28, Fq27, Fq26, Fq25]) rfl) 3 rfl) (And.intro (Mem.oks (hM.as (H' := Gs [] [Fq28, Fq27, Fq26, Fq25]) rfl) 2 rfl) (And.intro (Mem.oks (hM.as (H' := Gs [] [Fq28, Fq27, Fq26, Fq25]) rfl) 1 rfl) (Mem.oks (hM.as (H' := Gs [] [Fq28, Fq27, Fq26, Fq25]) rfl) 0 rfl))))) (Each2.nil _)))))
  refine RunF.go 1 [26] (k' := (pin Go.Proofs.Tryd.f26 [1, 1, 1, 1, 1, 0] 6)) (L' := [(26, .agg ([.slice A3 t2.length c5, .slice A9 t8.length c11, .slice A15 t14.1.length c17, .slice A21 t20.1.length c23]).toArray)]) (w' := W19) (by kernel_rfl) ?_
  refine RunF.newVar 68 ([.slice A3 t2.length c5, .slice A9 t8.length c11, .slice A15 t14.1.length c17, .slice A21 t20.1.length c23]) (d := some 27) (k2 := (pin Go.Proofs.Tryd.f26 [1, 1, 1, 1, 1, 0] 7)) hM (by kernel_rfl) ?_
  intro g30 W31 hM
  obtain ⟨Fq33, hfq33, hM⟩ := Mem.freezeP (H1 := []) (H2 := []) (Fs := [Fq28, Fq27, Fq26, Fq25]) (g := g30) (ty := 68) (cs := [.slice A3 t2.length c5, .slice A9 t8.length c11, .slice A15 t14.1.length c17, .slice A21 t20.1.length c23]) (hM.as rfl)
  have hs34 : rPtr Rs_scrimref10_Boxes (andZ (Oks Fq33) (andZ (Oks Fq25) (andZ (Oks Fq26) (andZ (Oks Fq27) (Oks Fq28))))) (.pointer (some ⟨g30, 0, none⟩)) (([t2, t8, t14.1, t20.1] : List (List Int))) := ⟨g30, _, rfl, hfq33.up (fun _ hz_ => hz_.1), _, rfl, (rfl : ([t2, t8, t14.1, t20.1] : List (List Int)).length = 4), (Each2.up (up_nums .u8) hqq29 (fun _ hz_ => (And.intro hz_.2.1 (And.intro hz_.2.2.1 (And.intro hz_.2.2.2.1 hz_.2.2.2.2)))))⟩
  refine RunF.go 2 [0] (k' := (pl Go.Proofs.Tryd.f26 [1, 1, 1, 1, 1, 1])) (L' := [(0, .pointer (some ⟨g30, 0, none⟩))]) (w' := W31) (by kernel_rfl) ?_
  obtain rfl := Option.some.inj h
  exact RunF.ret1 0 (.pointer (some ⟨g30, 0, none⟩)) (fn := Go.Proofs.Tryd.f26) Go.Proofs.Tryd.func26 (by kernel_rfl) (by kernel_rfl) (by kernel_rfl) ⟨_, rfl, .pointer (some ⟨g30, 0, none⟩), (Fq33 ++ (Fq25 ++ (Fq26 ++ (Fq27 ++ Fq28)))), rfl, (up_opt (up_ptr up_Rs_scrimref10_Boxes)) _ _ _ _ (fun _ (hz_ : Oks _ _) => (And.intro hz_.left (And.intro hz_.right.left (And.intro hz_.right.right.left (And.intro hz_.right.right.right.left hz_.right.right.right.right))))) (.inr ⟨(([t2, t8, t14.1, t20.1] : List (List Int))), rfl, hs34⟩), (Mem.pickF (hM.as (H' := Gs [] [Fq33, Fq28, Fq27, Fq26, Fq25]) rfl) [0, 4, 3, 2, 1] rfl rfl (by simp [Gs]))⟩

/-! ### scrim/scrimref1.Both: function 20 -/
def scrimref1_Both.l0 : Nat → (List Int) → (List Int) → (List Int) → Int → Option (List Int)
  | 0, _, _, _, _ => none
  | k + 1, a0, a1, x5_0, x6_0 => if (decide (x6_0 < (a0.length : Int))) = true then (if (decide (0 ≤ x6_0)) = true then (if (decide (x6_0 < (a0.length : Int))) = true then (if (decide (0 ≤ x6_0)) = true then (if (decide (x6_0 < (a1.length : Int))) = true then (if (decide (0 ≤ x6_0)) = true then (if (decide (x6_0 < (((a0.length : Int)).toNat : Int))) = true then (scrimref1_Both.l0 k a0 a1 (x5_0.set (x6_0 : Int).toNat (bxor .u8 (rd a0 x6_0) (rd a1 x6_0))) (I64 (x6_0 + 1))) else (none)) else (none)) else (none)) else (none)) else (none)) else (none)) else (some x5_0)
def scrimref1_Both.f (k : Nat) (a0 : List Int) (a1 : List Int) : Option (List Int) := if (decide (0 ≤ (a0.length : Int))) = true then (if (decide ((a0.length : Int) ≤ 1000000000)) = true then (scrimref1_Both.l0 k a0 a1 (List.replicate (((a0.length : Int)).toNat) (0 : Int)) 0) else (none)) else (none)
set_option maxRecDepth 100000 in
theorem scrimref1_Both.calls (k : Nat) (Ap0 : Option Addr) (np0 cp0 : Nat) (a0 : List Int) (Ap1 : Option Addr) (np1 cp1 : Nat) (a1 : List Int) (r : List Int) (w : World) (hr0 : Rd w (.slice Ap0 np0 cp0) (nums .u8 a0)) (hr1 : Rd w (.slice Ap1 np1 cp1) (nums .u8 a1)) (h : scrimref1_Both.f k a0 a1 = some r) :
    Calls Go.Proofs.Tryd.prog 20 #[(.slice Ap0 np0 cp0), (.slice Ap1 np1 cp1)] w (Ret fun v w' => ∃ A0' n0' c0', v = .slice A0' n0' c0' ∧ Mem w w' [⟨.slice A0' n0' c0', 5, 1, nums .u8 r⟩]) := by
  obtain rfl : a0.length = np0 := by have h_ := hr0.1; simpa [nums_length, bools_length, strs_length] using h_
  obtain rfl : a1.length = np1 := by have h_ := hr1.1; simpa [nums_length, bools_length, strs_length] using h_
  unfold scrimref1_Both.f at h
  refine calls_of [.slice Ap0 a0.length cp0, .slice Ap1 a1.length cp1] (fn := Go.Proofs.Tryd.f20) Go.Proofs.Tryd.func20 (by kernel_rfl) (by kernel_rfl) ?_
  have hM := Mem.refl w
  refine RunF.go 8 [0, 1, 8] (k' := (pin Go.Proofs.Tryd.f20 [1, 0] 2)) (L' := [(0, .slice Ap0 a0.length cp0), (1, .slice Ap1 a1.length cp1), (8, .int .i64 (a0.length : Int))]) (w' := w) (by kernel_rfl) ?_
  rcases two (decide (0 ≤ (a0.length : Int))) with c3 | c3
  · replace h := of_true h c3
    rcases two (decide ((a0.length : Int) ≤ 1000000000)) with c4 | c4
    · replace h := of_true h c4
      have := of_decide_eq_true c3
      have := of_decide_eq_true c4
      obtain ⟨W1, hD, hM', hB_⟩ := mk_does (P := Go.Proofs.Tryd.prog) (n := 29) (k := (pin Go.Proofs.Tryd.f20 [1, 0] 2)) (L := [(0, .slice Ap0 a0.length cp0), (1, .slice Ap1 a1.length cp1), (8, .int .i64 (a0.length : Int))]) (d := some 9) (e := 5) (z := .int .u8 0) (l := (a0.length : Int)) (c := (a0.length : Int)) (k2 := (pin Go.Proofs.Tryd.f20 [1, 0] 3)) (by kernel_rfl) (by omega) (by omega) (by omega) hM
      rw [rep_nums] at hM'
      refine RunF.does hD ?_
      replace hM := hM'; clear hD hM'
      generalize w.heap.size = g2 at hM ⊢
      refine RunF.go 9 [0, 1, 5, 6] (k' := (pl Go.Proofs.Tryd.f20 [1, 1, 0, 1, 0, 0])) (L' := [(0, .slice Ap0 a0.length cp0), (1, .slice Ap1 a1.length cp1), (5, .slice (some ⟨g2, 0, none⟩) (((a0.length : Int)).toNat) (((a0.length : Int) : Int).toNat)), (6, .int .i64 0)]) (w' := W1) (by kernel_rfl) ?_
      have l0 : ∀ (k_ : Nat), k_ ≤ k → ∀ (x5_0 : List Int) (x6_0 : Int) (W : World) (hM : Mem w W [⟨.slice (some ⟨g2, 0, none⟩) (((a0.length : Int)).toNat) (((a0.length : Int) : Int).toNat), 5, 1, nums .u8 x5_0⟩]) (h : scrimref1_Both.l0 k_ a0 a1 x5_0 x6_0 = some r), RunF Go.Proofs.Tryd.prog (Ret fun v w' => ∃ A0' n0' c0', v = .slice A0' n0' c0' ∧ Mem w w' [⟨.slice A0' n0' c0', 5, 1, nums .u8 r⟩]) 20 (pl Go.Proofs.Tryd.f20 [1, 1, 0, 1, 0, 0]) 29 [(0, .slice Ap0 a0.length cp0), (1, .slice Ap1 a1.length cp1), (5, .slice (some ⟨g2, 0, none⟩) (((a0.length : Int)).toNat) (((a0.length : Int) : Int).toNat)), (6, .int .i64 x6_0)] W := by
        intro k_
        induction k_ using Nat.strongRecOn with
        | _ k_ ih0 =>
          intro hk x5_0 x6_0 W hM h
          cases k_ with
          | zero => exact absurd h (by simp [scrimref1_Both.l0])
          | succ k =>
            simp only [scrimref1_Both.l0] at h
            replace ih0 : ∀ m, m ≤ k → _ := fun m hm => ih0 m (by omega) (by omega)
            refine RunF.go 8 [0, 1, 5, 6, 13] (k' := (pl Go.Proofs.Tryd.f20 [1, 1, 0, 1, 0, 0, 0, 1])) (L' := [(0, .slice Ap0 a0.length cp0), (1, .slice Ap1 a1.length cp1), (5, .slice (some ⟨g2, 0, none⟩) (((a0.length : Int)).toNat) (((a0.length : Int) : Int).toNat)), (6, .int .i64 x6_0), (13, .bool (decide (x6_0 < (a0.length : Int))))]) (w' := W) (by kernel_rfl) ?_
            rcases two (decide (x6_0 < (a0.length : Int))) with c6 | c6
            · replace h := of_true h c6
              refine RunF.know 13 (b := true) (by kernel_rfl) c6 ?_
              refine RunF.go 4 [0, 1, 5, 6] (k' := (pl Go.Proofs.Tryd.f20 [1, 1, 0, 1, 0, 0, 1, 0, 0])) (L' := [(0, .slice Ap0 a0.length cp0), (1, .slice Ap1 a1.length cp1), (5, .slice (some ⟨g2, 0, none⟩) (((a0.length : Int)).toNat) (((a0.length : Int) : Int).toNat)), (6, .int .i64 x6_0)]) (w' := W) (by kernel_rfl) ?_
              refine RunF.draw (Still ({ W with drawn := W.drawn + 1 } : World) [.slice (some ⟨g2, 0, none⟩) (((a0.length : Int)).toNat) (((a0.length : Int) : Int).toNat)]) (by kernel_rfl) (by kernel_rfl) ?_
              have hMd8 := hM.drew
              have hS := Still.refl ({ W with drawn := W.drawn + 1 } : World) [.slice (some ⟨g2, 0, none⟩) (((a0.length : Int)).toNat) (((a0.length : Int) : Int).toNat)]
              generalize ({ W with drawn := W.drawn + 1 } : World) = W7 at hMd8 hS ⊢
              replace hM := hMd8
              refine RunAny.y 0 (by kernel_rfl) (yl_pure (d := some 16) (v := .slice (some ⟨g2, 0, none⟩) (((a0.length : Int)).toNat) (((a0.length : Int) : Int).toNat)) (k2 := [.inRegion (opsOf (pl Go.Proofs.Tryd.f20 [1, 1, 0, 1, 0, 0, 1, 0, 0])) []]) fun w => by kernel_rfl) (fun _ _ => trivial) hS ?_
              refine RunAny.y 1 (by kernel_rfl) (yl_pure (d := some 17) (v := .int .i64 x6_0) (k2 := [.inRegion (opsOf (pl Go.Proofs.Tryd.f20 [1, 1, 0, 1, 0, 0, 1, 0, 0])) []]) fun w => by kernel_rfl) (fun _ _ => trivial) hS ?_
              refine RunAny.y 2 (by kernel_rfl) (yl_pure (d := some 18) (v := .slice Ap0 a0.length cp0) (k2 := [.inRegion (opsOf (pl Go.Proofs.Tryd.f20 [1, 1, 0, 1, 0, 0, 1, 0, 0])) []]) fun w => by kernel_rfl) (fun _ _ => trivial) hS ?_
              refine RunAny.y 3 (by kernel_rfl) (yl_pure (d := some 19) (v := .int .i64 x6_0) (k2 := [.inRegion (opsOf (pl Go.Proofs.Tryd.f20 [1, 1, 0, 1, 0, 0, 1, 0, 0])) []]) fun w => by kernel_rfl) (fun _ _ => trivial) hS ?_
              rcases two (decide (0 ≤ x6_0)) with c10 | c10
              · replace h := of_true h c10
                rcases two (decide (x6_0 < (a0.length : Int))) with c11 | c11
                · replace h := of_true h c11
                  obtain ⟨q9, hAq9, hiq9⟩ := Rd.num hr0 (i := x6_0) (of_decide_eq_true c10) (by have h_ := of_decide_eq_true c11; omega)
                  have hcq9 := (hM.below.cell (World.block_lt_of_cell? _ _ hiq9)).trans hiq9
                  refine RunAny.y 4 (by kernel_rfl) (idx_y (d := some 20) (A := Ap0) (m := a0.length) (i := x6_0) (k2 := [.inRegion (opsOf (pl Go.Proofs.Tryd.f20 [1, 1, 0, 1, 0, 0, 1, 0, 0])) []]) (by kernel_rfl) (of_decide_eq_true c10) (by have h_ := of_decide_eq_true c11; omega) hAq9) (fun _ _ => trivial) hS ?_
                  refine RunAny.y 5 (by kernel_rfl) (ld_y (d := some 21) (p := (q9.add (x6_0 : Int).toNat)) (k2 := [.inRegion (opsOf (pl Go.Proofs.Tryd.f20 [1, 1, 0, 1, 0, 0, 1, 0, 0])) []]) (.int .u8 (rd a0 x6_0)) (by kernel_rfl)) (fun _ hs => hs.cell hcq9 (by intro v hv; simp only [List.mem_cons, List.not_mem_nil, or_false] at hv; rcases hv with rfl; exact (hM.far hiq9 0 rfl))) hS ?_
                  refine RunAny.y 6 (by kernel_rfl) (yl_pure (d := some 22) (v := .slice Ap1 a1.length cp1) (k2 := [.inRegion (opsOf (pl Go.Proofs.Tryd.f20 [1, 1, 0, 1, 0, 0, 1, 0, 0])) []]) fun w => by kernel_rfl) (fun _ _ => trivial) hS ?_
                  refine RunAny.y 7 (by kernel_rfl) (yl_pure (d := some 23) (v := .int .i64 x6_0) (k2 := [.inRegion (opsOf (pl Go.Proofs.Tryd.f20 [1, 1, 0, 1, 0, 0, 1, 0, 0])) []]) fun w => by kernel_rfl) (fun _ _ => trivial) hS ?_
                  rcases two (decide (0 ≤ x6_0)) with c13 | c13
                  · replace h := of_true h c13
                    rcases two (decide (x6_0 < (a1.length : Int))) with c14 | c14
                    · replace h := of_true h c14
                      obtain ⟨q12, hAq12, hiq12⟩ := Rd.num hr1 (i := x6_0) (of_decide_eq_true c13) (by have h_ := of_decide_eq_true c14; omega)
                      have hcq12 := (hM.below.cell (World.block_lt_of_cell? _ _ hiq12)).trans hiq12
                      refine RunAny.y 8 (by kernel_rfl) (idx_y (d := some 24) (A := Ap1) (m := a1.length) (i := x6_0) (k2 := [.inRegion (opsOf (pl Go.Proofs.Tryd.f20 [1, 1, 0, 1, 0, 0, 1, 0, 0])) []]) (by kernel_rfl) (of_decide_eq_true c13) (by have h_ := of_decide_eq_true c14; omega) hAq12) (fun _ _ => trivial) hS ?_
                      refine RunAny.y 9 (by kernel_rfl) (ld_y (d := some 25) (p := (q12.add (x6_0 : Int).toNat)) (k2 := [.inRegion (opsOf (pl Go.Proofs.Tryd.f20 [1, 1, 0, 1, 0, 0, 1, 0, 0])) []]) (.int .u8 (rd a1 x6_0)) (by kernel_rfl)) (fun _ hs => hs.cell hcq12 (by intro v hv; simp only [List.mem_cons, List.not_mem_nil, or_false] at hv; rcases hv with rfl; exact (hM.far hiq12 0 rfl))) hS ?_
                      refine RunAny.y 10 (by kernel_rfl) (yl_pure (d := some 26) (v := .int .u8 (bxor .u8 (rd a0 x6_0) (rd a1 x6_0))) (k2 := [.inRegion (opsOf (pl Go.Proofs.Tryd.f20 [1, 1, 0, 1, 0, 0, 1, 0, 0])) []]) fun w => by kernel_rfl) (fun _ _ => trivial) hS ?_
                      rcases two (decide (0 ≤ x6_0)) with c16 | c16
                      · replace h := of_true h c16
                        rcases two (decide (x6_0 < (((a0.length : Int)).toNat : Int))) with c17 | c17
                        · replace h := of_true h c17
                          obtain ⟨q15, hAq15, hcq15, hfq15, hlq15⟩ := hM.num_at 0 rfl (i := x6_0) (of_decide_eq_true c16) (by have h_ := of_decide_eq_true c17; omega)
                          refine RunAny.y 11 (by kernel_rfl) (idx_own (d := some 27) (A := (some ⟨g2, 0, none⟩)) (m := ((a0.length : Int)).toNat) (i := x6_0) (k2 := [.inRegion (opsOf (pl Go.Proofs.Tryd.f20 [1, 1, 0, 1, 0, 0, 1, 0, 0])) []]) (by kernel_rfl) (of_decide_eq_true c16) (by have h_ := of_decide_eq_true c17; omega) hAq15) (fun _ _ => trivial) hS ?_
                          obtain ⟨g_, hA_, hc_, hf_, hl_⟩ := hM.num_at 0 rfl (i := x6_0) (of_decide_eq_true c16) (by have h_ := of_decide_eq_true c17; omega)
                          obtain rfl : q15 = g_ := by rw [hAq15] at hA_; injection hA_ with hA_; injection hA_
                          have hS' := hS.set (v := .slice (some ⟨g2, 0, none⟩) (((a0.length : Int)).toNat) (((a0.length : Int) : Int).toNat)) (g := q15) (i := (x6_0 : Int).toNat) (by simp) (by rw [hAq15]; rfl) (.int .u8 (bxor .u8 (rd a0 x6_0) (rd a1 x6_0)))
                          refine RunAny.doesU 12 (by kernel_rfl) (st_u (p := (⟨q15, (x6_0 : Int).toNat, none⟩ : Addr)) (v := .int .u8 (bxor .u8 (rd a0 x6_0) (rd a1 x6_0))) (k2 := [.inRegion (opsOf (pl Go.Proofs.Tryd.f20 [1, 1, 0, 1, 0, 0, 1, 0, 0])) []]) (by kernel_rfl) hc_ hf_) hS' ?_
                          replace hM : Mem w (W7.setCell (⟨q15, (x6_0 : Int).toNat, none⟩ : Addr) (.int .u8 (bxor .u8 (rd a0 x6_0) (rd a1 x6_0)))) [⟨.slice (some ⟨g2, 0, none⟩) (((a0.length : Int)).toNat) (((a0.length : Int) : Int).toNat), 5, 1, nums .u8 (x5_0.set (x6_0 : Int).toNat (bxor .u8 (rd a0 x6_0) (rd a1 x6_0)))⟩] := Mem.put_num [] [] (hM.pick [0] rfl rfl) hAq15 _ hl_ _
                          generalize W7.setCell (⟨q15, (x6_0 : Int).toNat, none⟩ : Addr) (.int .u8 (bxor .u8 (rd a0 x6_0) (rd a1 x6_0))) = W18 at hM hS' ⊢
                          clear hc_ hf_ hl_ hA_ hcq15
                          replace hS := hS'
                          refine RunAny.rebase hS ?_
                          replace hS := Still.refl W18 [.slice (some ⟨g2, 0, none⟩) (((a0.length : Int)).toNat) (((a0.length : Int) : Int).toNat)]
                          refine RunAny.done (by kernel_rfl) ?_
                          clear hS
                          refine RunF.go 7 [0, 1, 5, 6] (k' := (pl Go.Proofs.Tryd.f20 [1, 1, 0, 1, 0, 0])) (L' := [(0, .slice Ap0 a0.length cp0), (1, .slice Ap1 a1.length cp1), (5, .slice (some ⟨g2, 0, none⟩) (((a0.length : Int)).toNat) (((a0.length : Int) : Int).toNat)), (6, .int .i64 (I64 (x6_0 + 1)))]) (w' := W18) (by kernel_rfl) ?_
                          exact ih0 k (by omega) (x5_0.set (x6_0 : Int).toNat (bxor .u8 (rd a0 x6_0) (rd a1 x6_0))) (I64 (x6_0 + 1)) _ (hM.pick [0] rfl rfl) h
                        · replace h := of_false h c17
                          cases h
                      · replace h := of_false h c16
                        cases h
                    · replace h := of_false h c14
                      cases h
                  · replace h := of_false h c13
                    cases h
                · replace h := of_false h c11
                  cases h
              · replace h := of_false h c10
                cases h
            · replace h := of_false h c6
              refine RunF.know 13 (b := false) (by kernel_rfl) c6 ?_
              refine RunF.go 7 [4] (k' := (pl Go.Proofs.Tryd.f20 [1, 1, 1, 1])) (L' := [(4, .slice (some ⟨g2, 0, none⟩) (((a0.length : Int)).toNat) (((a0.length : Int) : Int).toNat))]) (w' := W) (by kernel_rfl) ?_
              obtain rfl := Option.some.inj h
              exact RunF.ret1 4 (.slice (some ⟨g2, 0, none⟩) (((a0.length : Int)).toNat) (((a0.length : Int) : Int).toNat)) (fn := Go.Proofs.Tryd.f20) Go.Proofs.Tryd.func20 (by kernel_rfl) (by kernel_rfl) (by kernel_rfl) ⟨_, rfl, (some ⟨g2, 0, none⟩), ((a0.length : Int)).toNat, ((a0.length : Int) : Int).toNat, rfl, (hM.pick [0] rfl rfl)⟩
      exact l0 k (Nat.le_refl _) (List.replicate (((a0.length : Int)).toNat) (0 : Int)) 0 _ (hM.pick [0] rfl rfl) h
    · replace h := of_false h c4
      cases h
  · replace h := of_false h c3
    cases h

/-! ### scrim/scrimref10.of: function 42 -/
def scrimref10_of.f (k : Nat) (a0 : Int) : Option (List Int) := if (a0 == 0) = true then (some ([3, 4, 6, 8, 9, 13, 14] : List Int)) else (if (a0 == 1) = true then (some ([2, 5, 7, 8, 9, 12, 15] : List Int)) else (if (a0 == 2) = true then (some ([1, 4, 6, 10, 11, 12, 15] : List Int)) else (if (a0 == 3) = true then (some ([0, 5, 7, 10, 11, 13, 14] : List Int)) else (if (a0 == 4) = true then (some ([0, 2, 5, 8, 11, 14, 15] : List Int)) else (if (a0 == 5) = true then (some ([1, 3, 4, 9, 10, 14, 15] : List Int)) else (if (a0 == 6) = true then (some ([0, 2, 7, 9, 10, 12, 13] : List Int)) else (if (a0 == 7) = true then (some ([1, 3, 6, 8, 11, 12, 13] : List Int)) else (if (a0 == 8) = true then (some ([0, 1, 4, 7, 10, 13, 15] : List Int)) else (if (a0 == 9) = true then (some ([0, 1, 5, 6, 11, 12, 14] : List Int)) else (if (a0 == 10) = true then (some ([2, 3, 5, 6, 8, 13, 15] : List Int)) else (if (a0 == 11) = true then (some ([2, 3, 4, 7, 9, 12, 14] : List Int)) else (if (a0 == 12) = true then (some ([1, 2, 6, 7, 9, 11, 12] : List Int)) else (if (a0 == 13) = true then (some ([0, 3, 6, 7, 8, 10, 13] : List Int)) else (if (a0 == 14) = true then (some ([0, 3, 4, 5, 9, 11, 14] : List Int)) else (some ([1, 2, 4, 5, 8, 10, 15] : List Int))))))))))))))))
set_option maxRecDepth 100000 in
set_option maxHeartbeats 8000000 in
theorem scrimref10_of.calls (k : Nat) (a0 : Int) (r : List Int) (w : World) (h : scrimref10_of.f k a0 = some r) :
    Calls Go.Proofs.Tryd.prog 42 #[.int .i64 a0] w (Ret fun v w' => ∃ A0' n0' c0', v = .slice A0' n0' c0' ∧ Mem w w' [⟨.slice A0' n0' c0', 3, 1, nums .i64 r⟩]) := by
  unfold scrimref10_of.f at h
  refine calls_of [.int .i64 a0] (fn := Go.Proofs.Tryd.f42) Go.Proofs.Tryd.func42 (by kernel_rfl) (by kernel_rfl) ?_
  have hM := Mem.refl w
  refine RunF.go 15 [3, 4] (k' := (pl Go.Proofs.Tryd.f42 [1, 0, 1, 0, 1])) (L' := [(3, .int .i64 a0), (4, .bool (a0 == 0))]) (w' := w) (by kernel_rfl) ?_
  rcases two ((a0 == 0)) with c1 | c1
  · replace h := of_true h c1
    refine RunF.know 4 (b := true) (by kernel_rfl) c1 ?_
    refine RunF.go 3 [] (k' := (pin Go.Proofs.Tryd.f42 [1, 0, 1, 0, 1, 0, 0] 0)) (L' := []) (w' := w) (by kernel_rfl) ?_
    refine RunF.new 3 1 7 (nums .i64 [3, 4, 6, 8, 9, 13, 14]) (d := some 6) (k2 := (pin Go.Proofs.Tryd.f42 [1, 0, 1, 0, 1, 0, 0] 1)) hM (by simp [nums, bools, strs]) (by kernel_rfl) (by kernel_rfl) ?_
    replace hM := hM
    intro g2 W3 hM
    refine RunF.go 2 [2] (k' := (pl Go.Proofs.Tryd.f42 [1, 0, 1, 0, 1, 0, 1])) (L' := [(2, .slice (some ⟨g2, 0, none⟩) 7 7)]) (w' := W3) (by kernel_rfl) ?_
    obtain rfl := Option.some.inj h
    exact RunF.ret1 2 (.slice (some ⟨g2, 0, none⟩) 7 7) (fn := Go.Proofs.Tryd.f42) Go.Proofs.Tryd.func42 (by kernel_rfl) (by kernel_rfl) (by kernel_rfl) ⟨_, rfl, (some ⟨g2, 0, none⟩), 7, 7, rfl, (hM.pick [0] rfl rfl)⟩
  · replace h := of_false h c1
    refine RunF.know 4 (b := false) (by kernel_rfl) c1 ?_
    refine RunF.go 6 [3, 7] (k' := (pl Go.Proofs.Tryd.f42 [1, 0, 1, 0, 1, 1, 1])) (L' := [(3, .int .i64 a0), (7, .bool (a0 == 1))]) (w' := w) (by kernel_rfl) ?_
    rcases two ((a0 == 1)) with c5 | c5
    · replace h := of_true h c5
      refine RunF.know 7 (b := true) (by kernel_rfl) c5 ?_
      refine RunF.go 3 [] (k' := (pin Go.Proofs.Tryd.f42 [1, 0, 1, 0, 1, 1, 1, 0, 0] 0)) (L' := []) (w' := w) (by kernel_rfl) ?_
      refine RunF.new 3 1 7 (nums .i64 [2, 5, 7, 8, 9, 12, 15]) (d := some 9) (k2 := (pin Go.Proofs.Tryd.f42 [1, 0, 1, 0, 1, 1, 1, 0, 0] 1)) hM (by simp [nums, bools, strs]) (by kernel_rfl) (by kernel_rfl) ?_
      replace hM := hM
      intro g6 W7 hM
      refine RunF.go 2 [2] (k' := (pl Go.Proofs.Tryd.f42 [1, 0, 1, 0, 1, 1, 1, 0, 1])) (L' := [(2, .slice (some ⟨g6, 0, none⟩) 7 7)]) (w' := W7) (by kernel_rfl) ?_
      obtain rfl := Option.some.inj h
      exact RunF.ret1 2 (.slice (some ⟨g6, 0, none⟩) 7 7) (fn := Go.Proofs.Tryd.f42) Go.Proofs.Tryd.func42 (by kernel_rfl) (by kernel_rfl) (by kernel_rfl) ⟨_, rfl, (some ⟨g6, 0, none⟩), 7, 7, rfl, (hM.pick [0] rfl rfl)⟩
    · replace h := of_false h c5
      refine RunF.know 7 (b := false) (by kernel_rfl) c5 ?_
      refine RunF.go 6 [3, 10] (k' := (pl Go.Proofs.Tryd.f42 [1, 0, 1, 0, 1, 1, 1, 1, 1])) (L' := [(3, .int .i64 a0), (10, .bool (a0 == 2))]) (w' := w) (by kernel_rfl) ?_
      rcases two ((a0 == 2)) with c9 | c9
      · replace h := of_true h c9
        refine RunF.know 10 (b := true) (by kernel_rfl) c9 ?_
        refine RunF.go 3 [] (k' := (pin Go.Proofs.Tryd.f42 [1, 0, 1, 0, 1, 1, 1, 1, 1, 0, 0] 0)) (L' := []) (w' := w) (by kernel_rfl) ?_
        refine RunF.new 3 1 7 (nums .i64 [1, 4, 6, 10, 11, 12, 15]) (d := some 12) (k2 := (pin Go.Proofs.Tryd.f42 [1, 0, 1, 0, 1, 1, 1, 1, 1, 0, 0] 1)) hM (by simp [nums, bools, strs]) (by kernel_rfl) (by kernel_rfl) ?_
        replace hM := hM
        intro g10 W11 hM
        refine RunF.go 2 [2] (k' := (pl Go.Proofs.Tryd.f42 [1, 0, 1, 0, 1, 1, 1, 1, 1, 0, 1])) (L' := [(2, .slice (some ⟨g10, 0, none⟩) 7 7)]) (w' := W11) (by kernel_rfl) ?_
        obtain rfl := Option.some.inj h
        exact RunF.ret1 2 (.slice (some ⟨g10, 0, none⟩) 7 7) (fn := Go.Proofs.Tryd.f42) Go.Proofs.Tryd.func42 (by kernel_rfl) (by kernel_rfl) (by kernel_rfl) ⟨_, rfl, (some ⟨g10, 0, none⟩), 7, 7, rfl, (hM.pick [0] rfl rfl)⟩
      · replace h := of_false h c9
        refine RunF.know 10 (b := false) (by kernel_rfl) c9 ?_
        refine RunF.go 6 [3, 13] (k' := (pl Go.Proofs.Tryd.f42 [1, 0, 1, 0, 1, 1, 1, 1, 1, 1, 1])) (L' := [(3, .int .i64 a0), (13, .bool (a0 == 3))]) (w' := w) (by kernel_rfl) ?_
        rcases two ((a0 == 3)) with c13 | c13
        · replace h := of_true h c13
          refine RunF.know 13 (b := true) (by kernel_rfl) c13 ?_
          refine RunF.go 3 [] (k' := (pin Go.Proofs.Tryd.f42 [1, 0, 1, 0, 1, 1, 1, 1, 1, 1, 1, 0, 0] 0)) (L' := []) (w' := w) (by kernel_rfl) ?_
          refine RunF.new 3 1 7 (nums .i64 [0, 5, 7, 10, 11, 13, 14]) (d := some 15) (k2 := (pin Go.Proofs.Tryd.f42 [1, 0, 1, 0, 1, 1, 1, 1, 1, 1, 1, 0, 0] 1)) hM (by simp [nums, bools, strs]) (by kernel_rfl) (by kernel_rfl) ?_
          replace hM := hM
          intro g14 W15 hM
          refine RunF.go 2 [2] (k' := (pl Go.Proofs.Tryd.f42 [1, 0, 1, 0, 1, 1, 1, 1, 1, 1, 1, 0, 1])) (L' := [(2, .slice (some ⟨g14, 0, none⟩) 7 7)]) (w' := W15) (by kernel_rfl) ?_
          obtain rfl := Option.some.inj h
          exact RunF.ret1 2 (.slice (some ⟨g14, 0, none⟩) 7 7) (fn := Go.Proofs.Tryd.f42) Go.Proofs.Tryd.func42 (by kernel_rfl) (by kernel_rfl) (by kernel_rfl) ⟨_, rfl, (some ⟨g14, 0, none⟩), 7, 7, rfl, (hM.pick [0] rfl rfl)⟩
        · replace h := of_false h c13
          refine RunF.know 13 (b := false) (by kernel_rfl) c13 ?_
          refine RunF.go 6 [3, 16] (k' := (pl Go.Proofs.Tryd.f42 [1, 0, 1, 0, 1, 1, 1, 1, 1, 1, 1, 1, 1])) (L' := [(3, .int .i64 a0), (16, .bool (a0 == 4))]) (w' := w) (by kernel_rfl) ?_
          rcases two ((a0 == 4)) with c17 | c17
          · replace h := of_true h c17
            refine RunF.know 16 (b := true) (by kernel_rfl) c17 ?_
            refine RunF.go 3 [] (k' := (pin Go.Proofs.Tryd.f42 [1, 0, 1, 0, 1, 1, 1, 1, 1, 1, 1, 1, 1, 0, 0] 0)) (L' := []) (w' := w) (by kernel_rfl) ?_
            refine RunF.new 3 1 7 (nums .i64 [0, 2, 5, 8, 11, 14, 15]) (d := some 18) (k2 := (pin Go.Proofs.Tryd.f42 [1, 0, 1, 0, 1, 1, 1, 1, 1, 1, 1, 1, 1, 0, 0] 1)) hM (by simp [nums, bools, strs]) (by kernel_rfl) (by kernel_rfl) ?_
            replace hM := hM
            intro g18 W19 hM
            refine RunF.go 2 [2] (k' := (pl Go.Proofs.Tryd.f42 [1, 0, 1, 0, 1, 1, 1, 1, 1, 1, 1, 1, 1, 0, 1])) (L' := [(2, .slice (some ⟨g18, 0, none⟩) 7 7)]) (w' := W19) (by kernel_rfl) ?_
            obtain rfl := Option.some.inj h
            exact RunF.ret1 2 (.slice (some ⟨g18, 0, none⟩) 7 7) (fn := Go.Proofs.Tryd.f42) Go.Proofs.Tryd.func42 (by kernel_rfl) (by kernel_rfl) (by kernel_rfl) ⟨_, rfl, (some ⟨g18, 0, none⟩), 7, 7, rfl, (hM.pick [0] rfl rfl)⟩
          · replace h := of_false h c17
            refine RunF.know 16 (b := false) (by kernel_rfl) c17 ?_
            refine RunF.go 6 [3, 19] (k' := (pl Go.Proofs.Tryd.f42 [1, 0, 1, 0, 1, 1, 1, 1, 1, 1, 1, 1, 1, 1, 1])) (L' := [(3, .int .i64 a0), (19, .bool (a0 == 5))]) (w' := w) (by kernel_rfl) ?_
            rcases two ((a0 == 5)) with c21 | c21
            · replace h := of_true h c21
              refine RunF.know 19 (b := true) (by kernel_rfl) c21 ?_
              refine RunF.go 3 [] (k' := (pin Go.Proofs.Tryd.f42 [1, 0, 1, 0, 1, 1, 1, 1, 1, 1, 1, 1, 1, 1, 1, 0, 0] 0)) (L' := []) (w' := w) (by kernel_rfl) ?_
              refine RunF.new 3 1 7 (nums .i64 [1, 3, 4, 9, 10, 14, 15]) (d := some 21) (k2 := (pin Go.Proofs.Tryd.f42 [1, 0, 1, 0, 1, 1, 1, 1, 1, 1, 1, 1, 1, 1, 1, 0, 0] 1)) hM (by simp [nums, bools, strs]) (by kernel_rfl) (by kernel_rfl) ?_
              replace hM := hM
              intro g22 W23 hM
              refine RunF.go 2 [2] (k' := (pl Go.Proofs.Tryd.f42 [1, 0, 1, 0, 1, 1, 1, 1, 1, 1, 1, 1, 1, 1, 1, 0, 1])) (L' := [(2, .slice (some ⟨g22, 0, none⟩) 7 7)]) (w' := W23) (by kernel_rfl) ?_
              obtain rfl := Option.some.inj h
              exact RunF.ret1 2 (.slice (some ⟨g22, 0, none⟩) 7 7) (fn := Go.Proofs.Tryd.f42) Go.Proofs.Tryd.func42 (by kernel_rfl) (by kernel_rfl) (by kernel_rfl) ⟨_, rfl, (some ⟨g22, 0, none⟩), 7, 7, rfl, (hM.pick [0] rfl rfl)⟩
            · replace h := of_false h c21
              refine RunF.know 19 (b := false) (by kernel_rfl) c21 ?_
              refine RunF.go 6 [3, 22] (k' := (pl Go.Proofs.Tryd.f42 [1, 0, 1, 0, 1, 1, 1, 1, 1, 1, 1, 1, 1, 1, 1, 1, 1])) (L' := [(3, .int .i64 a0), (22, .bool (a0 == 6))]) (w' := w) (by kernel_rfl) ?_
              rcases two ((a0 == 6)) with c25 | c25
              · replace h := of_true h c25
                refine RunF.know 22 (b := true) (by kernel_rfl) c25 ?_
                refine RunF.go 3 [] (k' := (pin Go.Proofs.Tryd.f42 [1, 0, 1, 0, 1, 1, 1, 1, 1, 1, 1, 1, 1, 1, 1, 1, 1, 0, 0] 0)) (L' := []) (w' := w) (by kernel_rfl) ?_
                refine RunF.new 3 1 7 (nums .i64 [0, 2, 7, 9, 10, 12, 13]) (d := some 24) (k2 := (pin Go.Proofs.Tryd.f42 [1, 0, 1, 0, 1, 1, 1, 1, 1, 1, 1, 1, 1, 1, 1, 1, 1, 0, 0] 1)) hM (by simp [nums, bools, strs]) (by kernel_rfl) (by kernel_rfl) ?_
                replace hM := hM
                intro g26 W27 hM
                refine RunF.go 2 [2] (k' := (pl Go.Proofs.Tryd.f42 [1, 0, 1, 0, 1, 1, 1, 1, 1, 1, 1, 1, 1, 1, 1, 1, 1, 0, 1])) (L' := [(2, .slice (some ⟨g26, 0, none⟩) 7 7)]) (w' := W27) (by kernel_rfl) ?_
                obtain rfl := Option.some.inj h
                exact RunF.ret1 2 (.slice (some ⟨g26, 0, none⟩) 7 7) (fn := Go.Proofs.Tryd.f42) Go.Proofs.Tryd.func42 (by kernel_rfl) (by kernel_rfl) (by kernel_rfl) ⟨_, rfl, (some ⟨g26, 0, none⟩), 7, 7, rfl, (hM.pick [0] rfl rfl)⟩
              · replace h := of_false h c25
                refine RunF.know 22 (b := false) (by kernel_rfl) c25 ?_
                refine RunF.go 6 [3, 25] (k' := (pl Go.Proofs.Tryd.f42 [1, 0, 1, 0, 1, 1, 1, 1, 1, 1, 1, 1, 1, 1, 1, 1, 1, 1, 1])) (L' := [(3, .int .i64 a0), (25, .bool (a0 == 7))]) (w' := w) (by kernel_rfl) ?_
                rcases two ((a0 == 7)) with c29 | c29
                · replace h := of_true h c29
                  refine RunF.know 25 (b := true) (by kernel_rfl) c29 ?_
                  refine RunF.go 3 [] (k' := (pin Go.Proofs.Tryd.f42 [1, 0, 1, 0, 1, 1, 1, 1, 1, 1, 1, 1, 1, 1, 1, 1, 1, 1, 1, 0, 0] 0)) (L' := []) (w' := w) (by kernel_rfl) ?_
                  refine RunF.new 3 1 7 (nums .i64 [1, 3, 6, 8, 11, 12, 13]) (d := some 27) (k2 := (pin Go.Proofs.Tryd.f42 [1, 0, 1, 0, 1, 1, 1, 1, 1, 1, 1, 1, 1, 1, 1, 1, 1, 1, 1, 0, 0] 1)) hM (by simp [nums, bools, strs]) (by kernel_rfl) (by kernel_rfl) ?_
                  replace hM := hM
                  intro g30 W31 hM
                  refine RunF.go 2 [2] (k' := (pl Go.Proofs.Tryd.f42 [1, 0, 1, 0, 1, 1, 1, 1, 1, 1, 1, 1, 1, 1, 1, 1, 1, 1, 1, 0, 1])) (L' := [(2, .slice (some ⟨g30, 0, none⟩) 7 7)]) (w' := W31) (by kernel_rfl) ?_
                  obtain rfl := Option.some.inj h
                  exact RunF.ret1 2 (.slice (some ⟨g30, 0, none⟩) 7 7) (fn := Go.Proofs.Tryd.f42) Go.Proofs.Tryd.func42 (by kernel_rfl) (by kernel_rfl) (by kernel_rfl) ⟨_, rfl, (some ⟨g30, 0, none⟩), 7, 7, rfl, (hM.pick [0] rfl rfl)⟩
                · replace h := of_false h c29
                  refine RunF.know 25 (b := false) (by kernel_rfl) c29 ?_
                  refine RunF.go 6 [3, 28] (k' := (pl Go.Proofs.Tryd.f42 [1, 0, 1, 0, 1, 1, 1, 1, 1, 1, 1, 1, 1, 1, 1, 1, 1, 1, 1, 1, 1])) (L' := [(3, .int .i64 a0), (28, .bool (a0 == 8))]) (w' := w) (by kernel_rfl) ?_
                  rcases two ((a0 == 8)) with c33 | c33
                  · replace h := of_true h c33
                    refine RunF.know 28 (b := true) (by kernel_rfl) c33 ?_
                    refine RunF.go 3 [] (k' := (pin Go.Proofs.Tryd.f42 [1, 0, 1, 0, 1, 1, 1, 1, 1, 1, 1, 1, 1, 1, 1, 1, 1, 1, 1, 1, 1, 0, 0] 0)) (L' := []) (w' := w) (by kernel_rfl) ?_
                    refine RunF.new 3 1 7 (nums .i64 [0, 1, 4, 7, 10, 13, 15]) (d := some 30) (k2 := (pin Go.Proofs.Tryd.f42 [1, 0, 1, 0, 1, 1, 1, 1, 1, 1, 1, 1, 1, 1, 1, 1, 1, 1, 1, 1, 1, 0, 0] 1)) hM (by simp [nums, bools, strs]) (by kernel_rfl) (by kernel_rfl) ?_
                    replace hM := hM
                    intro g34 W35 hM
                    refine RunF.go 2 [2] (k' := (pl Go.Proofs.Tryd.f42 [1, 0, 1, 0, 1, 1, 1, 1, 1, 1, 1, 1, 1, 1, 1, 1, 1, 1, 1, 1, 1, 0, 1])) (L' := [(2, .slice (some ⟨g34, 0, none⟩) 7 7)]) (w' := W35) (by kernel_rfl) ?_
                    obtain rfl := Option.some.inj h
                    exact RunF.ret1 2 (.slice (some ⟨g34, 0, none⟩) 7 7) (fn := Go.Proofs.Tryd.f42) Go.Proofs.Tryd.func42 (by kernel_rfl) (by kernel_rfl) (by kernel_rfl) ⟨_, rfl, (some ⟨g34, 0, none⟩), 7, 7, rfl, (hM.pick [0] rfl rfl)⟩
                  · replace h := of_false h c33
                    refine RunF.know 28 (b := false) (by kernel_rfl) c33 ?_
                    refine RunF.go 6 [3, 31] (k' := (pl Go.Proofs.Tryd.f42 [1, 0, 1, 0, 1, 1, 1, 1, 1, 1, 1, 1, 1, 1, 1, 1, 1, 1, 1, 1, 1, 1, 1])) (L' := [(3, .int .i64 a0), (31, .bool (a0 == 9))]) (w' := w) (by kernel_rfl) ?_
                    rcases two ((a0 == 9)) with c37 | c37
                    · replace h := of_true h c37
                      refine RunF.know 31 (b := true) (by kernel_rfl) c37 ?_
                      refine RunF.go 3 [] (k' := (pin Go.Proofs.Tryd.f42 [1, 0, 1, 0, 1, 1, 1, 1, 1, 1, 1, 1, 1, 1, 1, 1, 1, 1, 1, 1, 1, 1, 1, 0, 0] 0)) (L' := []) (w' := w) (by kernel_rfl) ?_
                      refine RunF.new 3 1 7 (nums .i64 [0, 1, 5, 6, 11, 12, 14]) (d := some 33) (k2 := (pin Go.Proofs.Tryd.f42 [1, 0, 1, 0, 1, 1, 1, 1, 1, 1, 1, 1, 1, 1, 1, 1, 1, 1, 1, 1, 1, 1, 1, 0, 0] 1)) hM (by simp [nums, bools, strs]) (by kernel_rfl) (by kernel_rfl) ?_
                      replace hM := hM
                      intro g38 W39 hM
                      refine RunF.go 2 [2] (k' := (pl Go.Proofs.Tryd.f42 [1, 0, 1, 0, 1, 1, 1, 1, 1, 1, 1, 1, 1, 1, 1, 1, 1, 1, 1, 1, 1, 1, 1, 0, 1])) (L' := [(2, .slice (some ⟨g38, 0, none⟩) 7 7)]) (w' := W39) (by kernel_rfl) ?_
                      obtain rfl := Option.some.inj h
                      exact RunF.ret1 2 (.slice (some ⟨g38, 0, none⟩) 7 7) (fn := Go.Proofs.Tryd.f42) Go.Proofs.Tryd.func42 (by kernel_rfl) (by kernel_rfl) (by kernel_rfl) ⟨_, rfl, (some ⟨g38, 0, none⟩), 7, 7, rfl, (hM.pick [0] rfl rfl)⟩
                    · replace h := of_false h c37
                      refine RunF.know 31 (b := false) (by kernel_rfl) c37 ?_
                      refine RunF.go 6 [3, 34] (k' := (pl Go.Proofs.Tryd.f42 [1, 0, 1, 0, 1, 1, 1, 1, 1, 1, 1, 1, 1, 1, 1, 1, 1, 1, 1, 1, 1, 1, 1, 1, 1])) (L' := [(3, .int .i64 a0), (34, .bool (a0 == 10))]) (w' := w) (by kernel_rfl) ?_
                      rcases two ((a0 == 10)) with c41 | c41
                      · replace h := of_true h c41
                        refine RunF.know 34 (b := true) (by kernel_rfl) c41 ?_
                        refine RunF.go 3 [] (k' := (pin Go.Proofs.Tryd.f42 [1, 0, 1, 0, 1, 1, 1, 1, 1, 1, 1, 1, 1, 1, 1, 1, 1, 1, 1, 1, 1, 1, 1, 1, 1, 0, 0] 0)) (L' := []) (w' := w) (by kernel_rfl) ?_
                        refine RunF.new 3 1 7 (nums .i64 [2, 3, 5, 6, 8, 13, 15]) (d := some 36) (k2 := (pin Go.Proofs.Tryd.f42 [1, 0, 1, 0, 1, 1, 1, 1, 1, 1, 1, 1, 1, 1, 1, 1, 1, 1, 1, 1, 1, 1, 1, 1, 1, 0, 0] 1)) hM (by simp [nums, bools, strs]) (by kernel_rfl) (by kernel_rfl) ?_
                        replace hM := hM
                        intro g42 W43 hM
                        refine RunF.go 2 [2] (k' := (pl Go.Proofs.Tryd.f42 [1, 0, 1, 0, 1, 1, 1, 1, 1, 1, 1, 1, 1, 1, 1, 1, 1, 1, 1, 1, 1, 1, 1, 1, 1, 0, 1])) (L' := [(2, .slice (some ⟨g42, 0, none⟩) 7 7)]) (w' := W43) (by kernel_rfl) ?_
                        obtain rfl := Option.some.inj h
                        exact RunF.ret1 2 (.slice (some ⟨g42, 0, none⟩) 7 7) (fn := Go.Proofs.Tryd.f42) Go.Proofs.Tryd.func42 (by kernel_rfl) (by kernel_rfl) (by kernel_rfl) ⟨_, rfl, (some ⟨g42, 0, none⟩), 7, 7, rfl, (hM.pick [0] rfl rfl)⟩
                      · replace h := of_false h c41
                        refine RunF.know 34 (b := false) (by kernel_rfl) c41 ?_
                        refine RunF.go 6 [3, 37] (k' := (pl Go.Proofs.Tryd.f42 [1, 0, 1, 0, 1, 1, 1, 1, 1, 1, 1, 1, 1, 1, 1, 1, 1, 1, 1, 1, 1, 1, 1, 1, 1, 1, 1])) (L' := [(3, .int .i64 a0), (37, .bool (a0 == 11))]) (w' := w) (by kernel_rfl) ?_
                        rcases two ((a0 == 11)) with c45 | c45
                        · replace h := of_true h c45
                          refine RunF.know 37 (b := true) (by kernel_rfl) c45 ?_
                          refine RunF.go 3 [] (k' := (pin Go.Proofs.Tryd.f42 [1, 0, 1, 0, 1, 1, 1, 1, 1, 1, 1, 1, 1, 1, 1, 1, 1, 1, 1, 1, 1, 1, 1, 1, 1, 1, 1, 0, 0] 0)) (L' := []) (w' := w) (by kernel_rfl) ?_
                          refine RunF.new 3 1 7 (nums .i64 [2, 3, 4, 7, 9, 12, 14]) (d := some 39) (k2 := (pin Go.Proofs.Tryd.f42 [1, 0, 1, 0, 1, 1, 1, 1, 1, 1, 1, 1, 1, 1, 1, 1, 1, 1, 1, 1, 1, 1, 1, 1, 1, 1, 1, 0, 0] 1)) hM (by simp [nums, bools, strs]) (by kernel_rfl) (by kernel_rfl) ?_
                          replace hM := hM
                          intro g46 W47 hM
                          refine RunF.go 2 [2] (k' := (pl Go.Proofs.Tryd.f42 [1, 0, 1, 0, 1, 1, 1, 1, 1, 1, 1, 1, 1, 1, 1, 1, 1, 1, 1, 1, 1, 1, 1, 1, 1, 1, 1, 0, 1])) (L' := [(2, .slice (some ⟨g46, 0, none⟩) 7 7)]) (w' := W47) (by kernel_rfl) ?_
                          obtain rfl := Option.some.inj h
                          exact RunF.ret1 2 (.slice (some ⟨g46, 0, none⟩) 7 7) (fn := Go.Proofs.Tryd.f42) Go.Proofs.Tryd.func42 (by kernel_rfl) (by kernel_rfl) (by kernel_rfl) ⟨_, rfl, (some ⟨g46, 0, none⟩), 7, 7, rfl, (hM.pick [0] rfl rfl)⟩
                        · replace h := of_false h c45
                          refine RunF.know 37 (b := false) (by kernel_rfl) c45 ?_
                          refine RunF.go 6 [3, 40] (k' := (pl Go.Proofs.Tryd.f42 [1, 0, 1, 0, 1, 1, 1, 1, 1, 1, 1, 1, 1, 1, 1, 1, 1, 1, 1, 1, 1, 1, 1, 1, 1, 1, 1, 1, 1])) (L' := [(3, .int .i64 a0), (40, .bool (a0 == 12))]) (w' := w) (by kernel_rfl) ?_
                          rcases two ((a0 == 12)) with c49 | c49
                          · replace h := of_true h c49
                            refine RunF.know 40 (b := true) (by kernel_rfl) c49 ?_
                            refine RunF.go 3 [] (k' := (pin Go.Proofs.Tryd.f42 [1, 0, 1, 0, 1, 1, 1, 1, 1, 1, 1, 1, 1, 1, 1, 1, 1, 1, 1, 1, 1, 1, 1, 1, 1, 1, 1, 1, 1, 0, 0] 0)) (L' := []) (w' := w) (by kernel_rfl) ?_
                            refine RunF.new 3 1 7 (nums .i64 [1, 2, 6, 7, 9, 11, 12]) (d := some 42) (k2 := (pin Go.Proofs.Tryd.f42 [1, 0, 1, 0, 1, 1, 1, 1, 1, 1, 1, 1, 1, 1, 1, 1, 1, 1, 1, 1, 1, 1, 1, 1, 1, 1, 1, 1, 1, 0, 0] 1)) hM (by simp [nums, bools, strs]) (by kernel_rfl) (by kernel_rfl) ?_
                            replace hM := hM
                            intro g50 W51 hM
                            refine RunF.go 2 [2] (k' := (pl Go.Proofs.Tryd.f42 [1, 0, 1, 0, 1, 1, 1, 1, 1, 1, 1, 1, 1, 1, 1, 1, 1, 1, 1, 1, 1, 1, 1, 1, 1, 1, 1, 1, 1, 0, 1])) (L' := [(2, .slice (some ⟨g50, 0, none⟩) 7 7)]) (w' := W51) (by kernel_rfl) ?_
                            obtain rfl := Option.some.inj h
                            exact RunF.ret1 2 (.slice (some ⟨g50, 0, none⟩) 7 7) (fn := Go.Proofs.Tryd.f42) Go.Proofs.Tryd.func42 (by kernel_rfl) (by kernel_rfl) (by kernel_rfl) ⟨_, rfl, (some ⟨g50, 0, none⟩), 7, 7, rfl, (hM.pick [0] rfl rfl)⟩
                          · replace h := of_false h c49
                            refine RunF.know 40 (b := false) (by kernel_rfl) c49 ?_
                            refine RunF.go 6 [3, 43] (k' := (pl Go.Proofs.Tryd.f42 [1, 0, 1, 0, 1, 1, 1, 1, 1, 1, 1, 1, 1, 1, 1, 1, 1, 1, 1, 1, 1, 1, 1, 1, 1, 1, 1, 1, 1, 1, 1])) (L' := [(3, .int .i64 a0), (43, .bool (a0 == 13))]) (w' := w) (by kernel_rfl) ?_
                            rcases two ((a0 == 13)) with c53 | c53
                            · replace h := of_true h c53
                              refine RunF.know 43 (b := true) (by kernel_rfl) c53 ?_
                              refine RunF.go 3 [] (k' := (pin Go.Proofs.Tryd.f42 [1, 0, 1, 0, 1, 1, 1, 1, 1, 1, 1, 1, 1, 1, 1, 1, 1, 1, 1, 1, 1, 1, 1, 1, 1, 1, 1, 1, 1, 1, 1, 0, 0] 0)) (L' := []) (w' := w) (by kernel_rfl) ?_
                              refine RunF.new 3 1 7 (nums .i64 [0, 3, 6, 7, 8, 10, 13]) (d := some 45) (k2 := (pin Go.Proofs.Tryd.f42 [1, 0, 1, 0, 1, 1, 1, 1, 1, 1, 1, 1, 1, 1, 1, 1, 1, 1, 1, 1, 1, 1, 1, 1, 1, 1, 1, 1, 1, 1, 1, 0, 0] 1)) hM (by simp [nums, bools, strs]) (by kernel_rfl) (by kernel_rfl) ?_
                              replace hM := hM
                              intro g54 W55 hM
                              refine RunF.go 2 [2] (k' := (pl Go.Proofs.Tryd.f42 [1, 0, 1, 0, 1, 1, 1, 1, 1, 1, 1, 1, 1, 1, 1, 1, 1, 1, 1, 1, 1, 1, 1, 1, 1, 1, 1, 1, 1, 1, 1, 0, 1])) (L' := [(2, .slice (some ⟨g54, 0, none⟩) 7 7)]) (w' := W55) (by kernel_rfl) ?_
                              obtain rfl := Option.some.inj h
                              exact RunF.ret1 2 (.slice (some ⟨g54, 0, none⟩) 7 7) (fn := Go.Proofs.Tryd.f42) Go.Proofs.Tryd.func42 (by kernel_rfl) (by kernel_rfl) (by kernel_rfl) ⟨_, rfl, (some ⟨g54, 0, none⟩), 7, 7, rfl, (hM.pick [0] rfl rfl)⟩
                            · replace h := of_false h c53
                              refine RunF.know 43 (b := false) (by kernel_rfl) c53 ?_
                              refine RunF.go 6 [46] (k' := (pl Go.Proofs.Tryd.f42 [1, 0, 1, 0, 1, 1, 1, 1, 1, 1, 1, 1, 1, 1, 1, 1, 1, 1, 1, 1, 1, 1, 1, 1, 1, 1, 1, 1, 1, 1, 1, 1, 1])) (L' := [(46, .bool (a0 == 14))]) (w' := w) (by kernel_rfl) ?_
                              rcases two ((a0 == 14)) with c57 | c57
                              · replace h := of_true h c57
                                refine RunF.know 46 (b := true) (by kernel_rfl) c57 ?_
                                refine RunF.go 3 [] (k' := (pin Go.Proofs.Tryd.f42 [1, 0, 1, 0, 1, 1, 1, 1, 1, 1, 1, 1, 1, 1, 1, 1, 1, 1, 1, 1, 1, 1, 1, 1, 1, 1, 1, 1, 1, 1, 1, 1, 1, 0, 0] 0)) (L' := []) (w' := w) (by kernel_rfl) ?_
                                refine RunF.new 3 1 7 (nums .i64 [0, 3, 4, 5, 9, 11, 14]) (d := some 48) (k2 := (pin Go.Proofs.Tryd.f42 [1, 0, 1, 0, 1, 1, 1, 1, 1, 1, 1, 1, 1, 1, 1, 1, 1, 1, 1, 1, 1, 1, 1, 1, 1, 1, 1, 1, 1, 1, 1, 1, 1, 0, 0] 1)) hM (by simp [nums, bools, strs]) (by kernel_rfl) (by kernel_rfl) ?_
                                replace hM := hM
                                intro g58 W59 hM
                                refine RunF.go 2 [2] (k' := (pl Go.Proofs.Tryd.f42 [1, 0, 1, 0, 1, 1, 1, 1, 1, 1, 1, 1, 1, 1, 1, 1, 1, 1, 1, 1, 1, 1, 1, 1, 1, 1, 1, 1, 1, 1, 1, 1, 1, 0, 1])) (L' := [(2, .slice (some ⟨g58, 0, none⟩) 7 7)]) (w' := W59) (by kernel_rfl) ?_
                                obtain rfl := Option.some.inj h
                                exact RunF.ret1 2 (.slice (some ⟨g58, 0, none⟩) 7 7) (fn := Go.Proofs.Tryd.f42) Go.Proofs.Tryd.func42 (by kernel_rfl) (by kernel_rfl) (by kernel_rfl) ⟨_, rfl, (some ⟨g58, 0, none⟩), 7, 7, rfl, (hM.pick [0] rfl rfl)⟩
                              · replace h := of_false h c57
                                refine RunF.know 46 (b := false) (by kernel_rfl) c57 ?_
                                refine RunF.go 5 [] (k' := (pin Go.Proofs.Tryd.f42 [1, 1, 0] 0)) (L' := []) (w' := w) (by kernel_rfl) ?_
                                refine RunF.new 3 1 7 (nums .i64 [1, 2, 4, 5, 8, 10, 15]) (d := some 49) (k2 := (pin Go.Proofs.Tryd.f42 [1, 1, 0] 1)) hM (by simp [nums, bools, strs]) (by kernel_rfl) (by kernel_rfl) ?_
                                replace hM := hM
                                intro g61 W62 hM
                                refine RunF.go 2 [2] (k' := (pl Go.Proofs.Tryd.f42 [1, 1, 1])) (L' := [(2, .slice (some ⟨g61, 0, none⟩) 7 7)]) (w' := W62) (by kernel_rfl) ?_
                                obtain rfl := Option.some.inj h
                                exact RunF.ret1 2 (.slice (some ⟨g61, 0, none⟩) 7 7) (fn := Go.Proofs.Tryd.f42) Go.Proofs.Tryd.func42 (by kernel_rfl) (by kernel_rfl) (by kernel_rfl) ⟨_, rfl, (some ⟨g61, 0, none⟩), 7, 7, rfl, (hM.pick [0] rfl rfl)⟩

/-! ### scrim/scrimref10.mix: function 28 -/
mutual
def scrimref10_mix.l0 : Nat → (List Int) → (List Int) → Int → Option (List Int)
  | 0, _, _, _ => none
  | k + 1, a0, x3_0, x4_0 => if (decide (x4_0 < 16)) = true then ((scrimref10_of.f k x4_0).bind fun t6 => (scrimref10_mix.l1 k a0 t6 x4_0 x3_0 0)) else (some x3_0)
def scrimref10_mix.l1 : Nat → (List Int) → (List Int) → Int → (List Int) → Int → Option (List Int)
  | 0, _, _, _, _, _ => none
  | k + 1, a0, t6, x4_0, x3_1, x6_1 => if (decide (x6_1 < (t6.length : Int))) = true then (if (decide (0 ≤ x4_0)) = true then (if (decide (x4_0 < (16 : Int))) = true then (if (decide (0 ≤ x6_1)) = true then (if (decide (x6_1 < (t6.length : Int))) = true then (if (decide (0 ≤ (rd t6 x6_1))) = true then (if (decide ((rd t6 x6_1) < (a0.length : Int))) = true then (if (decide (0 ≤ x4_0)) = true then (if (decide (x4_0 < (16 : Int))) = true then (scrimref10_mix.l1 k a0 t6 x4_0 (x3_1.set (x4_0 : Int).toNat (bxor .u8 (rd x3_1 x4_0) (rd a0 (rd t6 x6_1)))) (I64 (x6_1 + 1))) else (none)) else (none)) else (none)) else (none)) else (none)) else (none)) else (none)) else (none)) else (scrimref10_mix.l0 k a0 x3_1 (I64 (x4_0 + 1)))
end
def scrimref10_mix.f (k : Nat) (a0 : List Int) : Option (List Int) := scrimref10_mix.l0 k a0 (List.replicate 16 (0 : Int)) 0
set_option maxRecDepth 100000 in
theorem scrimref10_mix.calls (k : Nat) (Ap0 : Option Addr) (np0 cp0 : Nat) (a0 : List Int) (r : List Int) (w : World) (hr0 : Rd w (.slice Ap0 np0 cp0) (nums .u8 a0)) (h : scrimref10_mix.f k a0 = some r) :
    Calls Go.Proofs.Tryd.prog 28 #[(.slice Ap0 np0 cp0)] w (Ret fun v w' => ∃ A0' n0' c0', v = .slice A0' n0' c0' ∧ Mem w w' [⟨.slice A0' n0' c0', 5, 1, nums .u8 r⟩]) := by
  obtain rfl : a0.length = np0 := by have h_ := hr0.1; simpa [nums_length, bools_length, strs_length] using h_
  unfold scrimref10_mix.f at h
  refine calls_of [.slice Ap0 a0.length cp0] (fn := Go.Proofs.Tryd.f28) Go.Proofs.Tryd.func28 (by kernel_rfl) (by kernel_rfl) ?_
  have hM := Mem.refl w
  refine RunF.go 6 [0] (k' := (pin Go.Proofs.Tryd.f28 [1, 0] 0)) (L' := [(0, .slice Ap0 a0.length cp0)]) (w' := w) (by kernel_rfl) ?_
  obtain ⟨W1, hD, hM', hB_⟩ := mk_does (P := Go.Proofs.Tryd.prog) (n := 36) (k := (pin Go.Proofs.Tryd.f28 [1, 0] 0)) (L := [(0, .slice Ap0 a0.length cp0)]) (d := some 7) (e := 5) (z := .int .u8 0) (l := 16) (c := 16) (k2 := (pin Go.Proofs.Tryd.f28 [1, 0] 1)) (by kernel_rfl) (by omega) (by omega) (by omega) hM
  rw [rep_nums] at hM'
  refine RunF.does hD ?_
  replace hM := hM'; clear hD hM'
  generalize w.heap.size = g2 at hM ⊢
  refine RunF.go 9 [0, 3, 4] (k' := (pl Go.Proofs.Tryd.f28 [1, 1, 0, 1, 0, 0])) (L' := [(0, .slice Ap0 a0.length cp0), (3, .slice (some ⟨g2, 0, none⟩) 16 16), (4, .int .i64 0)]) (w' := W1) (by kernel_rfl) ?_
  have l0 : ∀ (k_ : Nat), k_ ≤ k → ∀ (x3_0 : List Int) (x4_0 : Int) (W : World) (hM : Mem w W [⟨.slice (some ⟨g2, 0, none⟩) 16 16, 5, 1, nums .u8 x3_0⟩]) (h : scrimref10_mix.l0 k_ a0 x3_0 x4_0 = some r), RunF Go.Proofs.Tryd.prog (Ret fun v w' => ∃ A0' n0' c0', v = .slice A0' n0' c0' ∧ Mem w w' [⟨.slice A0' n0' c0', 5, 1, nums .u8 r⟩]) 28 (pl Go.Proofs.Tryd.f28 [1, 1, 0, 1, 0, 0]) 36 [(0, .slice Ap0 a0.length cp0), (3, .slice (some ⟨g2, 0, none⟩) 16 16), (4, .int .i64 x4_0)] W := by
    intro k_
    induction k_ using Nat.strongRecOn with
    | _ k_ ih0 =>
      intro hk x3_0 x4_0 W hM h
      cases k_ with
      | zero => exact absurd h (by simp [scrimref10_mix.l0])
      | succ k =>
        simp only [scrimref10_mix.l0] at h
        replace ih0 : ∀ m, m ≤ k → _ := fun m hm => ih0 m (by omega) (by omega)
        refine RunF.go 6 [0, 3, 4, 9] (k' := (pl Go.Proofs.Tryd.f28 [1, 1, 0, 1, 0, 0, 0, 1])) (L' := [(0, .slice Ap0 a0.length cp0), (3, .slice (some ⟨g2, 0, none⟩) 16 16), (4, .int .i64 x4_0), (9, .bool (decide (x4_0 < 16)))]) (w' := W) (by kernel_rfl) ?_
        rcases two (decide (x4_0 < 16)) with c4 | c4
        · replace h := of_true h c4
          refine RunF.know 9 (b := true) (by kernel_rfl) c4 ?_
          refine RunF.go 7 [0, 3, 4, 12] (k' := (pin Go.Proofs.Tryd.f28 [1, 1, 0, 1, 0, 0, 1, 0, 0, 0] 1)) (L' := [(0, .slice Ap0 a0.length cp0), (3, .slice (some ⟨g2, 0, none⟩) 16 16), (4, .int .i64 x4_0), (12, .int .i64 x4_0)]) (w' := W) (by kernel_rfl) ?_
          obtain ⟨t6, ht6, h⟩ := Option.bind_eq_some_iff.mp h
          refine RunF.call (d := some 13) (g := 42) (args := #[.int .i64 x4_0]) (k2 := (pin Go.Proofs.Tryd.f28 [1, 1, 0, 1, 0, 0, 1, 0, 0, 0] 2)) (by kernel_rfl) (scrimref10_of.calls k x4_0 t6 _ ht6) ?_
          rintro _ W5 ⟨A7, n8, c9, rfl, hM_⟩
          obtain rfl : t6.length = n8 := by have h_ := (hM_.rd 0 rfl).1; simpa [nums_length, bools_length, strs_length] using h_
          replace hM := hM.call hM_
          clear hM_ ht6
          refine RunF.go 8 [0, 3, 4, 5, 6] (k' := (pl Go.Proofs.Tryd.f28 [1, 1, 0, 1, 0, 0, 1, 0, 0, 1, 1, 0, 0])) (L' := [(0, .slice Ap0 a0.length cp0), (3, .slice (some ⟨g2, 0, none⟩) 16 16), (4, .int .i64 x4_0), (5, .slice A7 t6.length c9), (6, .int .i64 0)]) (w' := W5) (by kernel_rfl) ?_
          have l1 : ∀ (k_ : Nat), k_ ≤ k → ∀ (x3_1 : List Int) (x6_1 : Int) (W : World) (hM : Mem w W [⟨.slice (some ⟨g2, 0, none⟩) 16 16, 5, 1, nums .u8 x3_1⟩, ⟨.slice A7 t6.length c9, 3, 1, nums .i64 t6⟩]) (h : scrimref10_mix.l1 k_ a0 t6 x4_0 x3_1 x6_1 = some r), RunF Go.Proofs.Tryd.prog (Ret fun v w' => ∃ A0' n0' c0', v = .slice A0' n0' c0' ∧ Mem w w' [⟨.slice A0' n0' c0', 5, 1, nums .u8 r⟩]) 28 (pl Go.Proofs.Tryd.f28 [1, 1, 0, 1, 0, 0, 1, 0, 0, 1, 1, 0, 0]) 36 [(0, .slice Ap0 a0.length cp0), (3, .slice (some ⟨g2, 0, none⟩) 16 16), (4, .int .i64 x4_0), (5, .slice A7 t6.length c9), (6, .int .i64 x6_1)] W := by
            intro k_
            induction k_ using Nat.strongRecOn with
            | _ k_ ih1 =>
              intro hk x3_1 x6_1 W hM h
              cases k_ with
              | zero => exact absurd h (by simp [scrimref10_mix.l1])
              | succ k =>
                simp only [scrimref10_mix.l1] at h
                replace ih1 : ∀ m, m ≤ k → _ := fun m hm => ih1 m (by omega) (by omega)
                replace ih0 : ∀ m, m ≤ k → _ := fun m hm => ih0 m (by omega)
                refine RunF.go 8 [0, 3, 4, 5, 6, 17] (k' := (pl Go.Proofs.Tryd.f28 [1, 1, 0, 1, 0, 0, 1, 0, 0, 1, 1, 0, 0, 0, 1])) (L' := [(0, .slice Ap0 a0.length cp0), (3, .slice (some ⟨g2, 0, none⟩) 16 16), (4, .int .i64 x4_0), (5, .slice A7 t6.length c9), (6, .int .i64 x6_1), (17, .bool (decide (x6_1 < (t6.length : Int))))]) (w' := W) (by kernel_rfl) ?_
                rcases two (decide (x6_1 < (t6.length : Int))) with c11 | c11
                · replace h := of_true h c11
                  refine RunF.know 17 (b := true) (by kernel_rfl) c11 ?_
                  refine RunF.go 4 [0, 3, 4, 5, 6] (k' := (pl Go.Proofs.Tryd.f28 [1, 1, 0, 1, 0, 0, 1, 0, 0, 1, 1, 0, 0, 1, 0, 0])) (L' := [(0, .slice Ap0 a0.length cp0), (3, .slice (some ⟨g2, 0, none⟩) 16 16), (4, .int .i64 x4_0), (5, .slice A7 t6.length c9), (6, .int .i64 x6_1)]) (w' := W) (by kernel_rfl) ?_
                  refine RunF.draw (Still ({ W with drawn := W.drawn + 1 } : World) [.slice (some ⟨g2, 0, none⟩) 16 16]) (by kernel_rfl) (by kernel_rfl) ?_
                  have hMd13 := hM.drew
                  have hS := Still.refl ({ W with drawn := W.drawn + 1 } : World) [.slice (some ⟨g2, 0, none⟩) 16 16]
                  generalize ({ W with drawn := W.drawn + 1 } : World) = W12 at hMd13 hS ⊢
                  replace hM := hMd13
                  refine RunAny.y 0 (by kernel_rfl) (yl_pure (d := some 20) (v := .slice (some ⟨g2, 0, none⟩) 16 16) (k2 := [.inRegion (opsOf (pl Go.Proofs.Tryd.f28 [1, 1, 0, 1, 0, 0, 1, 0, 0, 1, 1, 0, 0, 1, 0, 0])) []]) fun w => by kernel_rfl) (fun _ _ => trivial) hS ?_
                  refine RunAny.y 1 (by kernel_rfl) (yl_pure (d := some 21) (v := .int .i64 x4_0) (k2 := [.inRegion (opsOf (pl Go.Proofs.Tryd.f28 [1, 1, 0, 1, 0, 0, 1, 0, 0, 1, 1, 0, 0, 1, 0, 0])) []]) fun w => by kernel_rfl) (fun _ _ => trivial) hS ?_
                  refine RunAny.y 2 (by kernel_rfl) (yl_pure (d := some 22) (v := .slice (some ⟨g2, 0, none⟩) 16 16) (k2 := [.inRegion (opsOf (pl Go.Proofs.Tryd.f28 [1, 1, 0, 1, 0, 0, 1, 0, 0, 1, 1, 0, 0, 1, 0, 0])) []]) fun w => by kernel_rfl) (fun _ _ => trivial) hS ?_
                  refine RunAny.y 3 (by kernel_rfl) (yl_pure (d := some 23) (v := .int .i64 x4_0) (k2 := [.inRegion (opsOf (pl Go.Proofs.Tryd.f28 [1, 1, 0, 1, 0, 0, 1, 0, 0, 1, 1, 0, 0, 1, 0, 0])) []]) fun w => by kernel_rfl) (fun _ _ => trivial) hS ?_
                  rcases two (decide (0 ≤ x4_0)) with c15 | c15
                  · replace h := of_true h c15
                    rcases two (decide (x4_0 < (16 : Int))) with c16 | c16
                    · replace h := of_true h c16
                      obtain ⟨q14, hAq14, hcq14, hfq14, hlq14⟩ := hM.num_at 0 rfl (i := x4_0) (of_decide_eq_true c15) (by have h_ := of_decide_eq_true c16; omega)
                      refine RunAny.y 4 (by kernel_rfl) (idx_own (d := some 24) (A := (some ⟨g2, 0, none⟩)) (m := 16) (i := x4_0) (k2 := [.inRegion (opsOf (pl Go.Proofs.Tryd.f28 [1, 1, 0, 1, 0, 0, 1, 0, 0, 1, 1, 0, 0, 1, 0, 0])) []]) (by kernel_rfl) (of_decide_eq_true c15) (by have h_ := of_decide_eq_true c16; omega) hAq14) (fun _ _ => trivial) hS ?_
                      refine RunAny.y 6 (by kernel_rfl) (yl_pure (d := some 26) (v := .slice Ap0 a0.length cp0) (k2 := [.inRegion (opsOf (pl Go.Proofs.Tryd.f28 [1, 1, 0, 1, 0, 0, 1, 0, 0, 1, 1, 0, 0, 1, 0, 0])) []]) fun w => by kernel_rfl) (fun _ _ => trivial) hS ?_
                      refine RunAny.y 7 (by kernel_rfl) (yl_pure (d := some 27) (v := .slice A7 t6.length c9) (k2 := [.inRegion (opsOf (pl Go.Proofs.Tryd.f28 [1, 1, 0, 1, 0, 0, 1, 0, 0, 1, 1, 0, 0, 1, 0, 0])) []]) fun w => by kernel_rfl) (fun _ _ => trivial) hS ?_
                      refine RunAny.y 8 (by kernel_rfl) (yl_pure (d := some 28) (v := .int .i64 x6_1) (k2 := [.inRegion (opsOf (pl Go.Proofs.Tryd.f28 [1, 1, 0, 1, 0, 0, 1, 0, 0, 1, 1, 0, 0, 1, 0, 0])) []]) fun w => by kernel_rfl) (fun _ _ => trivial) hS ?_
                      rcases two (decide (0 ≤ x6_1)) with c18 | c18
                      · replace h := of_true h c18
                        rcases two (decide (x6_1 < (t6.length : Int))) with c19 | c19
                        · replace h := of_true h c19
                          obtain ⟨q17, hAq17, hcq17, hfq17, hlq17⟩ := hM.num_at 1 rfl (i := x6_1) (of_decide_eq_true c18) (by have h_ := of_decide_eq_true c19; omega)
                          refine RunAny.y 9 (by kernel_rfl) (idx_own (d := some 29) (A := A7) (m := t6.length) (i := x6_1) (k2 := [.inRegion (opsOf (pl Go.Proofs.Tryd.f28 [1, 1, 0, 1, 0, 0, 1, 0, 0, 1, 1, 0, 0, 1, 0, 0])) []]) (by kernel_rfl) (of_decide_eq_true c18) (by have h_ := of_decide_eq_true c19; omega) hAq17) (fun _ _ => trivial) hS ?_
                          refine RunAny.y 10 (by kernel_rfl) (ld_y (d := some 30) (p := ⟨q17, (x6_1 : Int).toNat, none⟩) (k2 := [.inRegion (opsOf (pl Go.Proofs.Tryd.f28 [1, 1, 0, 1, 0, 0, 1, 0, 0, 1, 1, 0, 0, 1, 0, 0])) []]) (.int .i64 (rd t6 x6_1)) (by kernel_rfl)) (fun _ hs => hs.cell hcq17 (by intro v hv; simp only [List.mem_cons, List.not_mem_nil, or_false] at hv; rcases hv with rfl; exact (hM.ne 1 0 rfl rfl rfl (by rw [hAq17]; rfl)))) hS ?_
                          rcases two (decide (0 ≤ (rd t6 x6_1))) with c21 | c21
                          · replace h := of_true h c21
                            rcases two (decide ((rd t6 x6_1) < (a0.length : Int))) with c22 | c22
                            · replace h := of_true h c22
                              obtain ⟨q20, hAq20, hiq20⟩ := Rd.num hr0 (i := rd t6 x6_1) (of_decide_eq_true c21) (by have h_ := of_decide_eq_true c22; omega)
                              have hcq20 := (hM.below.cell (World.block_lt_of_cell? _ _ hiq20)).trans hiq20
                              refine RunAny.y 11 (by kernel_rfl) (idx_y (d := some 31) (A := Ap0) (m := a0.length) (i := rd t6 x6_1) (k2 := [.inRegion (opsOf (pl Go.Proofs.Tryd.f28 [1, 1, 0, 1, 0, 0, 1, 0, 0, 1, 1, 0, 0, 1, 0, 0])) []]) (by kernel_rfl) (of_decide_eq_true c21) (by have h_ := of_decide_eq_true c22; omega) hAq20) (fun _ _ => trivial) hS ?_
                              refine RunAny.y 12 (by kernel_rfl) (ld_y (d := some 32) (p := (q20.add (rd t6 x6_1 : Int).toNat)) (k2 := [.inRegion (opsOf (pl Go.Proofs.Tryd.f28 [1, 1, 0, 1, 0, 0, 1, 0, 0, 1, 1, 0, 0, 1, 0, 0])) []]) (.int .u8 (rd a0 (rd t6 x6_1))) (by kernel_rfl)) (fun _ hs => hs.cell hcq20 (by intro v hv; simp only [List.mem_cons, List.not_mem_nil, or_false] at hv; rcases hv with rfl; exact (hM.far hiq20 0 rfl))) hS ?_
                              refine RunAny.does 5 (by kernel_rfl) ((ld_y (d := some 25) (p := ⟨q14, (x4_0 : Int).toNat, none⟩) (k2 := [.inRegion (opsOf (pl Go.Proofs.Tryd.f28 [1, 1, 0, 1, 0, 0, 1, 0, 0, 1, 1, 0, 0, 1, 0, 0])) []]) (.int .u8 (rd x3_1 x4_0)) (by kernel_rfl)).does hcq14) hS ?_
                              refine RunAny.y 13 (by kernel_rfl) (yl_pure (d := some 33) (v := .int .u8 (bxor .u8 (rd x3_1 x4_0) (rd a0 (rd t6 x6_1)))) (k2 := [.inRegion (opsOf (pl Go.Proofs.Tryd.f28 [1, 1, 0, 1, 0, 0, 1, 0, 0, 1, 1, 0, 0, 1, 0, 0])) []]) fun w => by kernel_rfl) (fun _ _ => trivial) hS ?_
                              rcases two (decide (0 ≤ x4_0)) with c24 | c24
                              · replace h := of_true h c24
                                rcases two (decide (x4_0 < (16 : Int))) with c25 | c25
                                · replace h := of_true h c25
                                  obtain ⟨q23, hAq23, hcq23, hfq23, hlq23⟩ := hM.num_at 0 rfl (i := x4_0) (of_decide_eq_true c24) (by have h_ := of_decide_eq_true c25; omega)
                                  refine RunAny.y 14 (by kernel_rfl) (idx_own (d := some 34) (A := (some ⟨g2, 0, none⟩)) (m := 16) (i := x4_0) (k2 := [.inRegion (opsOf (pl Go.Proofs.Tryd.f28 [1, 1, 0, 1, 0, 0, 1, 0, 0, 1, 1, 0, 0, 1, 0, 0])) []]) (by kernel_rfl) (of_decide_eq_true c24) (by have h_ := of_decide_eq_true c25; omega) hAq23) (fun _ _ => trivial) hS ?_
                                  obtain ⟨g_, hA_, hc_, hf_, hl_⟩ := hM.num_at 0 rfl (i := x4_0) (of_decide_eq_true c24) (by have h_ := of_decide_eq_true c25; omega)
                                  obtain rfl : q23 = g_ := by rw [hAq23] at hA_; injection hA_ with hA_; injection hA_
                                  have hS' := hS.set (v := .slice (some ⟨g2, 0, none⟩) 16 16) (g := q23) (i := (x4_0 : Int).toNat) (by simp) (by rw [hAq23]; rfl) (.int .u8 (bxor .u8 (rd x3_1 x4_0) (rd a0 (rd t6 x6_1))))
                                  refine RunAny.doesU 15 (by kernel_rfl) (st_u (p := (⟨q23, (x4_0 : Int).toNat, none⟩ : Addr)) (v := .int .u8 (bxor .u8 (rd x3_1 x4_0) (rd a0 (rd t6 x6_1)))) (k2 := [.inRegion (opsOf (pl Go.Proofs.Tryd.f28 [1, 1, 0, 1, 0, 0, 1, 0, 0, 1, 1, 0, 0, 1, 0, 0])) []]) (by kernel_rfl) hc_ hf_) hS' ?_
                                  replace hM : Mem w (W12.setCell (⟨q23, (x4_0 : Int).toNat, none⟩ : Addr) (.int .u8 (bxor .u8 (rd x3_1 x4_0) (rd a0 (rd t6 x6_1))))) [⟨.slice (some ⟨g2, 0, none⟩) 16 16, 5, 1, nums .u8 (x3_1.set (x4_0 : Int).toNat (bxor .u8 (rd x3_1 x4_0) (rd a0 (rd t6 x6_1))))⟩, ⟨.slice A7 t6.length c9, 3, 1, nums .i64 t6⟩] := Mem.put_num [] [⟨.slice A7 t6.length c9, 3, 1, nums .i64 t6⟩] (hM.pick [0, 1] rfl rfl) hAq23 _ hl_ _
                                  generalize W12.setCell (⟨q23, (x4_0 : Int).toNat, none⟩ : Addr) (.int .u8 (bxor .u8 (rd x3_1 x4_0) (rd a0 (rd t6 x6_1)))) = W26 at hM hS' ⊢
                                  clear hc_ hf_ hl_ hA_ hcq23
                                  replace hS := hS'
                                  refine RunAny.rebase hS ?_
                                  replace hS := Still.refl W26 [.slice (some ⟨g2, 0, none⟩) 16 16]
                                  refine RunAny.done (by kernel_rfl) ?_
                                  clear hS
                                  refine RunF.go 7 [0, 3, 4, 5, 6] (k' := (pl Go.Proofs.Tryd.f28 [1, 1, 0, 1, 0, 0, 1, 0, 0, 1, 1, 0, 0])) (L' := [(0, .slice Ap0 a0.length cp0), (3, .slice (some ⟨g2, 0, none⟩) 16 16), (4, .int .i64 x4_0), (5, .slice A7 t6.length c9), (6, .int .i64 (I64 (x6_1 + 1)))]) (w' := W26) (by kernel_rfl) ?_
                                  exact ih1 k (by omega) (x3_1.set (x4_0 : Int).toNat (bxor .u8 (rd x3_1 x4_0) (rd a0 (rd t6 x6_1)))) (I64 (x6_1 + 1)) _ (hM.pick [0, 1] rfl rfl) h
                                · replace h := of_false h c25
                                  cases h
                              · replace h := of_false h c24
                                cases h
                            · replace h := of_false h c22
                              cases h
                          · replace h := of_false h c21
                            cases h
                        · replace h := of_false h c19
                          cases h
                      · replace h := of_false h c18
                        cases h
                    · replace h := of_false h c16
                      cases h
                  · replace h := of_false h c15
                    cases h
                · replace h := of_false h c11
                  refine RunF.know 17 (b := false) (by kernel_rfl) c11 ?_
                  refine RunF.go 9 [0, 3, 4] (k' := (pl Go.Proofs.Tryd.f28 [1, 1, 0, 1, 0, 0])) (L' := [(0, .slice Ap0 a0.length cp0), (3, .slice (some ⟨g2, 0, none⟩) 16 16), (4, .int .i64 (I64 (x4_0 + 1)))]) (w' := W) (by kernel_rfl) ?_
                  exact ih0 k (by omega) x3_1 (I64 (x4_0 + 1)) _ (hM.pick [0] rfl rfl) h
          exact l1 k (Nat.le_refl _) x3_0 0 _ (hM.pick [1, 0] rfl rfl) h
        · replace h := of_false h c4
          refine RunF.know 9 (b := false) (by kernel_rfl) c4 ?_
          refine RunF.go 7 [2] (k' := (pl Go.Proofs.Tryd.f28 [1, 1, 1, 1])) (L' := [(2, .slice (some ⟨g2, 0, none⟩) 16 16)]) (w' := W) (by kernel_rfl) ?_
          obtain rfl := Option.some.inj h
          exact RunF.ret1 2 (.slice (some ⟨g2, 0, none⟩) 16 16) (fn := Go.Proofs.Tryd.f28) Go.Proofs.Tryd.func28 (by kernel_rfl) (by kernel_rfl) (by kernel_rfl) ⟨_, rfl, (some ⟨g2, 0, none⟩), 16, 16, rfl, (hM.pick [0] rfl rfl)⟩
  exact l0 k (Nat.le_refl _) (List.replicate 16 (0 : Int)) 0 _ (hM.pick [0] rfl rfl) h

/-! ### (*scrim/scrimref10.Boxes).layer: function 30 -/
def scrimref10_Boxes_layer.l0 : Nat → ((List (List Int))) → Int → (List Int) → (List Int) → Int → Option (List Int)
  | 0, _, _, _, _, _ => none
  | k + 1, a0, a1, a2, x7_0, x8_0 => if (decide (x8_0 < (a2.length : Int))) = true then (if (decide (0 ≤ (Int.tmod (I64 (x8_0 + (I64 (2 * (I64 (a1 - 1)))))) 4))) = true then (if (decide ((Int.tmod (I64 (x8_0 + (I64 (2 * (I64 (a1 - 1)))))) 4) < (4 : Int))) = true then (if (decide (0 ≤ x8_0)) = true then (if (decide (x8_0 < (a2.length : Int))) = true then (if (decide (0 ≤ (rd a2 x8_0))) = true then (if (decide ((rd a2 x8_0) < ((rdr ([] : List Int) a0 (Int.tmod (I64 (x8_0 + (I64 (2 * (I64 (a1 - 1)))))) 4)).length : Int))) = true then (if (decide (0 ≤ x8_0)) = true then (if (decide (x8_0 < (((a2.length : Int)).toNat : Int))) = true then (scrimref10_Boxes_layer.l0 k a0 a1 a2 (x7_0.set (x8_0 : Int).toNat (rd (rdr ([] : List Int) a0 (Int.tmod (I64 (x8_0 + (I64 (2 * (I64 (a1 - 1)))))) 4)) (rd a2 x8_0))) (I64 (x8_0 + 1))) else (none)) else (none)) else (none)) else (none)) else (none)) else (none)) else (none)) else (none)) else (some x7_0)
def scrimref10_Boxes_layer.f (k : Nat) (a0 : ((List (List Int)))) (a1 : Int) (a2 : List Int) : Option (List Int) := if (decide (0 ≤ (a2.length : Int))) = true then (if (decide ((a2.length : Int) ≤ 1000000000)) = true then (scrimref10_Boxes_layer.l0 k a0 a1 a2 (List.replicate (((a2.length : Int)).toNat) (0 : Int)) 0) else (none)) else (none)
set_option maxRecDepth 100000 in
theorem scrimref10_Boxes_layer.calls (k : Nat) (vp0 : Value) (Zp0 : Zp) (a0 : ((List (List Int)))) (a1 : Int) (Ap2 : Option Addr) (np2 cp2 : Nat) (a2 : List Int) (r : List Int) (w : World) (hr2 : Rd w (.slice Ap2 np2 cp2) (nums .u8 a2)) (hp0 : (rPtr Rs_scrimref10_Boxes) Zp0 vp0 a0) (hZp0 : ∀ W, Kept w W → Zp0 W) (h : scrimref10_Boxes_layer.f k a0 a1 a2 = some r) :
    Calls Go.Proofs.Tryd.prog 30 #[vp0, .int .i64 a1, (.slice Ap2 np2 cp2)] w (Ret fun v w' => ∃ A0' n0' c0', v = .slice A0' n0' c0' ∧ Mem w w' [⟨.slice A0' n0' c0', 5, 1, nums .u8 r⟩]) := by
  obtain rfl : a2.length = np2 := by have h_ := hr2.1; simpa [nums_length, bools_length, strs_length] using h_
  obtain ⟨gp0, _, rfl, hco1, co1_0, rfl, hlo1_0, hqo1_0⟩ := id hp0
  unfold scrimref10_Boxes_layer.f at h
  refine calls_of [.pointer (some ⟨gp0, 0, none⟩), .int .i64 a1, .slice Ap2 a2.length cp2] (fn := Go.Proofs.Tryd.f30) Go.Proofs.Tryd.func30 (by kernel_rfl) (by kernel_rfl) ?_
  have hM := Mem.refl w
  refine RunF.go 8 [0, 1, 2, 10] (k' := (pin Go.Proofs.Tryd.f30 [1, 0] 2)) (L' := [(0, .pointer (some ⟨gp0, 0, none⟩)), (1, .int .i64 a1), (2, .slice Ap2 a2.length cp2), (10, .int .i64 (a2.length : Int))]) (w' := w) (by kernel_rfl) ?_
  rcases two (decide (0 ≤ (a2.length : Int))) with c4 | c4
  · replace h := of_true h c4
    rcases two (decide ((a2.length : Int) ≤ 1000000000)) with c5 | c5
    · replace h := of_true h c5
      have := of_decide_eq_true c4
      have := of_decide_eq_true c5
      obtain ⟨W2, hD, hM', hB_⟩ := mk_does (P := Go.Proofs.Tryd.prog) (n := 39) (k := (pin Go.Proofs.Tryd.f30 [1, 0] 2)) (L := [(0, .pointer (some ⟨gp0, 0, none⟩)), (1, .int .i64 a1), (2, .slice Ap2 a2.length cp2), (10, .int .i64 (a2.length : Int))]) (d := some 11) (e := 5) (z := .int .u8 0) (l := (a2.length : Int)) (c := (a2.length : Int)) (k2 := (pin Go.Proofs.Tryd.f30 [1, 0] 3)) (by kernel_rfl) (by omega) (by omega) (by omega) hM
      rw [rep_nums] at hM'
      refine RunF.does hD ?_
      replace hM := hM'; clear hD hM'
      generalize w.heap.size = g3 at hM ⊢
      refine RunF.go 9 [0, 1, 2, 7, 8] (k' := (pl Go.Proofs.Tryd.f30 [1, 1, 0, 1, 0, 0])) (L' := [(0, .pointer (some ⟨gp0, 0, none⟩)), (1, .int .i64 a1), (2, .slice Ap2 a2.length cp2), (7, .slice (some ⟨g3, 0, none⟩) (((a2.length : Int)).toNat) (((a2.length : Int) : Int).toNat)), (8, .int .i64 0)]) (w' := W2) (by kernel_rfl) ?_
      have l0 : ∀ (k_ : Nat), k_ ≤ k → ∀ (x7_0 : List Int) (x8_0 : Int) (W : World) (hM : Mem w W [⟨.slice (some ⟨g3, 0, none⟩) (((a2.length : Int)).toNat) (((a2.length : Int) : Int).toNat), 5, 1, nums .u8 x7_0⟩]) (h : scrimref10_Boxes_layer.l0 k_ a0 a1 a2 x7_0 x8_0 = some r), RunF Go.Proofs.Tryd.prog (Ret fun v w' => ∃ A0' n0' c0', v = .slice A0' n0' c0' ∧ Mem w w' [⟨.slice A0' n0' c0', 5, 1, nums .u8 r⟩]) 30 (pl Go.Proofs.Tryd.f30 [1, 1, 0, 1, 0, 0]) 39 [(0, .pointer (some ⟨gp0, 0, none⟩)), (1, .int .i64 a1), (2, .slice Ap2 a2.length cp2), (7, .slice (some ⟨g3, 0, none⟩) (((a2.length : Int)).toNat) (((a2.length : Int) : Int).toNat)), (8, .int .i64 x8_0)] W := by
        intro k_
        induction k_ using Nat.strongRecOn with
        | _ k_ ih0 =>
          intro hk x7_0 x8_0 W hM h
          cases k_ with
          | zero => exact absurd h (by simp [scrimref10_Boxes_layer.l0])
          | succ k =>
            simp only [scrimref10_Boxes_layer.l0] at h
            replace ih0 : ∀ m, m ≤ k → _ := fun m hm => ih0 m (by omega) (by omega)
            refine RunF.go 8 [0, 1, 2, 7, 8, 15] (k' := (pl Go.Proofs.Tryd.f30 [1, 1, 0, 1, 0, 0, 0, 1])) (L' := [(0, .pointer (some ⟨gp0, 0, none⟩)), (1, .int .i64 a1), (2, .slice Ap2 a2.length cp2), (7, .slice (some ⟨g3, 0, none⟩) (((a2.length : Int)).toNat) (((a2.length : Int) : Int).toNat)), (8, .int .i64 x8_0), (15, .bool (decide (x8_0 < (a2.length : Int))))]) (w' := W) (by kernel_rfl) ?_
            rcases two (decide (x8_0 < (a2.length : Int))) with c7 | c7
            · replace h := of_true h c7
              refine RunF.know 15 (b := true) (by kernel_rfl) c7 ?_
              refine RunF.go 4 [0, 1, 2, 7, 8] (k' := (pl Go.Proofs.Tryd.f30 [1, 1, 0, 1, 0, 0, 1, 0, 0])) (L' := [(0, .pointer (some ⟨gp0, 0, none⟩)), (1, .int .i64 a1), (2, .slice Ap2 a2.length cp2), (7, .slice (some ⟨g3, 0, none⟩) (((a2.length : Int)).toNat) (((a2.length : Int) : Int).toNat)), (8, .int .i64 x8_0)]) (w' := W) (by kernel_rfl) ?_
              refine RunF.draw (Still ({ W with drawn := W.drawn + 1 } : World) [.slice (some ⟨g3, 0, none⟩) (((a2.length : Int)).toNat) (((a2.length : Int) : Int).toNat)]) (by kernel_rfl) (by kernel_rfl) ?_
              have hMd9 := hM.drew
              have hS := Still.refl ({ W with drawn := W.drawn + 1 } : World) [.slice (some ⟨g3, 0, none⟩) (((a2.length : Int)).toNat) (((a2.length : Int) : Int).toNat)]
              generalize ({ W with drawn := W.drawn + 1 } : World) = W8 at hMd9 hS ⊢
              replace hM := hMd9
              refine RunAny.y 0 (by kernel_rfl) (yl_pure (d := some 18) (v := .slice (some ⟨g3, 0, none⟩) (((a2.length : Int)).toNat) (((a2.length : Int) : Int).toNat)) (k2 := [.inRegion (opsOf (pl Go.Proofs.Tryd.f30 [1, 1, 0, 1, 0, 0, 1, 0, 0])) []]) fun w => by kernel_rfl) (fun _ _ => trivial) hS ?_
              refine RunAny.y 1 (by kernel_rfl) (yl_pure (d := some 19) (v := .int .i64 x8_0) (k2 := [.inRegion (opsOf (pl Go.Proofs.Tryd.f30 [1, 1, 0, 1, 0, 0, 1, 0, 0])) []]) fun w => by kernel_rfl) (fun _ _ => trivial) hS ?_
              refine RunAny.y 2 (by kernel_rfl) (yl_pure (d := some 20) (v := .pointer (some ⟨gp0, 0, none⟩)) (k2 := [.inRegion (opsOf (pl Go.Proofs.Tryd.f30 [1, 1, 0, 1, 0, 0, 1, 0, 0])) []]) fun w => by kernel_rfl) (fun _ _ => trivial) hS ?_
              refine RunAny.y 3 (by kernel_rfl) (yl_pure (d := some 21) (v := .int .i64 x8_0) (k2 := [.inRegion (opsOf (pl Go.Proofs.Tryd.f30 [1, 1, 0, 1, 0, 0, 1, 0, 0])) []]) fun w => by kernel_rfl) (fun _ _ => trivial) hS ?_
              refine RunAny.y 4 (by kernel_rfl) (yl_pure (d := some 22) (v := .int .i64 a1) (k2 := [.inRegion (opsOf (pl Go.Proofs.Tryd.f30 [1, 1, 0, 1, 0, 0, 1, 0, 0])) []]) fun w => by kernel_rfl) (fun _ _ => trivial) hS ?_
              refine RunAny.y 5 (by kernel_rfl) (yl_pure (d := some 23) (v := .int .i64 (I64 (a1 - 1))) (k2 := [.inRegion (opsOf (pl Go.Proofs.Tryd.f30 [1, 1, 0, 1, 0, 0, 1, 0, 0])) []]) fun w => by kernel_rfl) (fun _ _ => trivial) hS ?_
              refine RunAny.y 6 (by kernel_rfl) (yl_pure (d := some 24) (v := .int .i64 (I64 (2 * (I64 (a1 - 1))))) (k2 := [.inRegion (opsOf (pl Go.Proofs.Tryd.f30 [1, 1, 0, 1, 0, 0, 1, 0, 0])) []]) fun w => by kernel_rfl) (fun _ _ => trivial) hS ?_
              refine RunAny.y 7 (by kernel_rfl) (yl_pure (d := some 25) (v := .int .i64 (I64 (x8_0 + (I64 (2 * (I64 (a1 - 1))))))) (k2 := [.inRegion (opsOf (pl Go.Proofs.Tryd.f30 [1, 1, 0, 1, 0, 0, 1, 0, 0])) []]) fun w => by kernel_rfl) (fun _ _ => trivial) hS ?_
              refine RunAny.y 8 (by kernel_rfl) (yl_pure (d := some 26) (v := .int .i64 (Int.tmod (I64 (x8_0 + (I64 (2 * (I64 (a1 - 1)))))) 4)) (k2 := [.inRegion (opsOf (pl Go.Proofs.Tryd.f30 [1, 1, 0, 1, 0, 0, 1, 0, 0])) []]) fun w => by kernel_rfl) (fun _ _ => trivial) hS ?_
              refine RunAny.y 9 (by kernel_rfl) (yl_pure (d := some 27) (v := .pointer (some ⟨gp0, 0, none⟩)) (k2 := [.inRegion (opsOf (pl Go.Proofs.Tryd.f30 [1, 1, 0, 1, 0, 0, 1, 0, 0])) []]) fun w => by kernel_rfl) (fun _ _ => trivial) hS ?_
              refine RunAny.y 10 (by kernel_rfl) (yl_pure (d := some 28) (v := .pointer (some ⟨gp0, 0, none⟩)) (k2 := [.inRegion (opsOf (pl Go.Proofs.Tryd.f30 [1, 1, 0, 1, 0, 0, 1, 0, 0])) []]) fun w => by kernel_rfl) (fun _ _ => trivial) hS ?_
              rcases two (decide (0 ≤ (Int.tmod (I64 (x8_0 + (I64 (2 * (I64 (a1 - 1)))))) 4))) with c11 | c11
              · replace h := of_true h c11
                rcases two (decide ((Int.tmod (I64 (x8_0 + (I64 (2 * (I64 (a1 - 1)))))) 4) < (4 : Int))) with c12 | c12
                · replace h := of_true h c12
                  obtain ⟨uq10, huq10, hvq10⟩ := Each2.at hqo1_0 ([] : List Int) (i := Int.tmod (I64 (x8_0 + (I64 (2 * (I64 (a1 - 1)))))) 4) (of_decide_eq_true c11) (by rw [show a0.length = 4 from hlo1_0]; exact (of_decide_eq_true c12))
                  obtain ⟨Aq10, cq10, rfl, hq10⟩ := hvq10
                  have hzq10 : ∀ W_, Zp0 W_ → W_.cell? ⟨gp0, (Int.tmod (I64 (x8_0 + (I64 (2 * (I64 (a1 - 1)))))) 4 : Int).toNat, none⟩ = some (.slice Aq10 ((rdr ([] : List Int) a0 (Int.tmod (I64 (x8_0 + (I64 (2 * (I64 (a1 - 1)))))) 4)).length) cq10) := fun W_ hz_ => hco1 _ hz_ _ _ (by first | exact huq10 | (rw [List.getElem?_append_left (List.getElem?_eq_some_iff.1 huq10).1]; exact huq10))
                  refine RunAny.y 11 (by kernel_rfl) (idxArr_own (d := some 29) (g := gp0) (len := 4) (i := Int.tmod (I64 (x8_0 + (I64 (2 * (I64 (a1 - 1)))))) 4) (k2 := [.inRegion (opsOf (pl Go.Proofs.Tryd.f30 [1, 1, 0, 1, 0, 0, 1, 0, 0])) []]) (by kernel_rfl) (of_decide_eq_true c11) (of_decide_eq_true c12)) (fun _ _ => trivial) hS ?_
                  refine RunAny.y 12 (by kernel_rfl) (ld_y (d := some 30) (p := ⟨gp0, (Int.tmod (I64 (x8_0 + (I64 (2 * (I64 (a1 - 1)))))) 4 : Int).toNat, none⟩) (k2 := [.inRegion (opsOf (pl Go.Proofs.Tryd.f30 [1, 1, 0, 1, 0, 0, 1, 0, 0])) []]) (.slice Aq10 ((rdr ([] : List Int) a0 (Int.tmod (I64 (x8_0 + (I64 (2 * (I64 (a1 - 1)))))) 4)).length) cq10) (by kernel_rfl)) (fun _ hs => hzq10 _ (hZp0 _ (Mem.keptStill (hM.as (H' := Gs [⟨.slice (some ⟨g3, 0, none⟩) (((a2.length : Int)).toNat) (((a2.length : Int) : Int).toNat), 5, 1, nums .u8 x7_0⟩] []) rfl) (Among.gs (H := [⟨.slice (some ⟨g3, 0, none⟩) (((a2.length : Int)).toNat) (((a2.length : Int) : Int).toNat), 5, 1, nums .u8 x7_0⟩]) (by intro v_ hv_; simp only [List.mem_cons, List.not_mem_nil, or_false] at hv_; rcases hv_ with rfl <;> first | exact ⟨0, _, rfl, rfl⟩)) hs))) hS ?_
                  refine RunAny.y 13 (by kernel_rfl) (yl_pure (d := some 31) (v := .slice Ap2 a2.length cp2) (k2 := [.inRegion (opsOf (pl Go.Proofs.Tryd.f30 [1, 1, 0, 1, 0, 0, 1, 0, 0])) []]) fun w => by kernel_rfl) (fun _ _ => trivial) hS ?_
                  refine RunAny.y 14 (by kernel_rfl) (yl_pure (d := some 32) (v := .int .i64 x8_0) (k2 := [.inRegion (opsOf (pl Go.Proofs.Tryd.f30 [1, 1, 0, 1, 0, 0, 1, 0, 0])) []]) fun w => by kernel_rfl) (fun _ _ => trivial) hS ?_
                  rcases two (decide (0 ≤ x8_0)) with c14 | c14
                  · replace h := of_true h c14
                    rcases two (decide (x8_0 < (a2.length : Int))) with c15 | c15
                    · replace h := of_true h c15
                      obtain ⟨q13, hAq13, hiq13⟩ := Rd.num hr2 (i := x8_0) (of_decide_eq_true c14) (by have h_ := of_decide_eq_true c15; omega)
                      have hcq13 := (hM.below.cell (World.block_lt_of_cell? _ _ hiq13)).trans hiq13
                      refine RunAny.y 15 (by kernel_rfl) (idx_y (d := some 33) (A := Ap2) (m := a2.length) (i := x8_0) (k2 := [.inRegion (opsOf (pl Go.Proofs.Tryd.f30 [1, 1, 0, 1, 0, 0, 1, 0, 0])) []]) (by kernel_rfl) (of_decide_eq_true c14) (by have h_ := of_decide_eq_true c15; omega) hAq13) (fun _ _ => trivial) hS ?_
                      refine RunAny.y 16 (by kernel_rfl) (ld_y (d := some 34) (p := (q13.add (x8_0 : Int).toNat)) (k2 := [.inRegion (opsOf (pl Go.Proofs.Tryd.f30 [1, 1, 0, 1, 0, 0, 1, 0, 0])) []]) (.int .u8 (rd a2 x8_0)) (by kernel_rfl)) (fun _ hs => hs.cell hcq13 (by intro v hv; simp only [List.mem_cons, List.not_mem_nil, or_false] at hv; rcases hv with rfl; exact (hM.far hiq13 0 rfl))) hS ?_
                      rcases two (decide (0 ≤ (rd a2 x8_0))) with c17 | c17
                      · replace h := of_true h c17
                        rcases two (decide ((rd a2 x8_0) < ((rdr ([] : List Int) a0 (Int.tmod (I64 (x8_0 + (I64 (2 * (I64 (a1 - 1)))))) 4)).length : Int))) with c18 | c18
                        · replace h := of_true h c18
                          obtain ⟨q16, hAq16, hcq16⟩ := Rd.num (hq10 _ (hZp0 _ hM.kept)) (i := rd a2 x8_0) (of_decide_eq_true c17) (by have h_ := of_decide_eq_true c18; omega)
                          refine RunAny.y 17 (by kernel_rfl) (idx_y (d := some 35) (A := Aq10) (m := (rdr ([] : List Int) a0 (Int.tmod (I64 (x8_0 + (I64 (2 * (I64 (a1 - 1)))))) 4)).length) (i := rd a2 x8_0) (k2 := [.inRegion (opsOf (pl Go.Proofs.Tryd.f30 [1, 1, 0, 1, 0, 0, 1, 0, 0])) []]) (by kernel_rfl) (of_decide_eq_true c17) (by have h_ := of_decide_eq_true c18; omega) hAq16) (fun _ _ => trivial) hS ?_
                          refine RunAny.y 18 (by kernel_rfl) (ld_y (d := some 36) (p := (q16.add (rd a2 x8_0 : Int).toNat)) (k2 := [.inRegion (opsOf (pl Go.Proofs.Tryd.f30 [1, 1, 0, 1, 0, 0, 1, 0, 0])) []]) (.int .u8 (rd (rdr ([] : List Int) a0 (Int.tmod (I64 (x8_0 + (I64 (2 * (I64 (a1 - 1)))))) 4)) (rd a2 x8_0))) (by kernel_rfl)) (fun _ hs => Rd.num_at (hq10 _ (hZp0 _ (Mem.keptStill (hM.as (H' := Gs [⟨.slice (some ⟨g3, 0, none⟩) (((a2.length : Int)).toNat) (((a2.length : Int) : Int).toNat), 5, 1, nums .u8 x7_0⟩] []) rfl) (Among.gs (H := [⟨.slice (some ⟨g3, 0, none⟩) (((a2.length : Int)).toNat) (((a2.length : Int) : Int).toNat), 5, 1, nums .u8 x7_0⟩]) (by intro v_ hv_; simp only [List.mem_cons, List.not_mem_nil, or_false] at hv_; rcases hv_ with rfl <;> first | exact ⟨0, _, rfl, rfl⟩)) hs))) hAq16 (of_decide_eq_true c17) (by have h_ := of_decide_eq_true c18; omega)) hS ?_
                          rcases two (decide (0 ≤ x8_0)) with c20 | c20
                          · replace h := of_true h c20
                            rcases two (decide (x8_0 < (((a2.length : Int)).toNat : Int))) with c21 | c21
                            · replace h := of_true h c21
                              obtain ⟨q19, hAq19, hcq19, hfq19, hlq19⟩ := hM.num_at 0 rfl (i := x8_0) (of_decide_eq_true c20) (by have h_ := of_decide_eq_true c21; omega)
                              refine RunAny.y 19 (by kernel_rfl) (idx_own (d := some 37) (A := (some ⟨g3, 0, none⟩)) (m := ((a2.length : Int)).toNat) (i := x8_0) (k2 := [.inRegion (opsOf (pl Go.Proofs.Tryd.f30 [1, 1, 0, 1, 0, 0, 1, 0, 0])) []]) (by kernel_rfl) (of_decide_eq_true c20) (by have h_ := of_decide_eq_true c21; omega) hAq19) (fun _ _ => trivial) hS ?_
                              obtain ⟨g_, hA_, hc_, hf_, hl_⟩ := hM.num_at 0 rfl (i := x8_0) (of_decide_eq_true c20) (by have h_ := of_decide_eq_true c21; omega)
                              obtain rfl : q19 = g_ := by rw [hAq19] at hA_; injection hA_ with hA_; injection hA_
                              have hS' := hS.set (v := .slice (some ⟨g3, 0, none⟩) (((a2.length : Int)).toNat) (((a2.length : Int) : Int).toNat)) (g := q19) (i := (x8_0 : Int).toNat) (by simp) (by rw [hAq19]; rfl) (.int .u8 (rd (rdr ([] : List Int) a0 (Int.tmod (I64 (x8_0 + (I64 (2 * (I64 (a1 - 1)))))) 4)) (rd a2 x8_0)))
                              refine RunAny.doesU 20 (by kernel_rfl) (st_u (p := (⟨q19, (x8_0 : Int).toNat, none⟩ : Addr)) (v := .int .u8 (rd (rdr ([] : List Int) a0 (Int.tmod (I64 (x8_0 + (I64 (2 * (I64 (a1 - 1)))))) 4)) (rd a2 x8_0))) (k2 := [.inRegion (opsOf (pl Go.Proofs.Tryd.f30 [1, 1, 0, 1, 0, 0, 1, 0, 0])) []]) (by kernel_rfl) hc_ hf_) hS' ?_
                              replace hM : Mem w (W8.setCell (⟨q19, (x8_0 : Int).toNat, none⟩ : Addr) (.int .u8 (rd (rdr ([] : List Int) a0 (Int.tmod (I64 (x8_0 + (I64 (2 * (I64 (a1 - 1)))))) 4)) (rd a2 x8_0)))) [⟨.slice (some ⟨g3, 0, none⟩) (((a2.length : Int)).toNat) (((a2.length : Int) : Int).toNat), 5, 1, nums .u8 (x7_0.set (x8_0 : Int).toNat (rd (rdr ([] : List Int) a0 (Int.tmod (I64 (x8_0 + (I64 (2 * (I64 (a1 - 1)))))) 4)) (rd a2 x8_0)))⟩] := Mem.put_num [] [] (hM.pick [0] rfl rfl) hAq19 _ hl_ _
                              generalize W8.setCell (⟨q19, (x8_0 : Int).toNat, none⟩ : Addr) (.int .u8 (rd (rdr ([] : List Int) a0 (Int.tmod (I64 (x8_0 + (I64 (2 * (I64 (a1 - 1)))))) 4)) (rd a2 x8_0))) = W22 at hM hS' ⊢
                              clear hc_ hf_ hl_ hA_ hcq19
                              replace hS := hS'
                              refine RunAny.rebase hS ?_
                              replace hS := Still.refl W22 [.slice (some ⟨g3, 0, none⟩) (((a2.length : Int)).toNat) (((a2.length : Int) : Int).toNat)]
                              refine RunAny.done (by kernel_rfl) ?_
                              clear hS
                              refine RunF.go 7 [0, 1, 2, 7, 8] (k' := (pl Go.Proofs.Tryd.f30 [1, 1, 0, 1, 0, 0])) (L' := [(0, .pointer (some ⟨gp0, 0, none⟩)), (1, .int .i64 a1), (2, .slice Ap2 a2.length cp2), (7, .slice (some ⟨g3, 0, none⟩) (((a2.length : Int)).toNat) (((a2.length : Int) : Int).toNat)), (8, .int .i64 (I64 (x8_0 + 1)))]) (w' := W22) (by kernel_rfl) ?_
                              exact ih0 k (by omega) (x7_0.set (x8_0 : Int).toNat (rd (rdr ([] : List Int) a0 (Int.tmod (I64 (x8_0 + (I64 (2 * (I64 (a1 - 1)))))) 4)) (rd a2 x8_0))) (I64 (x8_0 + 1)) _ (hM.pick [0] rfl rfl) h
                            · replace h := of_false h c21
                              cases h
                          · replace h := of_false h c20
                            cases h
                        · replace h := of_false h c18
                          cases h
                      · replace h := of_false h c17
                        cases h
                    · replace h := of_false h c15
                      cases h
                  · replace h := of_false h c14
                    cases h
                · replace h := of_false h c12
                  cases h
              · replace h := of_false h c11
                cases h
            · replace h := of_false h c7
              refine RunF.know 15 (b := false) (by kernel_rfl) c7 ?_
              refine RunF.go 7 [6] (k' := (pl Go.Proofs.Tryd.f30 [1, 1, 1, 1])) (L' := [(6, .slice (some ⟨g3, 0, none⟩) (((a2.length : Int)).toNat) (((a2.length : Int) : Int).toNat))]) (w' := W) (by kernel_rfl) ?_
              obtain rfl := Option.some.inj h
              exact RunF.ret1 6 (.slice (some ⟨g3, 0, none⟩) (((a2.length : Int)).toNat) (((a2.length : Int) : Int).toNat)) (fn := Go.Proofs.Tryd.f30) Go.Proofs.Tryd.func30 (by kernel_rfl) (by kernel_rfl) (by kernel_rfl) ⟨_, rfl, (some ⟨g3, 0, none⟩), ((a2.length : Int)).toNat, ((a2.length : Int) : Int).toNat, rfl, (hM.pick [0] rfl rfl)⟩
      exact l0 k (Nat.le_refl _) (List.replicate (((a2.length : Int)).toNat) (0 : Int)) 0 _ (hM.pick [0] rfl rfl) h
    · replace h := of_false h c5
      cases h
  · replace h := of_false h c4
    cases h

/-! ### (*scrim/scrimref10.Boxes).round: function 39 -/
def scrimref10_Boxes_round.f (k : Nat) (a0 : ((List (List Int)))) (a1 : Int) (a2 : List Int) (a3 : List Int) : Option (List Int) := (scrimref1_Both.f k a2 a3).bind fun t3 => ((scrimref10_Boxes_layer.f k a0 a1 t3).bind fun t9 => ((scrimref10_mix.f k t9).bind fun t15 => (some t15)))
set_option maxRecDepth 100000 in
theorem scrimref10_Boxes_round.calls (k : Nat) (vp0 : Value) (Zp0 : Zp) (a0 : ((List (List Int)))) (a1 : Int) (Ap2 : Option Addr) (np2 cp2 : Nat) (a2 : List Int) (Ap3 : Option Addr) (np3 cp3 : Nat) (a3 : List Int) (r : List Int) (w : World) (hr2 : Rd w (.slice Ap2 np2 cp2) (nums .u8 a2)) (hr3 : Rd w (.slice Ap3 np3 cp3) (nums .u8 a3)) (hp0 : (rPtr Rs_scrimref10_Boxes) Zp0 vp0 a0) (hZp0 : ∀ W, Kept w W → Zp0 W) (h : scrimref10_Boxes_round.f k a0 a1 a2 a3 = some r) :
    Calls Go.Proofs.Tryd.prog 39 #[vp0, .int .i64 a1, (.slice Ap2 np2 cp2), (.slice Ap3 np3 cp3)] w (Ret fun v w' => ∃ A0' n0' c0', v = .slice A0' n0' c0' ∧ Mem w w' [⟨.slice A0' n0' c0', 5, 1, nums .u8 r⟩]) := by
  obtain rfl : a2.length = np2 := by have h_ := hr2.1; simpa [nums_length, bools_length, strs_length] using h_
  obtain rfl : a3.length = np3 := by have h_ := hr3.1; simpa [nums_length, bools_length, strs_length] using h_
  obtain ⟨gp0, _, rfl, hco1, co1_0, rfl, hlo1_0, hqo1_0⟩ := id hp0
  unfold scrimref10_Boxes_round.f at h
  refine calls_of [.pointer (some ⟨gp0, 0, none⟩), .int .i64 a1, .slice Ap2 a2.length cp2, .slice Ap3 a3.length cp3] (fn := Go.Proofs.Tryd.f39) Go.Proofs.Tryd.func39 (by kernel_rfl) (by kernel_rfl) ?_
  have hM := Mem.refl w
  refine RunF.go 10 [9, 10, 11, 12] (k' := (pin Go.Proofs.Tryd.f39 [1, 0] 4)) (L' := [(9, .pointer (some ⟨gp0, 0, none⟩)), (10, .int .i64 a1), (11, .slice Ap2 a2.length cp2), (12, .slice Ap3 a3.length cp3)]) (w' := w) (by kernel_rfl) ?_
  obtain ⟨t3, ht3, h⟩ := Option.bind_eq_some_iff.mp h
  refine RunF.call (d := some 13) (g := 20) (args := #[.slice Ap2 a2.length cp2, .slice Ap3 a3.length cp3]) (k2 := (pin Go.Proofs.Tryd.f39 [1, 0] 5)) (by kernel_rfl) (scrimref1_Both.calls k Ap2 a2.length cp2 a2 Ap3 a3.length cp3 a3 t3 _ (hr2.mono hM.below) (hr3.mono hM.below) ht3) ?_
  rintro _ W2 ⟨A4, n5, c6, rfl, hM_⟩
  obtain rfl : t3.length = n5 := by have h_ := (hM_.rd 0 rfl).1; simpa [nums_length, bools_length, strs_length] using h_
  replace hM := hM.call hM_
  clear hM_ ht3
  obtain ⟨t9, ht9, h⟩ := Option.bind_eq_some_iff.mp h
  refine RunF.call (d := some 14) (g := 30) (args := #[.pointer (some ⟨gp0, 0, none⟩), .int .i64 a1, .slice A4 t3.length c6]) (k2 := (pin Go.Proofs.Tryd.f39 [1, 0] 6)) (by kernel_rfl) (scrimref10_Boxes_layer.calls k (.pointer (some ⟨gp0, 0, none⟩)) Zp0 a0 a1 A4 t3.length c6 t3 t9 _ (hM.rd 0 rfl) hp0 (fun _ hb_ => (hZp0 _ (hM.kept.trans hb_))) ht9) ?_
  rintro _ W8 ⟨A10, n11, c12, rfl, hM_⟩
  obtain rfl : t9.length = n11 := by have h_ := (hM_.rd 0 rfl).1; simpa [nums_length, bools_length, strs_length] using h_
  replace hM := hM.call hM_
  clear hM_ ht9
  obtain ⟨t15, ht15, h⟩ := Option.bind_eq_some_iff.mp h
  refine RunF.call (d := some 15) (g := 28) (args := #[.slice A10 t9.length c12]) (k2 := (pin Go.Proofs.Tryd.f39 [1, 0] 7)) (by kernel_rfl) (scrimref10_mix.calls k A10 t9.length c12 t9 t15 _ (hM.rd 0 rfl) ht15) ?_
  rintro _ W14 ⟨A16, n17, c18, rfl, hM_⟩
  obtain rfl : t15.length = n17 := by have h_ := (hM_.rd 0 rfl).1; simpa [nums_length, bools_length, strs_length] using h_
  replace hM := hM.call hM_
  clear hM_ ht15
  refine RunF.go 2 [8] (k' := (pl Go.Proofs.Tryd.f39 [1, 1])) (L' := [(8, .slice A16 t15.length c18)]) (w' := W14) (by kernel_rfl) ?_
  obtain rfl := Option.some.inj h
  exact RunF.ret1 8 (.slice A16 t15.length c18) (fn := Go.Proofs.Tryd.f39) Go.Proofs.Tryd.func39 (by kernel_rfl) (by kernel_rfl) (by kernel_rfl) ⟨_, rfl, A16, t15.length, c18, rfl, (hM.pick [0] rfl rfl)⟩

/-! ### scrim/scrimref1.PutBe32: function 58 -/
def scrimref1_PutBe32.f (k : Nat) (a0 : Int) : Option (List Int) := some ([U8 (shr a0 24), U8 (shr a0 16), U8 (shr a0 8), U8 (a0)] : List Int)
set_option maxRecDepth 100000 in
theorem scrimref1_PutBe32.calls (k : Nat) (a0 : Int) (r : List Int) (w : World) (h : scrimref1_PutBe32.f k a0 = some r) :
    Calls Go.Proofs.Tryd.prog 58 #[.int .u32 a0] w (Ret fun v w' => ∃ A0' n0' c0', v = .slice A0' n0' c0' ∧ Mem w w' [⟨.slice A0' n0' c0', 5, 1, nums .u8 r⟩]) := by
  unfold scrimref1_PutBe32.f at h
  refine calls_of [.int .u32 a0] (fn := Go.Proofs.Tryd.f58) Go.Proofs.Tryd.func58 (by kernel_rfl) (by kernel_rfl) ?_
  have hM := Mem.refl w
  refine RunF.go 17 [5, 8, 11, 13] (k' := (pin Go.Proofs.Tryd.f58 [1, 0] 11)) (L' := [(5, .int .u8 (U8 (shr a0 24))), (8, .int .u8 (U8 (shr a0 16))), (11, .int .u8 (U8 (shr a0 8))), (13, .int .u8 (U8 (a0)))]) (w' := w) (by kernel_rfl) ?_
  refine RunF.new 5 1 4 (nums .u8 [U8 (shr a0 24), U8 (shr a0 16), U8 (shr a0 8), U8 (a0)]) (d := some 14) (k2 := (pin Go.Proofs.Tryd.f58 [1, 0] 12)) hM (by simp [nums, bools, strs]) (by kernel_rfl) (by kernel_rfl) ?_
  replace hM := hM
  intro g1 W2 hM
  refine RunF.go 2 [2] (k' := (pl Go.Proofs.Tryd.f58 [1, 1])) (L' := [(2, .slice (some ⟨g1, 0, none⟩) 4 4)]) (w' := W2) (by kernel_rfl) ?_
  obtain rfl := Option.some.inj h
  exact RunF.ret1 2 (.slice (some ⟨g1, 0, none⟩) 4 4) (fn := Go.Proofs.Tryd.f58) Go.Proofs.Tryd.func58 (by kernel_rfl) (by kernel_rfl) (by kernel_rfl) ⟨_, rfl, (some ⟨g1, 0, none⟩), 4, 4, rfl, (hM.pick [0] rfl rfl)⟩

/-! ### scrim/scrimref1.PutBe64: function 51 -/
def scrimref1_PutBe64.f (k : Nat) (a0 : Int) : Option (List Int) := (scrimref1_PutBe32.f k (U32 (shr a0 32))).bind fun t2 => ((scrimref1_PutBe32.f k (U32 (a0))).bind fun t8 => (if (decide (t2.length + t8.length ≤ 1000000000)) = true then (some (t2 ++ t8)) else (none)))
set_option maxRecDepth 100000 in
theorem scrimref1_PutBe64.calls (k : Nat) (a0 : Int) (r : List Int) (w : World) (h : scrimref1_PutBe64.f k a0 = some r) :
    Calls Go.Proofs.Tryd.prog 51 #[.int .u64 a0] w (Ret fun v w' => ∃ A0' n0' c0', v = .slice A0' n0' c0' ∧ Mem w w' [⟨.slice A0' n0' c0', 5, 1, nums .u8 r⟩]) := by
  unfold scrimref1_PutBe64.f at h
  refine calls_of [.int .u64 a0] (fn := Go.Proofs.Tryd.f51) Go.Proofs.Tryd.func51 (by kernel_rfl) (by kernel_rfl) ?_
  have hM := Mem.refl w
  refine RunF.go 9 [0, 5] (k' := (pin Go.Proofs.Tryd.f51 [1, 0] 3)) (L' := [(0, .int .u64 a0), (5, .int .u32 (U32 (shr a0 32)))]) (w' := w) (by kernel_rfl) ?_
  obtain ⟨t2, ht2, h⟩ := Option.bind_eq_some_iff.mp h
  refine RunF.call (d := some 6) (g := 58) (args := #[.int .u32 (U32 (shr a0 32))]) (k2 := (pin Go.Proofs.Tryd.f51 [1, 0] 4)) (by kernel_rfl) (scrimref1_PutBe32.calls k (U32 (shr a0 32)) t2 _ ht2) ?_
  rintro _ W1 ⟨A3, n4, c5, rfl, hM_⟩
  obtain rfl : t2.length = n4 := by have h_ := (hM_.rd 0 rfl).1; simpa [nums_length, bools_length, strs_length] using h_
  replace hM := hM.call hM_
  clear hM_ ht2
  refine RunF.go 2 [6, 8] (k' := (pin Go.Proofs.Tryd.f51 [1, 0] 6)) (L' := [(6, .slice A3 t2.length c5), (8, .int .u32 (U32 (a0)))]) (w' := W1) (by kernel_rfl) ?_
  obtain ⟨t8, ht8, h⟩ := Option.bind_eq_some_iff.mp h
  refine RunF.call (d := some 9) (g := 58) (args := #[.int .u32 (U32 (a0))]) (k2 := (pin Go.Proofs.Tryd.f51 [1, 0] 7)) (by kernel_rfl) (scrimref1_PutBe32.calls k (U32 (a0)) t8 _ ht8) ?_
  rintro _ W7 ⟨A9, n10, c11, rfl, hM_⟩
  obtain rfl : t8.length = n10 := by have h_ := (hM_.rd 0 rfl).1; simpa [nums_length, bools_length, strs_length] using h_
  replace hM := hM.call hM_
  clear hM_ ht8
  rcases two (decide (t2.length + t8.length ≤ 1000000000)) with c17 | c17
  · replace h := of_true h c17
    have h_ := of_decide_eq_true c17
    obtain ⟨A13, n14, c15, W16, hD, hM', hS_⟩ := app_does (P := Go.Proofs.Tryd.prog) (n := 11) (k := (pin Go.Proofs.Tryd.f51 [1, 0] 7)) (L := (upd [(6, .slice A3 t2.length c5), (8, .int .u32 (U32 (a0)))] (some 9) (.slice A9 t8.length c11))) (d := some 10) (e := 5) (A := A3) (m := t2.length) (c := c5) (A2 := A9) (m2 := t8.length) (c2 := c11) (cs := nums .u8 t2) (ys := nums .u8 t8) (k2 := (pin Go.Proofs.Tryd.f51 [1, 0] 8)) [⟨.slice A9 t8.length c11, 5, 1, nums .u8 t8⟩] [] (by kernel_rfl) (hM.pick [0, 1] rfl rfl) (hM.rd 0 rfl) (one_nums _ _) (by omega)
    rw [nums_append] at hM'
    replace hM := hM'; clear h_ hM'
    obtain rfl : (t2 ++ t8).length = n14 := by have h_ := (hM.rd 1 rfl).1; simpa only [nums_length, bools_length, strs_length] using h_
    refine RunF.does hD ?_
    clear hD hS_
    refine RunF.go 2 [2] (k' := (pl Go.Proofs.Tryd.f51 [1, 1])) (L' := [(2, .slice A13 ((t2 ++ t8).length) c15)]) (w' := W16) (by kernel_rfl) ?_
    obtain rfl := Option.some.inj h
    exact RunF.ret1 2 (.slice A13 ((t2 ++ t8).length) c15) (fn := Go.Proofs.Tryd.f51) Go.Proofs.Tryd.func51 (by kernel_rfl) (by kernel_rfl) (by kernel_rfl) ⟨_, rfl, A13, (t2 ++ t8).length, c15, rfl, (hM.pick [1] rfl rfl)⟩
  · replace h := of_false h c17
    cases h

/-! ### scrim/scrimref10.constant: function 40 -/
def scrimref10_constant.f (k : Nat) (a0 : Int) : Option (List Int) := if (decide (0 ≤ (Int.tmod a0 3))) = true then (if (decide ((Int.tmod a0 3) < (3 : Int))) = true then (if (decide (0 ≤ (Int.tmod a0 3))) = true then (if (decide ((Int.tmod a0 3) < (3 : Int))) = true then ((scrimref1_PutBe64.f k (rd ([5871781006564002452, 7904181063698728992, 15821769039155751280] : List Int) (Int.tmod a0 3))).bind fun t16 => ((scrimref1_PutBe64.f k (rd ([18308165927316385504, 18386141011142107824, 226472410124699918] : List Int) (Int.tmod a0 3))).bind fun t22 => (if (decide (t16.length + t22.length ≤ 1000000000)) = true then (some (t16 ++ t22)) else (none)))) else (none)) else (none)) else (none)) else (none)
set_option maxRecDepth 100000 in
theorem scrimref10_constant.calls (k : Nat) (a0 : Int) (r : List Int) (w : World) (h : scrimref10_constant.f k a0 = some r) :
    Calls Go.Proofs.Tryd.prog 40 #[.int .i64 a0] w (Ret fun v w' => ∃ A0' n0' c0', v = .slice A0' n0' c0' ∧ Mem w w' [⟨.slice A0' n0' c0', 5, 1, nums .u8 r⟩]) := by
  unfold scrimref10_constant.f at h
  refine calls_of [.int .i64 a0] (fn := Go.Proofs.Tryd.f40) Go.Proofs.Tryd.func40 (by kernel_rfl) (by kernel_rfl) ?_
  have hM := Mem.refl w
  refine RunF.go 6 [0] (k' := (pin Go.Proofs.Tryd.f40 [1, 0] 0)) (L' := [(0, .int .i64 a0)]) (w' := w) (by kernel_rfl) ?_
  refine RunF.new 73 1 3 (nums .u64 [5871781006564002452, 7904181063698728992, 15821769039155751280]) (d := some 5) (k2 := (pin Go.Proofs.Tryd.f40 [1, 0] 1)) hM (by simp [nums, bools, strs]) (by kernel_rfl) (by kernel_rfl) ?_
  replace hM := hM
  intro g1 W2 hM
  refine RunF.go 4 [0, 3] (k' := (pin Go.Proofs.Tryd.f40 [1, 1, 0] 0)) (L' := [(0, .int .i64 a0), (3, .slice (some ⟨g1, 0, none⟩) 3 3)]) (w' := W2) (by kernel_rfl) ?_
  refine RunF.new 73 1 3 (nums .u64 [18308165927316385504, 18386141011142107824, 226472410124699918]) (d := some 6) (k2 := (pin Go.Proofs.Tryd.f40 [1, 1, 0] 1)) hM (by simp [nums, bools, strs]) (by kernel_rfl) (by kernel_rfl) ?_
  replace hM := hM
  intro g4 W5 hM
  refine RunF.go 3 [0, 3, 4] (k' := (pl Go.Proofs.Tryd.f40 [1, 1, 1, 0])) (L' := [(0, .int .i64 a0), (3, .slice (some ⟨g1, 0, none⟩) 3 3), (4, .slice (some ⟨g4, 0, none⟩) 3 3)]) (w' := W5) (by kernel_rfl) ?_
  refine RunF.draw (Still ({ W5 with drawn := W5.drawn + 1 } : World) []) (by kernel_rfl) (by kernel_rfl) ?_
  have hMd8 := hM.drew
  have hS := Still.refl ({ W5 with drawn := W5.drawn + 1 } : World) []
  generalize ({ W5 with drawn := W5.drawn + 1 } : World) = W7 at hMd8 hS ⊢
  replace hM := hMd8
  refine RunAny.y 0 (by kernel_rfl) (yl_pure (d := some 7) (v := .slice (some ⟨g1, 0, none⟩) 3 3) (k2 := [.inRegion (opsOf (pl Go.Proofs.Tryd.f40 [1, 1, 1, 0])) []]) fun w => by kernel_rfl) (fun _ _ => trivial) hS ?_
  refine RunAny.y 1 (by kernel_rfl) (yl_pure (d := some 8) (v := .int .i64 a0) (k2 := [.inRegion (opsOf (pl Go.Proofs.Tryd.f40 [1, 1, 1, 0])) []]) fun w => by kernel_rfl) (fun _ _ => trivial) hS ?_
  refine RunAny.y 2 (by kernel_rfl) (yl_pure (d := some 9) (v := .int .i64 (Int.tmod a0 3)) (k2 := [.inRegion (opsOf (pl Go.Proofs.Tryd.f40 [1, 1, 1, 0])) []]) fun w => by kernel_rfl) (fun _ _ => trivial) hS ?_
  rcases two (decide (0 ≤ (Int.tmod a0 3))) with c10 | c10
  · replace h := of_true h c10
    rcases two (decide ((Int.tmod a0 3) < (3 : Int))) with c11 | c11
    · replace h := of_true h c11
      obtain ⟨q9, hAq9, hcq9, hfq9, hlq9⟩ := hM.num_at 1 rfl (i := Int.tmod a0 3) (of_decide_eq_true c10) (by have h_ := of_decide_eq_true c11; omega)
      refine RunAny.y 3 (by kernel_rfl) (idx_own (d := some 10) (A := (some ⟨g1, 0, none⟩)) (m := 3) (i := Int.tmod a0 3) (k2 := [.inRegion (opsOf (pl Go.Proofs.Tryd.f40 [1, 1, 1, 0])) []]) (by kernel_rfl) (of_decide_eq_true c10) (by have h_ := of_decide_eq_true c11; omega) hAq9) (fun _ _ => trivial) hS ?_
      refine RunAny.y 4 (by kernel_rfl) (ld_y (d := some 11) (p := ⟨q9, (Int.tmod a0 3 : Int).toNat, none⟩) (k2 := [.inRegion (opsOf (pl Go.Proofs.Tryd.f40 [1, 1, 1, 0])) []]) (.int .u64 (rd ([5871781006564002452, 7904181063698728992, 15821769039155751280] : List Int) (Int.tmod a0 3))) (by kernel_rfl)) (fun _ hs => hs.cell hcq9 (by simp)) hS ?_
      refine RunAny.y 6 (by kernel_rfl) (yl_pure (d := some 13) (v := .slice (some ⟨g4, 0, none⟩) 3 3) (k2 := [.inRegion (opsOf (pl Go.Proofs.Tryd.f40 [1, 1, 1, 0])) []]) fun w => by kernel_rfl) (fun _ _ => trivial) hS ?_
      refine RunAny.y 7 (by kernel_rfl) (yl_pure (d := some 14) (v := .int .i64 a0) (k2 := [.inRegion (opsOf (pl Go.Proofs.Tryd.f40 [1, 1, 1, 0])) []]) fun w => by kernel_rfl) (fun _ _ => trivial) hS ?_
      refine RunAny.y 8 (by kernel_rfl) (yl_pure (d := some 15) (v := .int .i64 (Int.tmod a0 3)) (k2 := [.inRegion (opsOf (pl Go.Proofs.Tryd.f40 [1, 1, 1, 0])) []]) fun w => by kernel_rfl) (fun _ _ => trivial) hS ?_
      rcases two (decide (0 ≤ (Int.tmod a0 3))) with c13 | c13
      · replace h := of_true h c13
        rcases two (decide ((Int.tmod a0 3) < (3 : Int))) with c14 | c14
        · replace h := of_true h c14
          obtain ⟨q12, hAq12, hcq12, hfq12, hlq12⟩ := hM.num_at 0 rfl (i := Int.tmod a0 3) (of_decide_eq_true c13) (by have h_ := of_decide_eq_true c14; omega)
          refine RunAny.y 9 (by kernel_rfl) (idx_own (d := some 16) (A := (some ⟨g4, 0, none⟩)) (m := 3) (i := Int.tmod a0 3) (k2 := [.inRegion (opsOf (pl Go.Proofs.Tryd.f40 [1, 1, 1, 0])) []]) (by kernel_rfl) (of_decide_eq_true c13) (by have h_ := of_decide_eq_true c14; omega) hAq12) (fun _ _ => trivial) hS ?_
          refine RunAny.y 10 (by kernel_rfl) (ld_y (d := some 17) (p := ⟨q12, (Int.tmod a0 3 : Int).toNat, none⟩) (k2 := [.inRegion (opsOf (pl Go.Proofs.Tryd.f40 [1, 1, 1, 0])) []]) (.int .u64 (rd ([18308165927316385504, 18386141011142107824, 226472410124699918] : List Int) (Int.tmod a0 3))) (by kernel_rfl)) (fun _ hs => hs.cell hcq12 (by simp)) hS ?_
          obtain ⟨t16, ht16, h⟩ := Option.bind_eq_some_iff.mp h
          refine RunAny.call 5 (d := some 12) (g := 51) (args := #[.int .u64 (rd ([5871781006564002452, 7904181063698728992, 15821769039155751280] : List Int) (Int.tmod a0 3))]) (by kernel_rfl) (by kernel_rfl) (scrimref1_PutBe64.calls k (rd ([5871781006564002452, 7904181063698728992, 15821769039155751280] : List Int) (Int.tmod a0 3)) t16 _ ht16) (by rintro _ _ ⟨_, _, _, rfl, hM_⟩; exact hS.below hM_.below) ?_
          rintro _ W15 ⟨A17, n18, c19, rfl, hM_⟩
          obtain rfl : t16.length = n18 := by have h_ := (hM_.rd 0 rfl).1; simpa [nums_length, bools_length, strs_length] using h_
          have hNew_ := (hM_.ok _ (List.mem_of_getElem? (i := 0) rfl)).2
          replace hS := hS.below hM_.below
          replace hM := hM.call hM_
          clear hM_ ht16
          refine RunAny.rebase2 (G2 := [.slice A17 t16.length c19]) hS (by intro v_ hv_; simp only [List.mem_cons, List.not_mem_nil, or_false] at hv_; rcases hv_ with rfl; exact .inr (fun b_ hb_ => hNew_ b_ hb_)) ?_
          replace hS := Still.refl W15 [.slice A17 t16.length c19]
          obtain ⟨t22, ht22, h⟩ := Option.bind_eq_some_iff.mp h
          refine RunAny.call 11 (d := some 18) (g := 51) (args := #[.int .u64 (rd ([18308165927316385504, 18386141011142107824, 226472410124699918] : List Int) (Int.tmod a0 3))]) (by kernel_rfl) (by kernel_rfl) (scrimref1_PutBe64.calls k (rd ([18308165927316385504, 18386141011142107824, 226472410124699918] : List Int) (Int.tmod a0 3)) t22 _ ht22) (by rintro _ _ ⟨_, _, _, rfl, hM_⟩; exact hS.below hM_.below) ?_
          rintro _ W21 ⟨A23, n24, c25, rfl, hM_⟩
          obtain rfl : t22.length = n24 := by have h_ := (hM_.rd 0 rfl).1; simpa [nums_length, bools_length, strs_length] using h_
          replace hS := hS.below hM_.below
          replace hM := hM.call hM_
          clear hM_ ht22
          refine RunAny.rebase hS ?_
          replace hS := Still.refl W21 [.slice A17 t16.length c19]
          rcases two (decide (t16.length + t22.length ≤ 1000000000)) with c31 | c31
          · replace h := of_true h c31
            have h_ := of_decide_eq_true c31
            obtain ⟨A27, n28, c29, W30, hD, hM', hS_⟩ := app_does (P := Go.Proofs.Tryd.prog) (n := 20) (k := (one (opsOf (pl Go.Proofs.Tryd.f40 [1, 1, 1, 0])) 12)) (L := (upd (upd (upd (upd (upd (upd (upd (upd (upd (upd (upd (upd [(0, .int .i64 a0), (3, .slice (some ⟨g1, 0, none⟩) 3 3), (4, .slice (some ⟨g4, 0, none⟩) 3 3)] (some 7) (.slice (some ⟨g1, 0, none⟩) 3 3)) (some 8) (.int .i64 a0)) (some 9) (.int .i64 (Int.tmod a0 3))) (some 10) (.pointer (some ⟨q9, (Int.tmod a0 3 : Int).toNat, none⟩))) (some 11) (.int .u64 (rd ([5871781006564002452, 7904181063698728992, 15821769039155751280] : List Int) (Int.tmod a0 3)))) (some 13) (.slice (some ⟨g4, 0, none⟩) 3 3)) (some 14) (.int .i64 a0)) (some 15) (.int .i64 (Int.tmod a0 3))) (some 16) (.pointer (some ⟨q12, (Int.tmod a0 3 : Int).toNat, none⟩))) (some 17) (.int .u64 (rd ([18308165927316385504, 18386141011142107824, 226472410124699918] : List Int) (Int.tmod a0 3)))) (some 12) (.slice A17 t16.length c19)) (some 18) (.slice A23 t22.length c25))) (d := some 19) (e := 5) (A := A17) (m := t16.length) (c := c19) (A2 := A23) (m2 := t22.length) (c2 := c25) (cs := nums .u8 t16) (ys := nums .u8 t22) (k2 := [.inRegion (opsOf (pl Go.Proofs.Tryd.f40 [1, 1, 1, 0])) []]) [⟨.slice A23 t22.length c25, 5, 1, nums .u8 t22⟩] [⟨.slice (some ⟨g4, 0, none⟩) 3 3, 73, 1, nums .u64 [18308165927316385504, 18386141011142107824, 226472410124699918]⟩, ⟨.slice (some ⟨g1, 0, none⟩) 3 3, 73, 1, nums .u64 [5871781006564002452, 7904181063698728992, 15821769039155751280]⟩] (by kernel_rfl) (hM.pick [0, 1, 2, 3] rfl rfl) (hM.rd 0 rfl) (one_nums _ _) (by omega)
            rw [nums_append] at hM'
            replace hM := hM'; clear h_ hM'
            obtain rfl : (t16 ++ t22).length = n28 := by have h_ := (hM.rd 1 rfl).1; simpa only [nums_length, bools_length, strs_length] using h_
            refine RunAny.does 12 (by kernel_rfl) hD (hS.app hS_ (by simp)) ?_
            clear hD
            replace hS := (hS.app hS_ (by simp)); clear hS_
            refine RunAny.rebase hS ?_
            replace hS := Still.refl W30 [.slice A17 t16.length c19]
            refine RunAny.y 13 (by kernel_rfl) (yl_pure (d := some 2) (v := .slice A27 ((t16 ++ t22).length) c29) (k2 := [.inRegion (opsOf (pl Go.Proofs.Tryd.f40 [1, 1, 1, 0])) []]) fun w => by kernel_rfl) (fun _ _ => trivial) hS ?_
            refine RunAny.done (by kernel_rfl) ?_
            clear hS
            obtain rfl := Option.some.inj h
            exact RunF.ret1 2 (.slice A27 ((t16 ++ t22).length) c29) (fn := Go.Proofs.Tryd.f40) Go.Proofs.Tryd.func40 (by kernel_rfl) (by kernel_rfl) (by kernel_rfl) ⟨_, rfl, A27, (t16 ++ t22).length, c29, rfl, (hM.pick [1] rfl rfl)⟩
          · replace h := of_false h c31
            cases h
        · replace h := of_false h c14
          cases h
      · replace h := of_false h c13
        cases h
    · replace h := of_false h c11
      cases h
  · replace h := of_false h c10
    cases h

/-! ### scrim/scrimref1.rest: function 52 -/
def scrimref1_rest.f (k : Nat) (a0 : Int) (a1 : Int) : Option (Int) := if (decide (a1 = 0)) = true then (none) else (if (decide (a1 = 0)) = true then (none) else (some (Int.tmod (I64 ((Int.tmod a0 a1) + a1)) a1)))
set_option maxRecDepth 100000 in
theorem scrimref1_rest.calls (k : Nat) (a0 : Int) (a1 : Int) (r : Int) (w : World) (h : scrimref1_rest.f k a0 a1 = some r) :
    Calls Go.Proofs.Tryd.prog 52 #[.int .i64 a0, .int .i64 a1] w (Ret fun v w' => v = .int .i64 r ∧ Mem w w' []) := by
  unfold scrimref1_rest.f at h
  refine calls_of [.int .i64 a0, .int .i64 a1] (fn := Go.Proofs.Tryd.f52) Go.Proofs.Tryd.func52 (by kernel_rfl) (by kernel_rfl) ?_
  have hM := Mem.refl w
  refine RunF.go 8 [1, 5, 6] (k' := (pin Go.Proofs.Tryd.f52 [1, 0] 2)) (L' := [(1, .int .i64 a1), (5, .int .i64 a0), (6, .int .i64 a1)]) (w' := w) (by kernel_rfl) ?_
  rcases two (decide (a1 = 0)) with c1 | c1
  · replace h := of_true h c1
    cases h
  · replace h := of_false h c1
    refine RunF.y (div_y (d := some 7) (b := false) (kd := .i64) (x := a0) (y := a1) (k2 := (pin Go.Proofs.Tryd.f52 [1, 0] 3)) (by kernel_rfl) c1) trivial ?_
    refine RunF.go 3 [9, 10] (k' := (pin Go.Proofs.Tryd.f52 [1, 0] 6)) (L' := [(9, .int .i64 (I64 ((Int.tmod a0 a1) + a1))), (10, .int .i64 a1)]) (w' := w) (by kernel_rfl) ?_
    rcases two (decide (a1 = 0)) with c2 | c2
    · replace h := of_true h c2
      cases h
    · replace h := of_false h c2
      refine RunF.y (div_y (d := some 11) (b := false) (kd := .i64) (x := I64 ((Int.tmod a0 a1) + a1)) (y := a1) (k2 := (pin Go.Proofs.Tryd.f52 [1, 0] 7)) (by kernel_rfl) c2) trivial ?_
      refine RunF.go 2 [4] (k' := (pl Go.Proofs.Tryd.f52 [1, 1])) (L' := [(4, .int .i64 (Int.tmod (I64 ((Int.tmod a0 a1) + a1)) a1))]) (w' := w) (by kernel_rfl) ?_
      obtain rfl := Option.some.inj h
      exact RunF.ret1 4 (.int .i64 (Int.tmod (I64 ((Int.tmod a0 a1) + a1)) a1)) (fn := Go.Proofs.Tryd.f52) Go.Proofs.Tryd.func52 (by kernel_rfl) (by kernel_rfl) (by kernel_rfl) ⟨_, rfl, rfl, (hM.pick [] rfl rfl)⟩

/-! ### scrim/scrimref1.Turn: function 41 -/
def scrimref1_Turn.l0 : Nat → (List Int) → Int → (List Int) → Int → Option (List Int)
  | 0, _, _, _, _ => none
  | k + 1, a0, t8, x5_0, x7_0 => if (decide (x7_0 < (a0.length : Int))) = true then (if (decide ((a0.length : Int) = 0)) = true then (none) else (if (decide (0 ≤ (Int.tmod (I64 (x7_0 + (I64 (Int.tdiv t8 8)))) (a0.length : Int)))) = true then (if (decide ((Int.tmod (I64 (x7_0 + (I64 (Int.tdiv t8 8)))) (a0.length : Int)) < (a0.length : Int))) = true then (if (decide ((a0.length : Int) = 0)) = true then (none) else (if (decide (0 ≤ (Int.tmod (I64 ((I64 (x7_0 + (I64 (Int.tdiv t8 8)))) + 1)) (a0.length : Int)))) = true then (if (decide ((Int.tmod (I64 ((I64 (x7_0 + (I64 (Int.tdiv t8 8)))) + 1)) (a0.length : Int)) < (a0.length : Int))) = true then ((some (rd a0 (Int.tmod (I64 (x7_0 + (I64 (Int.tdiv t8 8)))) (a0.length : Int)) : Int)).bind fun y20 => ((some (rd a0 (Int.tmod (I64 ((I64 (x7_0 + (I64 (Int.tdiv t8 8)))) + 1)) (a0.length : Int)) : Int)).bind fun y21 => (if (decide (0 ≤ (U64 (Int.tmod t8 8)))) = true then (if (decide (0 ≤ (U64 (I64 (8 - (Int.tmod t8 8)))))) = true then ((some (bor .u8 (shlv .u8 y20 (U64 (Int.tmod t8 8))) (shrv .u8 y21 (U64 (I64 (8 - (Int.tmod t8 8))))) : Int)).bind fun y24 => (if (decide (0 ≤ x7_0)) = true then (if (decide (x7_0 < (((a0.length : Int)).toNat : Int))) = true then (scrimref1_Turn.l0 k a0 t8 (x5_0.set (x7_0 : Int).toNat y24) (I64 (x7_0 + 1))) else (none)) else (none))) else (none)) else (none)))) else (none)) else (none))) else (none)) else (none))) else (some x5_0)
def scrimref1_Turn.f (k : Nat) (a0 : List Int) (a1 : Int) : Option (List Int) := if (decide (0 ≤ (a0.length : Int))) = true then (if (decide ((a0.length : Int) ≤ 1000000000)) = true then (if ((a0.length : Int) == 0) = true then (some (List.replicate (((a0.length : Int)).toNat) (0 : Int))) else ((scrimref1_rest.f k a1 (I64 (8 * (a0.length : Int)))).bind fun t8 => (scrimref1_Turn.l0 k a0 t8 (List.replicate (((a0.length : Int)).toNat) (0 : Int)) 0))) else (none)) else (none)
set_option maxRecDepth 100000 in
theorem scrimref1_Turn.calls (k : Nat) (Ap0 : Option Addr) (np0 cp0 : Nat) (a0 : List Int) (a1 : Int) (r : List Int) (w : World) (hr0 : Rd w (.slice Ap0 np0 cp0) (nums .u8 a0)) (h : scrimref1_Turn.f k a0 a1 = some r) :
    Calls Go.Proofs.Tryd.prog 41 #[(.slice Ap0 np0 cp0), .int .i64 a1] w (Ret fun v w' => ∃ A0' n0' c0', v = .slice A0' n0' c0' ∧ Mem w w' [⟨.slice A0' n0' c0', 5, 1, nums .u8 r⟩]) := by
  obtain rfl : a0.length = np0 := by have h_ := hr0.1; simpa [nums_length, bools_length, strs_length] using h_
  unfold scrimref1_Turn.f at h
  refine calls_of [.slice Ap0 a0.length cp0, .int .i64 a1] (fn := Go.Proofs.Tryd.f41) Go.Proofs.Tryd.func41 (by kernel_rfl) (by kernel_rfl) ?_
  have hM := Mem.refl w
  refine RunF.go 8 [0, 1, 11] (k' := (pin Go.Proofs.Tryd.f41 [1, 0] 2)) (L' := [(0, .slice Ap0 a0.length cp0), (1, .int .i64 a1), (11, .int .i64 (a0.length : Int))]) (w' := w) (by kernel_rfl) ?_
  rcases two (decide (0 ≤ (a0.length : Int))) with c3 | c3
  · replace h := of_true h c3
    rcases two (decide ((a0.length : Int) ≤ 1000000000)) with c4 | c4
    · replace h := of_true h c4
      have := of_decide_eq_true c3
      have := of_decide_eq_true c4
      obtain ⟨W1, hD, hM', hB_⟩ := mk_does (P := Go.Proofs.Tryd.prog) (n := 65) (k := (pin Go.Proofs.Tryd.f41 [1, 0] 2)) (L := [(0, .slice Ap0 a0.length cp0), (1, .int .i64 a1), (11, .int .i64 (a0.length : Int))]) (d := some 12) (e := 5) (z := .int .u8 0) (l := (a0.length : Int)) (c := (a0.length : Int)) (k2 := (pin Go.Proofs.Tryd.f41 [1, 0] 3)) (by kernel_rfl) (by omega) (by omega) (by omega) hM
      rw [rep_nums] at hM'
      refine RunF.does hD ?_
      replace hM := hM'; clear hD hM'
      generalize w.heap.size = g2 at hM ⊢
      refine RunF.go 9 [0, 1, 5, 15] (k' := (pl Go.Proofs.Tryd.f41 [1, 1, 0, 1])) (L' := [(0, .slice Ap0 a0.length cp0), (1, .int .i64 a1), (5, .slice (some ⟨g2, 0, none⟩) (((a0.length : Int)).toNat) (((a0.length : Int) : Int).toNat)), (15, .bool ((a0.length : Int) == 0))]) (w' := W1) (by kernel_rfl) ?_
      rcases two (((a0.length : Int) == 0)) with c6 | c6
      · replace h := of_true h c6
        refine RunF.know 15 (b := true) (by kernel_rfl) c6 ?_
        refine RunF.go 6 [4] (k' := (pl Go.Proofs.Tryd.f41 [1, 1, 0, 1, 0, 1])) (L' := [(4, .slice (some ⟨g2, 0, none⟩) (((a0.length : Int)).toNat) (((a0.length : Int) : Int).toNat))]) (w' := W1) (by kernel_rfl) ?_
        obtain rfl := Option.some.inj h
        exact RunF.ret1 4 (.slice (some ⟨g2, 0, none⟩) (((a0.length : Int)).toNat) (((a0.length : Int) : Int).toNat)) (fn := Go.Proofs.Tryd.f41) Go.Proofs.Tryd.func41 (by kernel_rfl) (by kernel_rfl) (by kernel_rfl) ⟨_, rfl, (some ⟨g2, 0, none⟩), ((a0.length : Int)).toNat, ((a0.length : Int) : Int).toNat, rfl, (hM.pick [0] rfl rfl)⟩
      · replace h := of_false h c6
        refine RunF.know 15 (b := false) (by kernel_rfl) c6 ?_
        refine RunF.go 8 [0, 5, 17, 20] (k' := (pin Go.Proofs.Tryd.f41 [1, 1, 1, 0] 4)) (L' := [(0, .slice Ap0 a0.length cp0), (5, .slice (some ⟨g2, 0, none⟩) (((a0.length : Int)).toNat) (((a0.length : Int) : Int).toNat)), (17, .int .i64 a1), (20, .int .i64 (I64 (8 * (a0.length : Int))))]) (w' := W1) (by kernel_rfl) ?_
        obtain ⟨t8, ht8, h⟩ := Option.bind_eq_some_iff.mp h
        refine RunF.call (d := some 21) (g := 52) (args := #[.int .i64 a1, .int .i64 (I64 (8 * (a0.length : Int)))]) (k2 := (pin Go.Proofs.Tryd.f41 [1, 1, 1, 0] 5)) (by kernel_rfl) (scrimref1_rest.calls k a1 (I64 (8 * (a0.length : Int))) t8 _ ht8) ?_
        rintro _ W7 ⟨rfl, hM_⟩
        replace hM := hM.call hM_
        clear hM_ ht8
        refine RunF.go 9 [0, 5, 6, 7] (k' := (pl Go.Proofs.Tryd.f41 [1, 1, 1, 1, 0, 1, 0, 0])) (L' := [(0, .slice Ap0 a0.length cp0), (5, .slice (some ⟨g2, 0, none⟩) (((a0.length : Int)).toNat) (((a0.length : Int) : Int).toNat)), (6, .int .i64 t8), (7, .int .i64 0)]) (w' := W7) (by kernel_rfl) ?_
        have l0 : ∀ (k_ : Nat), k_ ≤ k → ∀ (x5_0 : List Int) (x7_0 : Int) (W : World) (hM : Mem w W [⟨.slice (some ⟨g2, 0, none⟩) (((a0.length : Int)).toNat) (((a0.length : Int) : Int).toNat), 5, 1, nums .u8 x5_0⟩]) (h : scrimref1_Turn.l0 k_ a0 t8 x5_0 x7_0 = some r), RunF Go.Proofs.Tryd.prog (Ret fun v w' => ∃ A0' n0' c0', v = .slice A0' n0' c0' ∧ Mem w w' [⟨.slice A0' n0' c0', 5, 1, nums .u8 r⟩]) 41 (pl Go.Proofs.Tryd.f41 [1, 1, 1, 1, 0, 1, 0, 0]) 65 [(0, .slice Ap0 a0.length cp0), (5, .slice (some ⟨g2, 0, none⟩) (((a0.length : Int)).toNat) (((a0.length : Int) : Int).toNat)), (6, .int .i64 t8), (7, .int .i64 x7_0)] W := by
          intro k_
          induction k_ using Nat.strongRecOn with
          | _ k_ ih0 =>
            intro hk x5_0 x7_0 W hM h
            cases k_ with
            | zero => exact absurd h (by simp [scrimref1_Turn.l0])
            | succ k =>
              simp only [scrimref1_Turn.l0] at h
              replace ih0 : ∀ m, m ≤ k → _ := fun m hm => ih0 m (by omega) (by omega)
              refine RunF.go 8 [0, 5, 6, 7, 25] (k' := (pl Go.Proofs.Tryd.f41 [1, 1, 1, 1, 0, 1, 0, 0, 0, 1])) (L' := [(0, .slice Ap0 a0.length cp0), (5, .slice (some ⟨g2, 0, none⟩) (((a0.length : Int)).toNat) (((a0.length : Int) : Int).toNat)), (6, .int .i64 t8), (7, .int .i64 x7_0), (25, .bool (decide (x7_0 < (a0.length : Int))))]) (w' := W) (by kernel_rfl) ?_
              rcases two (decide (x7_0 < (a0.length : Int))) with c9 | c9
              · replace h := of_true h c9
                refine RunF.know 25 (b := true) (by kernel_rfl) c9 ?_
                refine RunF.go 5 [0, 5, 6, 7] (k' := (pl Go.Proofs.Tryd.f41 [1, 1, 1, 1, 0, 1, 0, 0, 1, 0, 0, 0])) (L' := [(0, .slice Ap0 a0.length cp0), (5, .slice (some ⟨g2, 0, none⟩) (((a0.length : Int)).toNat) (((a0.length : Int) : Int).toNat)), (6, .int .i64 t8), (7, .int .i64 x7_0)]) (w' := W) (by kernel_rfl) ?_
                refine RunF.draw (Still ({ W with drawn := W.drawn + 1 } : World) []) (by kernel_rfl) (by kernel_rfl) ?_
                have hMd11 := hM.drew
                have hS := Still.refl ({ W with drawn := W.drawn + 1 } : World) []
                generalize ({ W with drawn := W.drawn + 1 } : World) = W10 at hMd11 hS ⊢
                replace hM := hMd11
                refine RunAny.y 0 (by kernel_rfl) (yl_pure (d := some 28) (v := .slice Ap0 a0.length cp0) (k2 := [.inRegion (opsOf (pl Go.Proofs.Tryd.f41 [1, 1, 1, 1, 0, 1, 0, 0, 1, 0, 0, 0])) []]) fun w => by kernel_rfl) (fun _ _ => trivial) hS ?_
                refine RunAny.y 1 (by kernel_rfl) (yl_pure (d := some 29) (v := .int .i64 x7_0) (k2 := [.inRegion (opsOf (pl Go.Proofs.Tryd.f41 [1, 1, 1, 1, 0, 1, 0, 0, 1, 0, 0, 0])) []]) fun w => by kernel_rfl) (fun _ _ => trivial) hS ?_
                refine RunAny.y 2 (by kernel_rfl) (yl_pure (d := some 30) (v := .int .i64 t8) (k2 := [.inRegion (opsOf (pl Go.Proofs.Tryd.f41 [1, 1, 1, 1, 0, 1, 0, 0, 1, 0, 0, 0])) []]) fun w => by kernel_rfl) (fun _ _ => trivial) hS ?_
                refine RunAny.y 3 (by kernel_rfl) (yl_pure (d := some 31) (v := .int .i64 (I64 (Int.tdiv t8 8))) (k2 := [.inRegion (opsOf (pl Go.Proofs.Tryd.f41 [1, 1, 1, 1, 0, 1, 0, 0, 1, 0, 0, 0])) []]) fun w => by kernel_rfl) (fun _ _ => trivial) hS ?_
                refine RunAny.y 4 (by kernel_rfl) (yl_pure (d := some 32) (v := .int .i64 (I64 (x7_0 + (I64 (Int.tdiv t8 8))))) (k2 := [.inRegion (opsOf (pl Go.Proofs.Tryd.f41 [1, 1, 1, 1, 0, 1, 0, 0, 1, 0, 0, 0])) []]) fun w => by kernel_rfl) (fun _ _ => trivial) hS ?_
                refine RunAny.y 5 (by kernel_rfl) (yl_pure (d := some 33) (v := .slice Ap0 a0.length cp0) (k2 := [.inRegion (opsOf (pl Go.Proofs.Tryd.f41 [1, 1, 1, 1, 0, 1, 0, 0, 1, 0, 0, 0])) []]) fun w => by kernel_rfl) (fun _ _ => trivial) hS ?_
                refine RunAny.y 6 (by kernel_rfl) (yl_pure (d := some 34) (v := .int .i64 (a0.length : Int)) (k2 := [.inRegion (opsOf (pl Go.Proofs.Tryd.f41 [1, 1, 1, 1, 0, 1, 0, 0, 1, 0, 0, 0])) []]) fun w => by kernel_rfl) (fun _ _ => trivial) hS ?_
                rcases two (decide ((a0.length : Int) = 0)) with c12 | c12
                · replace h := of_true h c12
                  cases h
                · replace h := of_false h c12
                  refine RunAny.y 7 (by kernel_rfl) (div_y (d := some 35) (b := false) (kd := .i64) (x := I64 (x7_0 + (I64 (Int.tdiv t8 8)))) (y := (a0.length : Int)) (k2 := [.inRegion (opsOf (pl Go.Proofs.Tryd.f41 [1, 1, 1, 1, 0, 1, 0, 0, 1, 0, 0, 0])) []]) (by kernel_rfl) c12) (fun _ _ => trivial) hS ?_
                  rcases two (decide (0 ≤ (Int.tmod (I64 (x7_0 + (I64 (Int.tdiv t8 8)))) (a0.length : Int)))) with c14 | c14
                  · replace h := of_true h c14
                    rcases two (decide ((Int.tmod (I64 (x7_0 + (I64 (Int.tdiv t8 8)))) (a0.length : Int)) < (a0.length : Int))) with c15 | c15
                    · replace h := of_true h c15
                      obtain ⟨q13, hAq13, hcq13⟩ := Rd.num (hr0.mono hM.below) (i := Int.tmod (I64 (x7_0 + (I64 (Int.tdiv t8 8)))) (a0.length : Int)) (of_decide_eq_true c14) (by have h_ := of_decide_eq_true c15; omega)
                      refine RunAny.y 8 (by kernel_rfl) (idx_y (d := some 36) (A := Ap0) (m := a0.length) (i := Int.tmod (I64 (x7_0 + (I64 (Int.tdiv t8 8)))) (a0.length : Int)) (k2 := [.inRegion (opsOf (pl Go.Proofs.Tryd.f41 [1, 1, 1, 1, 0, 1, 0, 0, 1, 0, 0, 0])) []]) (by kernel_rfl) (of_decide_eq_true c14) (by have h_ := of_decide_eq_true c15; omega) hAq13) (fun _ _ => trivial) hS ?_
                      refine RunAny.y 9 (by kernel_rfl) (ld_y (d := some 37) (p := (q13.add (Int.tmod (I64 (x7_0 + (I64 (Int.tdiv t8 8)))) (a0.length : Int) : Int).toNat)) (k2 := [.inRegion (opsOf (pl Go.Proofs.Tryd.f41 [1, 1, 1, 1, 0, 1, 0, 0, 1, 0, 0, 0])) []]) (.int .u8 (rd a0 (Int.tmod (I64 (x7_0 + (I64 (Int.tdiv t8 8)))) (a0.length : Int)))) (by kernel_rfl)) (fun _ hs => hs.cell hcq13 (by simp)) hS ?_
                      refine RunAny.y 10 (by kernel_rfl) (yl_pure (d := some 38) (v := .slice Ap0 a0.length cp0) (k2 := [.inRegion (opsOf (pl Go.Proofs.Tryd.f41 [1, 1, 1, 1, 0, 1, 0, 0, 1, 0, 0, 0])) []]) fun w => by kernel_rfl) (fun _ _ => trivial) hS ?_
                      refine RunAny.y 11 (by kernel_rfl) (yl_pure (d := some 39) (v := .int .i64 x7_0) (k2 := [.inRegion (opsOf (pl Go.Proofs.Tryd.f41 [1, 1, 1, 1, 0, 1, 0, 0, 1, 0, 0, 0])) []]) fun w => by kernel_rfl) (fun _ _ => trivial) hS ?_
                      refine RunAny.y 12 (by kernel_rfl) (yl_pure (d := some 40) (v := .int .i64 t8) (k2 := [.inRegion (opsOf (pl Go.Proofs.Tryd.f41 [1, 1, 1, 1, 0, 1, 0, 0, 1, 0, 0, 0])) []]) fun w => by kernel_rfl) (fun _ _ => trivial) hS ?_
                      refine RunAny.y 13 (by kernel_rfl) (yl_pure (d := some 41) (v := .int .i64 (I64 (Int.tdiv t8 8))) (k2 := [.inRegion (opsOf (pl Go.Proofs.Tryd.f41 [1, 1, 1, 1, 0, 1, 0, 0, 1, 0, 0, 0])) []]) fun w => by kernel_rfl) (fun _ _ => trivial) hS ?_
                      refine RunAny.y 14 (by kernel_rfl) (yl_pure (d := some 42) (v := .int .i64 (I64 (x7_0 + (I64 (Int.tdiv t8 8))))) (k2 := [.inRegion (opsOf (pl Go.Proofs.Tryd.f41 [1, 1, 1, 1, 0, 1, 0, 0, 1, 0, 0, 0])) []]) fun w => by kernel_rfl) (fun _ _ => trivial) hS ?_
                      refine RunAny.y 15 (by kernel_rfl) (yl_pure (d := some 43) (v := .int .i64 (I64 ((I64 (x7_0 + (I64 (Int.tdiv t8 8)))) + 1))) (k2 := [.inRegion (opsOf (pl Go.Proofs.Tryd.f41 [1, 1, 1, 1, 0, 1, 0, 0, 1, 0, 0, 0])) []]) fun w => by kernel_rfl) (fun _ _ => trivial) hS ?_
                      refine RunAny.y 16 (by kernel_rfl) (yl_pure (d := some 44) (v := .slice Ap0 a0.length cp0) (k2 := [.inRegion (opsOf (pl Go.Proofs.Tryd.f41 [1, 1, 1, 1, 0, 1, 0, 0, 1, 0, 0, 0])) []]) fun w => by kernel_rfl) (fun _ _ => trivial) hS ?_
                      refine RunAny.y 17 (by kernel_rfl) (yl_pure (d := some 45) (v := .int .i64 (a0.length : Int)) (k2 := [.inRegion (opsOf (pl Go.Proofs.Tryd.f41 [1, 1, 1, 1, 0, 1, 0, 0, 1, 0, 0, 0])) []]) fun w => by kernel_rfl) (fun _ _ => trivial) hS ?_
                      rcases two (decide ((a0.length : Int) = 0)) with c16 | c16
                      · replace h := of_true h c16
                        cases h
                      · replace h := of_false h c16
                        refine RunAny.y 18 (by kernel_rfl) (div_y (d := some 46) (b := false) (kd := .i64) (x := I64 ((I64 (x7_0 + (I64 (Int.tdiv t8 8)))) + 1)) (y := (a0.length : Int)) (k2 := [.inRegion (opsOf (pl Go.Proofs.Tryd.f41 [1, 1, 1, 1, 0, 1, 0, 0, 1, 0, 0, 0])) []]) (by kernel_rfl) c16) (fun _ _ => trivial) hS ?_
                        rcases two (decide (0 ≤ (Int.tmod (I64 ((I64 (x7_0 + (I64 (Int.tdiv t8 8)))) + 1)) (a0.length : Int)))) with c18 | c18
                        · replace h := of_true h c18
                          rcases two (decide ((Int.tmod (I64 ((I64 (x7_0 + (I64 (Int.tdiv t8 8)))) + 1)) (a0.length : Int)) < (a0.length : Int))) with c19 | c19
                          · replace h := of_true h c19
                            obtain ⟨q17, hAq17, hcq17⟩ := Rd.num (hr0.mono hM.below) (i := Int.tmod (I64 ((I64 (x7_0 + (I64 (Int.tdiv t8 8)))) + 1)) (a0.length : Int)) (of_decide_eq_true c18) (by have h_ := of_decide_eq_true c19; omega)
                            refine RunAny.y 19 (by kernel_rfl) (idx_y (d := some 47) (A := Ap0) (m := a0.length) (i := Int.tmod (I64 ((I64 (x7_0 + (I64 (Int.tdiv t8 8)))) + 1)) (a0.length : Int)) (k2 := [.inRegion (opsOf (pl Go.Proofs.Tryd.f41 [1, 1, 1, 1, 0, 1, 0, 0, 1, 0, 0, 0])) []]) (by kernel_rfl) (of_decide_eq_true c18) (by have h_ := of_decide_eq_true c19; omega) hAq17) (fun _ _ => trivial) hS ?_
                            refine RunAny.y 20 (by kernel_rfl) (ld_y (d := some 48) (p := (q17.add (Int.tmod (I64 ((I64 (x7_0 + (I64 (Int.tdiv t8 8)))) + 1)) (a0.length : Int) : Int).toNat)) (k2 := [.inRegion (opsOf (pl Go.Proofs.Tryd.f41 [1, 1, 1, 1, 0, 1, 0, 0, 1, 0, 0, 0])) []]) (.int .u8 (rd a0 (Int.tmod (I64 ((I64 (x7_0 + (I64 (Int.tdiv t8 8)))) + 1)) (a0.length : Int)))) (by kernel_rfl)) (fun _ hs => hs.cell hcq17 (by simp)) hS ?_
                            refine RunAny.y 21 (by kernel_rfl) (yl_pure (d := some 8) (v := .int .u8 (rd a0 (Int.tmod (I64 (x7_0 + (I64 (Int.tdiv t8 8)))) (a0.length : Int)))) (k2 := [.inRegion (opsOf (pl Go.Proofs.Tryd.f41 [1, 1, 1, 1, 0, 1, 0, 0, 1, 0, 0, 0])) []]) fun w => by kernel_rfl) (fun _ _ => trivial) hS ?_
                            refine RunAny.y 22 (by kernel_rfl) (yl_pure (d := some 9) (v := .int .u8 (rd a0 (Int.tmod (I64 ((I64 (x7_0 + (I64 (Int.tdiv t8 8)))) + 1)) (a0.length : Int)))) (k2 := [.inRegion (opsOf (pl Go.Proofs.Tryd.f41 [1, 1, 1, 1, 0, 1, 0, 0, 1, 0, 0, 0])) []]) fun w => by kernel_rfl) (fun _ _ => trivial) hS ?_
                            refine RunAny.done (by kernel_rfl) ?_
                            clear hS
                            refine RunF.go 7 [0, 5, 6, 7, 9, 49, 50, 51, 54] (k' := (pin Go.Proofs.Tryd.f41 [1, 1, 1, 1, 0, 1, 0, 0, 1, 0, 0, 1] 6)) (L' := [(0, .slice Ap0 a0.length cp0), (5, .slice (some ⟨g2, 0, none⟩) (((a0.length : Int)).toNat) (((a0.length : Int) : Int).toNat)), (6, .int .i64 t8), (7, .int .i64 x7_0), (9, .int .u8 (rd a0 (Int.tmod (I64 ((I64 (x7_0 + (I64 (Int.tdiv t8 8)))) + 1)) (a0.length : Int)))), (49, .slice (some ⟨g2, 0, none⟩) (((a0.length : Int)).toNat) (((a0.length : Int) : Int).toNat)), (50, .int .i64 x7_0), (51, .int .u8 (rd a0 (Int.tmod (I64 (x7_0 + (I64 (Int.tdiv t8 8)))) (a0.length : Int)))), (54, .int .u64 (U64 (Int.tmod t8 8)))]) (w' := W10) (by kernel_rfl) ?_
                            obtain ⟨y20, hy, h⟩ := Option.bind_eq_some_iff.mp h
                            rw [show (rd a0 (Int.tmod (I64 (x7_0 + (I64 (Int.tdiv t8 8)))) (a0.length : Int))) = y20 from Option.some.inj hy]
                            clear hy
                            obtain ⟨y21, hy, h⟩ := Option.bind_eq_some_iff.mp h
                            rw [show (rd a0 (Int.tmod (I64 ((I64 (x7_0 + (I64 (Int.tdiv t8 8)))) + 1)) (a0.length : Int))) = y21 from Option.some.inj hy]
                            clear hy
                            rcases two (decide (0 ≤ (U64 (Int.tmod t8 8)))) with c22 | c22
                            · replace h := of_true h c22
                              refine RunF.y (sh_y (d := some 55) (b := true) (kd := .u8) (x := y20) (y := U64 (Int.tmod t8 8)) (k2 := (pin Go.Proofs.Tryd.f41 [1, 1, 1, 1, 0, 1, 0, 0, 1, 0, 0, 1] 7)) (by kernel_rfl) c22) trivial ?_
                              refine RunF.go 5 [0, 5, 6, 7, 49, 50, 55, 56, 60] (k' := (pin Go.Proofs.Tryd.f41 [1, 1, 1, 1, 0, 1, 0, 0, 1, 0, 0, 1] 12)) (L' := [(0, .slice Ap0 a0.length cp0), (5, .slice (some ⟨g2, 0, none⟩) (((a0.length : Int)).toNat) (((a0.length : Int) : Int).toNat)), (6, .int .i64 t8), (7, .int .i64 x7_0), (49, .slice (some ⟨g2, 0, none⟩) (((a0.length : Int)).toNat) (((a0.length : Int) : Int).toNat)), (50, .int .i64 x7_0), (55, .int .u8 (shlv .u8 y20 (U64 (Int.tmod t8 8)))), (56, .int .u8 y21), (60, .int .u64 (U64 (I64 (8 - (Int.tmod t8 8)))))]) (w' := W10) (by kernel_rfl) ?_
                              rcases two (decide (0 ≤ (U64 (I64 (8 - (Int.tmod t8 8)))))) with c23 | c23
                              · replace h := of_true h c23
                                refine RunF.y (sh_y (d := some 61) (b := false) (kd := .u8) (x := y21) (y := U64 (I64 (8 - (Int.tmod t8 8)))) (k2 := (pin Go.Proofs.Tryd.f41 [1, 1, 1, 1, 0, 1, 0, 0, 1, 0, 0, 1] 13)) (by kernel_rfl) c23) trivial ?_
                                refine RunF.go 1 [0, 5, 6, 7, 49, 50, 62] (k' := (pin Go.Proofs.Tryd.f41 [1, 1, 1, 1, 0, 1, 0, 0, 1, 0, 0, 1] 14)) (L' := [(0, .slice Ap0 a0.length cp0), (5, .slice (some ⟨g2, 0, none⟩) (((a0.length : Int)).toNat) (((a0.length : Int) : Int).toNat)), (6, .int .i64 t8), (7, .int .i64 x7_0), (49, .slice (some ⟨g2, 0, none⟩) (((a0.length : Int)).toNat) (((a0.length : Int) : Int).toNat)), (50, .int .i64 x7_0), (62, .int .u8 (bor .u8 (shlv .u8 y20 (U64 (Int.tmod t8 8))) (shrv .u8 y21 (U64 (I64 (8 - (Int.tmod t8 8)))))))]) (w' := W10) (by kernel_rfl) ?_
                                obtain ⟨y24, hy, h⟩ := Option.bind_eq_some_iff.mp h
                                rw [show (bor .u8 (shlv .u8 y20 (U64 (Int.tmod t8 8))) (shrv .u8 y21 (U64 (I64 (8 - (Int.tmod t8 8)))))) = y24 from Option.some.inj hy]
                                clear hy
                                rcases two (decide (0 ≤ x7_0)) with c26 | c26
                                · replace h := of_true h c26
                                  rcases two (decide (x7_0 < (((a0.length : Int)).toNat : Int))) with c27 | c27
                                  · replace h := of_true h c27
                                    obtain ⟨q25, hAq25, hcq25, hfq25, hlq25⟩ := hM.num_at 0 rfl (i := x7_0) (of_decide_eq_true c26) (by have h_ := of_decide_eq_true c27; omega)
                                    refine RunF.y (idx_own (d := some 63) (A := (some ⟨g2, 0, none⟩)) (m := ((a0.length : Int)).toNat) (i := x7_0) (k2 := (pin Go.Proofs.Tryd.f41 [1, 1, 1, 1, 0, 1, 0, 0, 1, 0, 0, 1] 15)) (by kernel_rfl) (of_decide_eq_true c26) (by have h_ := of_decide_eq_true c27; omega) hAq25) trivial ?_
                                    obtain ⟨g_, hA_, hc_, hf_, hl_⟩ := hM.num_at 0 rfl (i := x7_0) (of_decide_eq_true c26) (by have h_ := of_decide_eq_true c27; omega)
                                    obtain rfl : q25 = g_ := by rw [hAq25] at hA_; injection hA_ with hA_; injection hA_
                                    refine RunF.doesU (st_u (p := (⟨q25, (x7_0 : Int).toNat, none⟩ : Addr)) (v := .int .u8 y24) (k2 := (pin Go.Proofs.Tryd.f41 [1, 1, 1, 1, 0, 1, 0, 0, 1, 0, 0, 1] 16)) (by kernel_rfl) hc_ hf_) ?_
                                    replace hM : Mem w (W10.setCell (⟨q25, (x7_0 : Int).toNat, none⟩ : Addr) (.int .u8 y24)) [⟨.slice (some ⟨g2, 0, none⟩) (((a0.length : Int)).toNat) (((a0.length : Int) : Int).toNat), 5, 1, nums .u8 (x5_0.set (x7_0 : Int).toNat y24)⟩] := Mem.put_num [] [] (hM.pick [0] rfl rfl) hAq25 _ hl_ _
                                    generalize W10.setCell (⟨q25, (x7_0 : Int).toNat, none⟩ : Addr) (.int .u8 y24) = W28 at hM ⊢
                                    clear hc_ hf_ hl_ hA_ hcq25
                                    refine RunF.go 8 [0, 5, 6, 7] (k' := (pl Go.Proofs.Tryd.f41 [1, 1, 1, 1, 0, 1, 0, 0])) (L' := [(0, .slice Ap0 a0.length cp0), (5, .slice (some ⟨g2, 0, none⟩) (((a0.length : Int)).toNat) (((a0.length : Int) : Int).toNat)), (6, .int .i64 t8), (7, .int .i64 (I64 (x7_0 + 1)))]) (w' := W28) (by kernel_rfl) ?_
                                    exact ih0 k (by omega) (x5_0.set (x7_0 : Int).toNat y24) (I64 (x7_0 + 1)) _ (hM.pick [0] rfl rfl) h
                                  · replace h := of_false h c27
                                    cases h
                                · replace h := of_false h c26
                                  cases h
                              · replace h := of_false h c23
                                cases h
                            · replace h := of_false h c22
                              cases h
                          · replace h := of_false h c19
                            cases h
                        · replace h := of_false h c18
                          cases h
                    · replace h := of_false h c15
                      cases h
                  · replace h := of_false h c14
                    cases h
              · replace h := of_false h c9
                refine RunF.know 25 (b := false) (by kernel_rfl) c9 ?_
                refine RunF.go 7 [4] (k' := (pl Go.Proofs.Tryd.f41 [1, 1, 1, 1, 1, 1])) (L' := [(4, .slice (some ⟨g2, 0, none⟩) (((a0.length : Int)).toNat) (((a0.length : Int) : Int).toNat))]) (w' := W) (by kernel_rfl) ?_
                obtain rfl := Option.some.inj h
                exact RunF.ret1 4 (.slice (some ⟨g2, 0, none⟩) (((a0.length : Int)).toNat) (((a0.length : Int) : Int).toNat)) (fn := Go.Proofs.Tryd.f41) Go.Proofs.Tryd.func41 (by kernel_rfl) (by kernel_rfl) (by kernel_rfl) ⟨_, rfl, (some ⟨g2, 0, none⟩), ((a0.length : Int)).toNat, ((a0.length : Int) : Int).toNat, rfl, (hM.pick [0] rfl rfl)⟩
        exact l0 k (Nat.le_refl _) (List.replicate (((a0.length : Int)).toNat) (0 : Int)) 0 _ (hM.pick [0] rfl rfl) h
    · replace h := of_false h c4
      cases h
  · replace h := of_false h c3
    cases h


end Go.Scr.S
