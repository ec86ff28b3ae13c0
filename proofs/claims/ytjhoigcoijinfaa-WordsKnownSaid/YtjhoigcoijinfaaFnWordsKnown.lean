/- The functions that the law WordsKnown reaches, as plain functions, and that each call answers so. -/
import Derived.Test.YtjhoigcoijinfaaProg
import Derived.Test.YtjhoigcoijinfaaFnWordsKnown0
set_option linter.unusedVariables false
set_option linter.unusedSimpArgs false
set_option linter.unnecessarySimpa false
namespace Go.Scr.S
open Go.RowKit (Below)
/-! ### scrim/scrimlaw1.WordsKnown: function 13 -/
def scrimlaw1_WordsKnown.f (k : Nat) (a0 : Int) : Option (Bool) := (scrimlaw1_known.f k).bind fun t2 => (if (!t2) = true then (some false) else ((words_Le32.f k ([1, 2, 3, 4] : List Int)).bind fun t8 => ((words_Be64.f k ([0, 0, 0, 0, 0, 0, 1, 0] : List Int)).bind fun t13 => ((words_Be32.f k ([1, 2, 3] : List Int)).bind fun t18 => ((words_Xor.f k ([1] : List Int) ([] : List Int)).bind fun t23 => (if (!t18.2) = true then ((words_Rol32.f k 2147483649 1).bind fun t32 => ((words_Rol32.f k 1 (-1)).bind fun t48 => ((words_Rol8.f k 1 7).bind fun t65 => (if (t65 == 128) = true then ((words_Rol8.f k 150 4).bind fun t116 => ((words_Turn.f k ([18, 52] : List Int) 4).bind fun t139 => ((words_Inc.f k ([255, 255] : List Int)).bind fun t162 => (if ((strOf t162).toList == (⟨#[0, 0]⟩ : ByteArray).toList) = true then ((words_Inc.f k ([0, 1, 255] : List Int)).bind fun t172 => ((words_Inc.f k ([] : List Int)).bind fun t178 => ((words_PutLe32.f k 16909060).bind fun t184 => ((scrimlaw1_within.f k a0 10).bind fun t193 => (if (decide (0 ≤ t193)) = true then (if (decide (t193 < (10 : Int))) = true then (some (rdb ([(t8.1 == 67305985), (t13.1 == 256), !t23.2, (t32 == 3), (t48 == 2147483648), (t116 == 105), ((strOf t139).toList == (⟨#[35, 65]⟩ : ByteArray).toList), ((strOf t172).toList == (⟨#[0, 2, 0]⟩ : ByteArray).toList), ((t178.length : Int) == 0), ((strOf t184).toList == (⟨#[4, 3, 2, 1]⟩ : ByteArray).toList)] : List Bool) t193)) else (none)) else (none)))))) else ((words_Inc.f k ([] : List Int)).bind fun t198 => ((words_PutLe32.f k 16909060).bind fun t204 => ((scrimlaw1_within.f k a0 10).bind fun t213 => (if (decide (0 ≤ t213)) = true then (if (decide (t213 < (10 : Int))) = true then (some (rdb ([(t8.1 == 67305985), (t13.1 == 256), !t23.2, (t32 == 3), (t48 == 2147483648), (t116 == 105), ((strOf t139).toList == (⟨#[35, 65]⟩ : ByteArray).toList), false, ((t198.length : Int) == 0), ((strOf t204).toList == (⟨#[4, 3, 2, 1]⟩ : ByteArray).toList)] : List Bool) t213)) else (none)) else (none))))))))) else ((words_Turn.f k ([18, 52] : List Int) 4).bind fun t400 => ((words_Inc.f k ([255, 255] : List Int)).bind fun t423 => (if ((strOf t423).toList == (⟨#[0, 0]⟩ : ByteArray).toList) = true then ((words_Inc.f k ([0, 1, 255] : List Int)).bind fun t433 => ((words_Inc.f k ([] : List Int)).bind fun t439 => ((words_PutLe32.f k 16909060).bind fun t445 => ((scrimlaw1_within.f k a0 10).bind fun t454 => (if (decide (0 ≤ t454)) = true then (if (decide (t454 < (10 : Int))) = true then (some (rdb ([(t8.1 == 67305985), (t13.1 == 256), !t23.2, (t32 == 3), (t48 == 2147483648), false, ((strOf t400).toList == (⟨#[35, 65]⟩ : ByteArray).toList), ((strOf t433).toList == (⟨#[0, 2, 0]⟩ : ByteArray).toList), ((t439.length : Int) == 0), ((strOf t445).toList == (⟨#[4, 3, 2, 1]⟩ : ByteArray).toList)] : List Bool) t454)) else (none)) else (none)))))) else ((words_Inc.f k ([] : List Int)).bind fun t459 => ((words_PutLe32.f k 16909060).bind fun t465 => ((scrimlaw1_within.f k a0 10).bind fun t474 => (if (decide (0 ≤ t474)) = true then (if (decide (t474 < (10 : Int))) = true then (some (rdb ([(t8.1 == 67305985), (t13.1 == 256), !t23.2, (t32 == 3), (t48 == 2147483648), false, ((strOf t400).toList == (⟨#[35, 65]⟩ : ByteArray).toList), false, ((t459.length : Int) == 0), ((strOf t465).toList == (⟨#[4, 3, 2, 1]⟩ : ByteArray).toList)] : List Bool) t474)) else (none)) else (none)))))))))))) else ((words_Rol32.f k 2147483649 1).bind fun t583 => ((words_Rol32.f k 1 (-1)).bind fun t599 => ((words_Rol8.f k 1 7).bind fun t616 => (if (t616 == 128) = true then ((words_Rol8.f k 150 4).bind fun t667 => ((words_Turn.f k ([18, 52] : List Int) 4).bind fun t690 => ((words_Inc.f k ([255, 255] : List Int)).bind fun t713 => (if ((strOf t713).toList == (⟨#[0, 0]⟩ : ByteArray).toList) = true then ((words_Inc.f k ([0, 1, 255] : List Int)).bind fun t723 => ((words_Inc.f k ([] : List Int)).bind fun t729 => ((words_PutLe32.f k 16909060).bind fun t735 => ((scrimlaw1_within.f k a0 10).bind fun t744 => (if (decide (0 ≤ t744)) = true then (if (decide (t744 < (10 : Int))) = true then (some (rdb ([(t8.1 == 67305985), (t13.1 == 256), false, (t583 == 3), (t599 == 2147483648), (t667 == 105), ((strOf t690).toList == (⟨#[35, 65]⟩ : ByteArray).toList), ((strOf t723).toList == (⟨#[0, 2, 0]⟩ : ByteArray).toList), ((t729.length : Int) == 0), ((strOf t735).toList == (⟨#[4, 3, 2, 1]⟩ : ByteArray).toList)] : List Bool) t744)) else (none)) else (none)))))) else ((words_Inc.f k ([] : List Int)).bind fun t749 => ((words_PutLe32.f k 16909060).bind fun t755 => ((scrimlaw1_within.f k a0 10).bind fun t764 => (if (decide (0 ≤ t764)) = true then (if (decide (t764 < (10 : Int))) = true then (some (rdb ([(t8.1 == 67305985), (t13.1 == 256), false, (t583 == 3), (t599 == 2147483648), (t667 == 105), ((strOf t690).toList == (⟨#[35, 65]⟩ : ByteArray).toList), false, ((t749.length : Int) == 0), ((strOf t755).toList == (⟨#[4, 3, 2, 1]⟩ : ByteArray).toList)] : List Bool) t764)) else (none)) else (none))))))))) else ((words_Turn.f k ([18, 52] : List Int) 4).bind fun t951 => ((words_Inc.f k ([255, 255] : List Int)).bind fun t974 => (if ((strOf t974).toList == (⟨#[0, 0]⟩ : ByteArray).toList) = true then ((words_Inc.f k ([0, 1, 255] : List Int)).bind fun t984 => ((words_Inc.f k ([] : List Int)).bind fun t990 => ((words_PutLe32.f k 16909060).bind fun t996 => ((scrimlaw1_within.f k a0 10).bind fun t1005 => (if (decide (0 ≤ t1005)) = true then (if (decide (t1005 < (10 : Int))) = true then (some (rdb ([(t8.1 == 67305985), (t13.1 == 256), false, (t583 == 3), (t599 == 2147483648), false, ((strOf t951).toList == (⟨#[35, 65]⟩ : ByteArray).toList), ((strOf t984).toList == (⟨#[0, 2, 0]⟩ : ByteArray).toList), ((t990.length : Int) == 0), ((strOf t996).toList == (⟨#[4, 3, 2, 1]⟩ : ByteArray).toList)] : List Bool) t1005)) else (none)) else (none)))))) else ((words_Inc.f k ([] : List Int)).bind fun t1010 => ((words_PutLe32.f k 16909060).bind fun t1016 => ((scrimlaw1_within.f k a0 10).bind fun t1025 => (if (decide (0 ≤ t1025)) = true then (if (decide (t1025 < (10 : Int))) = true then (some (rdb ([(t8.1 == 67305985), (t13.1 == 256), false, (t583 == 3), (t599 == 2147483648), false, ((strOf t951).toList == (⟨#[35, 65]⟩ : ByteArray).toList), false, ((t1010.length : Int) == 0), ((strOf t1016).toList == (⟨#[4, 3, 2, 1]⟩ : ByteArray).toList)] : List Bool) t1025)) else (none)) else (none))))))))))))))))))
set_option maxRecDepth 100000 in
set_option maxHeartbeats 8000000 in
theorem scrimlaw1_WordsKnown.calls (k : Nat) (a0 : Int) (r : Bool) (w : World) (h : scrimlaw1_WordsKnown.f k a0 = some r) :
    Calls Go.Proofs.Try.prog 13 #[.int .i64 a0] w (Ret fun v w' => v = .bool r ∧ Mem w w' []) := by
  unfold scrimlaw1_WordsKnown.f at h
  refine calls_of [.int .i64 a0] (fn := Go.Proofs.Try.f13) Go.Proofs.Try.func13 (by kernel_rfl) (by kernel_rfl) ?_
  have hM := Mem.refl w
  refine RunF.go 7 [0] (k' := (pin Go.Proofs.Try.f13 [1, 0, 0] 0)) (L' := [(0, .int .i64 a0)]) (w' := w) (by kernel_rfl) ?_
  obtain ⟨t2, ht2, h⟩ := Option.bind_eq_some_iff.mp h
  refine RunF.call (d := some 12) (g := 14) (args := #[]) (k2 := (pin Go.Proofs.Try.f13 [1, 0, 0] 1)) (by kernel_rfl) (scrimlaw1_known.calls k t2 _ ht2) ?_
  rintro _ W1 ⟨rfl, hM_⟩
  replace hM := hM.call hM_
  clear hM_ ht2
  refine RunF.go 2 [0, 13] (k' := (pl Go.Proofs.Try.f13 [1, 0, 1])) (L' := [(0, .int .i64 a0), (13, .bool (!t2))]) (w' := W1) (by kernel_rfl) ?_
  rcases two (!t2) with c3 | c3
  · replace h := of_true h c3
    refine RunF.know 13 (b := true) (by kernel_rfl) c3 ?_
    refine RunF.go 5 [2] (k' := (pl Go.Proofs.Try.f13 [1, 0, 1, 0, 1])) (L' := [(2, .bool false)]) (w' := W1) (by kernel_rfl) ?_
    obtain rfl := Option.some.inj h
    exact RunF.ret1 2 (.bool false) (fn := Go.Proofs.Try.f13) Go.Proofs.Try.func13 (by kernel_rfl) (by kernel_rfl) (by kernel_rfl) ⟨_, rfl, rfl, (hM.pick [] rfl rfl)⟩
  · replace h := of_false h c3
    refine RunF.know 13 (b := false) (by kernel_rfl) c3 ?_
    refine RunF.go 4 [0] (k' := (pin Go.Proofs.Try.f13 [1, 1, 0] 0)) (L' := [(0, .int .i64 a0)]) (w' := W1) (by kernel_rfl) ?_
    refine RunF.new 5 1 4 (nums .u8 [1, 2, 3, 4]) (d := some 15) (k2 := (pin Go.Proofs.Try.f13 [1, 1, 0] 1)) hM (by simp [nums, bools, strs]) (by kernel_rfl) (by kernel_rfl) ?_
    replace hM := hM
    intro g4 W5 hM
    obtain ⟨t8, ht8, h⟩ := Option.bind_eq_some_iff.mp h
    refine RunF.call (d := some 16) (g := 22) (args := #[.slice (some ⟨g4, 0, none⟩) 4 4]) (k2 := (pin Go.Proofs.Try.f13 [1, 1, 0] 2)) (by kernel_rfl) (words_Le32.calls k (some ⟨g4, 0, none⟩) 4 4 ([1, 2, 3, 4] : List Int) t8 _ (hM.rd 0 rfl) ht8) ?_
    rintro _ W7 ⟨rfl, hM_⟩
    replace hM := hM.call hM_
    clear hM_ ht8
    refine RunF.go 8 [0, 3] (k' := (pin Go.Proofs.Try.f13 [1, 1, 1, 0] 0)) (L' := [(0, .int .i64 a0), (3, .int .u32 t8.1)]) (w' := W7) (by kernel_rfl) ?_
    refine RunF.new 5 1 8 (nums .u8 [0, 0, 0, 0, 0, 0, 1, 0]) (d := some 20) (k2 := (pin Go.Proofs.Try.f13 [1, 1, 1, 0] 1)) hM (by simp [nums, bools, strs]) (by kernel_rfl) (by kernel_rfl) ?_
    replace hM := hM
    intro g9 W10 hM
    obtain ⟨t13, ht13, h⟩ := Option.bind_eq_some_iff.mp h
    refine RunF.call (d := some 21) (g := 24) (args := #[.slice (some ⟨g9, 0, none⟩) 8 8]) (k2 := (pin Go.Proofs.Try.f13 [1, 1, 1, 0] 2)) (by kernel_rfl) (words_Be64.calls k (some ⟨g9, 0, none⟩) 8 8 ([0, 0, 0, 0, 0, 0, 1, 0] : List Int) t13 _ (hM.rd 0 rfl) ht13) ?_
    rintro _ W12 ⟨rfl, hM_⟩
    replace hM := hM.call hM_
    clear hM_ ht13
    refine RunF.go 8 [0, 3, 5] (k' := (pin Go.Proofs.Try.f13 [1, 1, 1, 1, 0] 0)) (L' := [(0, .int .i64 a0), (3, .int .u32 t8.1), (5, .int .u64 t13.1)]) (w' := W12) (by kernel_rfl) ?_
    refine RunF.new 5 1 3 (nums .u8 [1, 2, 3]) (d := some 25) (k2 := (pin Go.Proofs.Try.f13 [1, 1, 1, 1, 0] 1)) hM (by simp [nums, bools, strs]) (by kernel_rfl) (by kernel_rfl) ?_
    replace hM := hM
    intro g14 W15 hM
    obtain ⟨t18, ht18, h⟩ := Option.bind_eq_some_iff.mp h
    refine RunF.call (d := some 26) (g := 18) (args := #[.slice (some ⟨g14, 0, none⟩) 3 3]) (k2 := (pin Go.Proofs.Try.f13 [1, 1, 1, 1, 0] 2)) (by kernel_rfl) (words_Be32.calls k (some ⟨g14, 0, none⟩) 3 3 ([1, 2, 3] : List Int) t18 _ (hM.rd 0 rfl) ht18) ?_
    rintro _ W17 ⟨rfl, hM_⟩
    replace hM := hM.call hM_
    clear hM_ ht18
    refine RunF.go 8 [0, 3, 5, 8] (k' := (pin Go.Proofs.Try.f13 [1, 1, 1, 1, 1, 0] 0)) (L' := [(0, .int .i64 a0), (3, .int .u32 t8.1), (5, .int .u64 t13.1), (8, .bool t18.2)]) (w' := W17) (by kernel_rfl) ?_
    refine RunF.new 5 1 1 (nums .u8 [1]) (d := some 30) (k2 := (pin Go.Proofs.Try.f13 [1, 1, 1, 1, 1, 0] 1)) hM (by simp [nums, bools, strs]) (by kernel_rfl) (by kernel_rfl) ?_
    replace hM := hM
    intro g19 W20 hM
    obtain ⟨t23, ht23, h⟩ := Option.bind_eq_some_iff.mp h
    refine RunF.call (d := some 31) (g := 19) (args := #[.slice (some ⟨g19, 0, none⟩) 1 1, .slice none 0 0]) (k2 := (pin Go.Proofs.Try.f13 [1, 1, 1, 1, 1, 0] 2)) (by kernel_rfl) (words_Xor.calls k (some ⟨g19, 0, none⟩) 1 1 ([1] : List Int) none 0 0 ([] : List Int) t23 _ (hM.rd 0 rfl) (Rd.nil _ .u8) ht23) ?_
    rintro _ W22 ⟨A24, n25, c26, rfl, hM_⟩
    obtain rfl : t23.1.length = n25 := by have h_ := (hM_.rd 0 rfl).1; simpa [nums_length, bools_length, strs_length] using h_
    replace hM := hM.call hM_
    clear hM_ ht23
    refine RunF.go 7 [0, 3, 5, 8, 10] (k' := (pl Go.Proofs.Try.f13 [1, 1, 1, 1, 1, 1, 0])) (L' := [(0, .int .i64 a0), (3, .int .u32 t8.1), (5, .int .u64 t13.1), (8, .bool t18.2), (10, .bool t23.2)]) (w' := W22) (by kernel_rfl) ?_
    refine RunF.draw (Still ({ W22 with drawn := W22.drawn + 1 } : World) []) (by kernel_rfl) (by kernel_rfl) ?_
    have hMd29 := hM.drew
    have hS := Still.refl ({ W22 with drawn := W22.drawn + 1 } : World) []
    generalize ({ W22 with drawn := W22.drawn + 1 } : World) = W28 at hMd29 hS ⊢
    replace hM := hMd29
    have hC30 : certB (opsOf (pl Go.Proofs.Try.f13 [1, 1, 1, 1, 1, 1, 0])) [0, 1, 0, 4, 0, 16, 32, 64, 192, 320, 64, 1024, 1024, 4096, 4096, 16384, 49152, 65536, 196608, 327680, 0, 1179648, 2097152, 4194304, 0, 18874368, 33554432, 67108864, 167772160, 268435456, 805306368, 1342177280, 2415919104, 4563402752, 1073741824, 17179869184, 34359738368, 17179869184, 137438953472, 274877906944, 627074148874, 2199023255551] 4398046511103 = true := by kernel_rfl
    refine RunAny.y 0 (side_of_cert hC30 (by kernel_rfl)) (yl_pure (d := some 34) (v := .int .u32 t8.1) (k2 := [.inRegion (opsOf (pl Go.Proofs.Try.f13 [1, 1, 1, 1, 1, 1, 0])) []]) fun w => by kernel_rfl) (fun _ _ => trivial) hS ?_
    refine RunAny.y 1 (side_of_cert hC30 (by kernel_rfl)) (yl_pure (d := some 35) (v := .bool (t8.1 == 67305985)) (k2 := [.inRegion (opsOf (pl Go.Proofs.Try.f13 [1, 1, 1, 1, 1, 1, 0])) []]) fun w => by kernel_rfl) (fun _ _ => trivial) hS ?_
    refine RunAny.y 2 (side_of_cert hC30 (by kernel_rfl)) (yl_pure (d := some 36) (v := .int .u64 t13.1) (k2 := [.inRegion (opsOf (pl Go.Proofs.Try.f13 [1, 1, 1, 1, 1, 1, 0])) []]) fun w => by kernel_rfl) (fun _ _ => trivial) hS ?_
    refine RunAny.y 3 (side_of_cert hC30 (by kernel_rfl)) (yl_pure (d := some 37) (v := .bool (t13.1 == 256)) (k2 := [.inRegion (opsOf (pl Go.Proofs.Try.f13 [1, 1, 1, 1, 1, 1, 0])) []]) fun w => by kernel_rfl) (fun _ _ => trivial) hS ?_
    refine RunAny.y 4 (side_of_cert hC30 (by kernel_rfl)) (yl_pure (d := some 38) (v := .bool t18.2) (k2 := [.inRegion (opsOf (pl Go.Proofs.Try.f13 [1, 1, 1, 1, 1, 1, 0])) []]) fun w => by kernel_rfl) (fun _ _ => trivial) hS ?_
    refine RunAny.y 5 (side_of_cert hC30 (by kernel_rfl)) (yl_pure (d := some 39) (v := .bool (!t18.2)) (k2 := [.inRegion (opsOf (pl Go.Proofs.Try.f13 [1, 1, 1, 1, 1, 1, 0])) []]) fun w => by kernel_rfl) (fun _ _ => trivial) hS ?_
    refine RunAny.y 6 (side_of_cert hC30 (by kernel_rfl)) (yl_pure (d := some 40) (v := .bool (!t18.2)) (k2 := [.inRegion (opsOf (pl Go.Proofs.Try.f13 [1, 1, 1, 1, 1, 1, 0])) []]) fun w => by kernel_rfl) (fun _ _ => trivial) hS ?_
    rcases two (!t18.2) with c31 | c31
    · replace h := of_true h c31
      refine RunAny.know 40 (b := true) (by kernel_rfl) c31 ?_
      refine RunAny.y 7 (side_of_cert hC30 (by kernel_rfl)) (yl_pure (d := some 41) (v := .bool t23.2) (k2 := [.inRegion (opsOf (pl Go.Proofs.Try.f13 [1, 1, 1, 1, 1, 1, 0])) []]) fun w => by kernel_rfl) (fun _ _ => trivial) hS ?_
      refine RunAny.y 8 (side_of_cert hC30 (by kernel_rfl)) (yl_pure (d := some 42) (v := .bool (!t23.2)) (k2 := [.inRegion (opsOf (pl Go.Proofs.Try.f13 [1, 1, 1, 1, 1, 1, 0])) []]) fun w => by kernel_rfl) (fun _ _ => trivial) hS ?_
      refine RunAny.y 9 (side_of_cert hC30 (by kernel_rfl)) (yl_pure (d := some 43) (v := .bool (!t23.2)) (k2 := [.inRegion (opsOf (pl Go.Proofs.Try.f13 [1, 1, 1, 1, 1, 1, 0])) []]) fun w => by kernel_rfl) (fun _ _ => trivial) hS ?_
      obtain ⟨t32, ht32, h⟩ := Option.bind_eq_some_iff.mp h
      obtain ⟨t48, ht48, h⟩ := Option.bind_eq_some_iff.mp h
      obtain ⟨t65, ht65, h⟩ := Option.bind_eq_some_iff.mp h
      rcases two ((t65 == 128)) with c67 | c67
      · replace h := of_true h c67
        obtain ⟨t116, ht116, h⟩ := Option.bind_eq_some_iff.mp h
        obtain ⟨t139, ht139, h⟩ := Option.bind_eq_some_iff.mp h
        have J159 : ∀ (g69 : Nat) (A152 : Option Addr) (c154 : Nat) (g76 : Nat) (W160 : World) (hS : Still W160 [] W160) (hM : Mem w W160 [⟨.slice (some ⟨g69, 0, none⟩) 2 2, 5, 1, nums .u8 [18, 52]⟩, ⟨.slice A152 t139.length c154, 5, 1, nums .u8 t139⟩, ⟨.slice (some ⟨g76, 0, none⟩) 2 2, 5, 1, nums .u8 [255, 255]⟩, ⟨.slice A24 t23.1.length c26, 5, 1, nums .u8 t23.1⟩, ⟨.slice (some ⟨g19, 0, none⟩) 1 1, 5, 1, nums .u8 [1]⟩, ⟨.slice (some ⟨g14, 0, none⟩) 3 3, 5, 1, nums .u8 [1, 2, 3]⟩, ⟨.slice (some ⟨g9, 0, none⟩) 8 8, 5, 1, nums .u8 [0, 0, 0, 0, 0, 0, 1, 0]⟩, ⟨.slice (some ⟨g4, 0, none⟩) 4 4, 5, 1, nums .u8 [1, 2, 3, 4]⟩]) , RunAny Go.Proofs.Try.prog (Ret fun v w' => v = .bool r ∧ Mem w w' []) 13 (rest1 (pl Go.Proofs.Try.f13 [1, 1, 1, 1, 1, 1, 0])) 82 (opsOf (pl Go.Proofs.Try.f13 [1, 1, 1, 1, 1, 1, 0])) (Still W160 []) 17 [0, 1, 2, 3, 4, 5, 6, 7, 8, 9, 20, 24, 10, 11, 12, 13, 14, 15, 16, 17, 18, 19, 21, 22, 23] [(0, .int .i64 a0), (3, .int .u32 t8.1), (5, .int .u64 t13.1), (8, .bool t18.2), (10, .bool t23.2), (35, .bool (t8.1 == 67305985)), (37, .bool (t13.1 == 256)), (43, .bool (!t23.2)), (45, .bool (t32 == 3)), (47, .bool (t48 == 2147483648)), (53, .bool (t116 == 105)), (57, .bool ((strOf t139).toList == (⟨#[35, 65]⟩ : ByteArray).toList)), (58, .slice (some ⟨g76, 0, none⟩) 2 2)] W160 := by
          intro g69 A152 c154 g76 W160 hS hM 
          obtain ⟨t162, ht162, h⟩ := Option.bind_eq_some_iff.mp h
          refine RunAny.call 25 (d := some 59) (g := 16) (args := #[.slice (some ⟨g76, 0, none⟩) 2 2]) (ready_of_cert hC30 (by kernel_rfl)) (by kernel_rfl) (words_Inc.calls k (some ⟨g76, 0, none⟩) 2 2 ([255, 255] : List Int) t162 _ (hM.rd 2 rfl) ht162) (by rintro _ _ ⟨_, _, _, rfl, hM_⟩; exact hS.below hM_.below) ?_
          rintro _ W161 ⟨A163, n164, c165, rfl, hM_⟩
          obtain rfl : t162.length = n164 := by have h_ := (hM_.rd 0 rfl).1; simpa [nums_length, bools_length, strs_length] using h_
          replace hS := hS.below hM_.below
          replace hM := hM.call hM_
          clear hM_ ht162
          refine RunAny.rebase hS ?_
          replace hS := Still.refl W161 []
          refine RunAny.y 26 (side_of_cert hC30 (by kernel_rfl)) (str_y (d := some 60) (A := A163) (m := t162.length) (c := c165) (k2 := [.inRegion (opsOf (pl Go.Proofs.Try.f13 [1, 1, 1, 1, 1, 1, 0])) []]) t162 (by kernel_rfl)) (fun _ hs => ((hM.rd 0 rfl).still hs (by simp))) hS ?_
          refine RunAny.y 27 (side_of_cert hC30 (by kernel_rfl)) (yl_pure (d := some 61) (v := .bool ((strOf t162).toList == (⟨#[0, 0]⟩ : ByteArray).toList)) (k2 := [.inRegion (opsOf (pl Go.Proofs.Try.f13 [1, 1, 1, 1, 1, 1, 0])) []]) fun w => by kernel_rfl) (fun _ _ => trivial) hS ?_
          refine RunAny.y 28 (side_of_cert hC30 (by kernel_rfl)) (yl_pure (d := some 62) (v := .bool ((strOf t162).toList == (⟨#[0, 0]⟩ : ByteArray).toList)) (k2 := [.inRegion (opsOf (pl Go.Proofs.Try.f13 [1, 1, 1, 1, 1, 1, 0])) []]) fun w => by kernel_rfl) (fun _ _ => trivial) hS ?_
          rcases two (((strOf t162).toList == (⟨#[0, 0]⟩ : ByteArray).toList)) with c167 | c167
          · replace h := of_true h c167
            refine RunAny.know 62 (b := true) (by kernel_rfl) c167 ?_
            refine RunAny.new 29 5 1 3 (nums .u8 [0, 1, 255]) (d := some 63) (k2 := [.inRegion (opsOf (pl Go.Proofs.Try.f13 [1, 1, 1, 1, 1, 1, 0])) []]) (ready_of_cert hC30 (by kernel_rfl)) hM (by simp [nums, bools, strs]) (by kernel_rfl) (by kernel_rfl) hS ?_
            intro g168 W169 hS hM
            refine RunAny.rebase hS ?_
            replace hS := Still.refl W169 []
            obtain ⟨t172, ht172, h⟩ := Option.bind_eq_some_iff.mp h
            refine RunAny.call 30 (d := some 64) (g := 16) (args := #[.slice (some ⟨g168, 0, none⟩) 3 3]) (ready_of_cert hC30 (by kernel_rfl)) (by kernel_rfl) (words_Inc.calls k (some ⟨g168, 0, none⟩) 3 3 ([0, 1, 255] : List Int) t172 _ (hM.rd 0 rfl) ht172) (by rintro _ _ ⟨_, _, _, rfl, hM_⟩; exact hS.below hM_.below) ?_
            rintro _ W171 ⟨A173, n174, c175, rfl, hM_⟩
            obtain rfl : t172.length = n174 := by have h_ := (hM_.rd 0 rfl).1; simpa [nums_length, bools_length, strs_length] using h_
            replace hS := hS.below hM_.below
            replace hM := hM.call hM_
            clear hM_ ht172
            refine RunAny.rebase hS ?_
            replace hS := Still.refl W171 []
            refine RunAny.y 31 (side_of_cert hC30 (by kernel_rfl)) (str_y (d := some 65) (A := A173) (m := t172.length) (c := c175) (k2 := [.inRegion (opsOf (pl Go.Proofs.Try.f13 [1, 1, 1, 1, 1, 1, 0])) []]) t172 (by kernel_rfl)) (fun _ hs => ((hM.rd 0 rfl).still hs (by simp))) hS ?_
            refine RunAny.y 32 (side_of_cert hC30 (by kernel_rfl)) (yl_pure (d := some 66) (v := .bool ((strOf t172).toList == (⟨#[0, 2, 0]⟩ : ByteArray).toList)) (k2 := [.inRegion (opsOf (pl Go.Proofs.Try.f13 [1, 1, 1, 1, 1, 1, 0])) []]) fun w => by kernel_rfl) (fun _ _ => trivial) hS ?_
            refine RunAny.y 33 (side_of_cert hC30 (by kernel_rfl)) (yl_pure (d := some 67) (v := .bool ((strOf t172).toList == (⟨#[0, 2, 0]⟩ : ByteArray).toList)) (k2 := [.inRegion (opsOf (pl Go.Proofs.Try.f13 [1, 1, 1, 1, 1, 1, 0])) []]) fun w => by kernel_rfl) (fun _ _ => trivial) hS ?_
            obtain ⟨t178, ht178, h⟩ := Option.bind_eq_some_iff.mp h
            refine RunAny.call 34 (d := some 68) (g := 16) (args := #[.slice none 0 0]) (ready_of_cert hC30 (by kernel_rfl)) (by kernel_rfl) (words_Inc.calls k none 0 0 ([] : List Int) t178 _ (Rd.nil _ .u8) ht178) (by rintro _ _ ⟨_, _, _, rfl, hM_⟩; exact hS.below hM_.below) ?_
            rintro _ W177 ⟨A179, n180, c181, rfl, hM_⟩
            obtain rfl : t178.length = n180 := by have h_ := (hM_.rd 0 rfl).1; simpa [nums_length, bools_length, strs_length] using h_
            replace hS := hS.below hM_.below
            replace hM := hM.call hM_
            clear hM_ ht178
            refine RunAny.rebase hS ?_
            replace hS := Still.refl W177 []
            refine RunAny.y 35 (side_of_cert hC30 (by kernel_rfl)) (yl_pure (d := some 69) (v := .int .i64 (t178.length : Int)) (k2 := [.inRegion (opsOf (pl Go.Proofs.Try.f13 [1, 1, 1, 1, 1, 1, 0])) []]) fun w => by kernel_rfl) (fun _ _ => trivial) hS ?_
            refine RunAny.y 36 (side_of_cert hC30 (by kernel_rfl)) (yl_pure (d := some 70) (v := .bool ((t178.length : Int) == 0)) (k2 := [.inRegion (opsOf (pl Go.Proofs.Try.f13 [1, 1, 1, 1, 1, 1, 0])) []]) fun w => by kernel_rfl) (fun _ _ => trivial) hS ?_
            obtain ⟨t184, ht184, h⟩ := Option.bind_eq_some_iff.mp h
            refine RunAny.call 37 (d := some 71) (g := 34) (args := #[.int .u32 16909060]) (ready_of_cert hC30 (by kernel_rfl)) (by kernel_rfl) (words_PutLe32.calls k 16909060 t184 _ ht184) (by rintro _ _ ⟨_, _, _, rfl, hM_⟩; exact hS.below hM_.below) ?_
            rintro _ W183 ⟨A185, n186, c187, rfl, hM_⟩
            obtain rfl : t184.length = n186 := by have h_ := (hM_.rd 0 rfl).1; simpa [nums_length, bools_length, strs_length] using h_
            replace hS := hS.below hM_.below
            replace hM := hM.call hM_
            clear hM_ ht184
            refine RunAny.rebase hS ?_
            replace hS := Still.refl W183 []
            refine RunAny.y 38 (side_of_cert hC30 (by kernel_rfl)) (str_y (d := some 72) (A := A185) (m := t184.length) (c := c187) (k2 := [.inRegion (opsOf (pl Go.Proofs.Try.f13 [1, 1, 1, 1, 1, 1, 0])) []]) t184 (by kernel_rfl)) (fun _ hs => ((hM.rd 0 rfl).still hs (by simp))) hS ?_
            refine RunAny.y 39 (side_of_cert hC30 (by kernel_rfl)) (yl_pure (d := some 73) (v := .bool ((strOf t184).toList == (⟨#[4, 3, 2, 1]⟩ : ByteArray).toList)) (k2 := [.inRegion (opsOf (pl Go.Proofs.Try.f13 [1, 1, 1, 1, 1, 1, 0])) []]) fun w => by kernel_rfl) (fun _ _ => trivial) hS ?_
            refine RunAny.new 40 4 1 10 (bools [(t8.1 == 67305985), (t13.1 == 256), !t23.2, (t32 == 3), (t48 == 2147483648), (t116 == 105), ((strOf t139).toList == (⟨#[35, 65]⟩ : ByteArray).toList), ((strOf t172).toList == (⟨#[0, 2, 0]⟩ : ByteArray).toList), ((t178.length : Int) == 0), ((strOf t184).toList == (⟨#[4, 3, 2, 1]⟩ : ByteArray).toList)]) (d := some 74) (k2 := [.inRegion (opsOf (pl Go.Proofs.Try.f13 [1, 1, 1, 1, 1, 1, 0])) []]) (ready_of_cert hC30 (by kernel_rfl)) hM (by simp [nums, bools, strs]) (by kernel_rfl) (by kernel_rfl) hS ?_
            intro g189 W190 hS hM
            refine RunAny.rebase hS ?_
            replace hS := Still.refl W190 []
            refine RunAny.y 41 (side_of_cert hC30 (by kernel_rfl)) (yl_pure (d := some 11) (v := .slice (some ⟨g189, 0, none⟩) 10 10) (k2 := [.inRegion (opsOf (pl Go.Proofs.Try.f13 [1, 1, 1, 1, 1, 1, 0])) []]) fun w => by kernel_rfl) (fun _ _ => trivial) hS ?_
            refine RunAny.done (ready_of_cert hC30 (by kernel_rfl)) ?_
            clear hS
            refine RunF.go 6 [75, 76, 78] (k' := (pin Go.Proofs.Try.f13 [1, 1, 1, 1, 1, 1, 1, 0] 4)) (L' := [(75, .slice (some ⟨g189, 0, none⟩) 10 10), (76, .int .i64 a0), (78, .int .i64 10)]) (w' := W190) (by kernel_rfl) ?_
            obtain ⟨t193, ht193, h⟩ := Option.bind_eq_some_iff.mp h
            refine RunF.call (d := some 79) (g := 15) (args := #[.int .i64 a0, .int .i64 10]) (k2 := (pin Go.Proofs.Try.f13 [1, 1, 1, 1, 1, 1, 1, 0] 5)) (by kernel_rfl) (scrimlaw1_within.calls k a0 10 t193 _ ht193) ?_
            rintro _ W192 ⟨rfl, hM_⟩
            replace hM := hM.call hM_
            clear hM_ ht193
            rcases two (decide (0 ≤ t193)) with c195 | c195
            · replace h := of_true h c195
              rcases two (decide (t193 < (10 : Int))) with c196 | c196
              · replace h := of_true h c196
                obtain ⟨q194, hAq194, hcq194, hfq194, hlq194⟩ := hM.bool_at 0 rfl (i := t193) (of_decide_eq_true c195) (by have h_ := of_decide_eq_true c196; omega)
                refine RunF.y (idx_own (d := some 80) (A := (some ⟨g189, 0, none⟩)) (m := 10) (i := t193) (k2 := (pin Go.Proofs.Try.f13 [1, 1, 1, 1, 1, 1, 1, 0] 6)) (by kernel_rfl) (of_decide_eq_true c195) (by have h_ := of_decide_eq_true c196; omega) hAq194) trivial ?_
                refine RunF.y (ld_y (d := some 81) (p := ⟨q194, (t193 : Int).toNat, none⟩) (k2 := (pin Go.Proofs.Try.f13 [1, 1, 1, 1, 1, 1, 1, 0] 7)) (.bool (rdb ([(t8.1 == 67305985), (t13.1 == 256), !t23.2, (t32 == 3), (t48 == 2147483648), (t116 == 105), ((strOf t139).toList == (⟨#[35, 65]⟩ : ByteArray).toList), ((strOf t172).toList == (⟨#[0, 2, 0]⟩ : ByteArray).toList), ((t178.length : Int) == 0), ((strOf t184).toList == (⟨#[4, 3, 2, 1]⟩ : ByteArray).toList)] : List Bool) t193)) (by kernel_rfl)) hcq194 ?_
                refine RunF.go 2 [2] (k' := (pl Go.Proofs.Try.f13 [1, 1, 1, 1, 1, 1, 1, 1])) (L' := [(2, .bool (rdb ([(t8.1 == 67305985), (t13.1 == 256), !t23.2, (t32 == 3), (t48 == 2147483648), (t116 == 105), ((strOf t139).toList == (⟨#[35, 65]⟩ : ByteArray).toList), ((strOf t172).toList == (⟨#[0, 2, 0]⟩ : ByteArray).toList), ((t178.length : Int) == 0), ((strOf t184).toList == (⟨#[4, 3, 2, 1]⟩ : ByteArray).toList)] : List Bool) t193))]) (w' := W192) (by kernel_rfl) ?_
                obtain rfl := Option.some.inj h
                exact RunF.ret1 2 (.bool (rdb ([(t8.1 == 67305985), (t13.1 == 256), !t23.2, (t32 == 3), (t48 == 2147483648), (t116 == 105), ((strOf t139).toList == (⟨#[35, 65]⟩ : ByteArray).toList), ((strOf t172).toList == (⟨#[0, 2, 0]⟩ : ByteArray).toList), ((t178.length : Int) == 0), ((strOf t184).toList == (⟨#[4, 3, 2, 1]⟩ : ByteArray).toList)] : List Bool) t193)) (fn := Go.Proofs.Try.f13) Go.Proofs.Try.func13 (by kernel_rfl) (by kernel_rfl) (by kernel_rfl) ⟨_, rfl, rfl, (hM.pick [] rfl rfl)⟩
              · replace h := of_false h c196
                cases h
            · replace h := of_false h c195
              cases h
          · replace h := of_false h c167
            refine RunAny.know 62 (b := false) (by kernel_rfl) c167 ?_
            refine RunAny.off 29 (d := some 63) (side_of_cert hC30 (by kernel_rfl)) (by kernel_rfl) hS ?_
            refine RunAny.off 30 (d := some 64) (side_of_cert hC30 (by kernel_rfl)) (by kernel_rfl) hS ?_
            refine RunAny.off 31 (d := some 65) (side_of_cert hC30 (by kernel_rfl)) (by kernel_rfl) hS ?_
            refine RunAny.off 32 (d := some 66) (side_of_cert hC30 (by kernel_rfl)) (by kernel_rfl) hS ?_
            refine RunAny.y 33 (side_of_cert hC30 (by kernel_rfl)) (yl_pure (d := some 67) (v := .bool false) (k2 := [.inRegion (opsOf (pl Go.Proofs.Try.f13 [1, 1, 1, 1, 1, 1, 0])) []]) fun w => by kernel_rfl) (fun _ _ => trivial) hS ?_
            obtain ⟨t198, ht198, h⟩ := Option.bind_eq_some_iff.mp h
            refine RunAny.call 34 (d := some 68) (g := 16) (args := #[.slice none 0 0]) (ready_of_cert hC30 (by kernel_rfl)) (by kernel_rfl) (words_Inc.calls k none 0 0 ([] : List Int) t198 _ (Rd.nil _ .u8) ht198) (by rintro _ _ ⟨_, _, _, rfl, hM_⟩; exact hS.below hM_.below) ?_
            rintro _ W197 ⟨A199, n200, c201, rfl, hM_⟩
            obtain rfl : t198.length = n200 := by have h_ := (hM_.rd 0 rfl).1; simpa [nums_length, bools_length, strs_length] using h_
            replace hS := hS.below hM_.below
            replace hM := hM.call hM_
            clear hM_ ht198
            refine RunAny.rebase hS ?_
            replace hS := Still.refl W197 []
            refine RunAny.y 35 (side_of_cert hC30 (by kernel_rfl)) (yl_pure (d := some 69) (v := .int .i64 (t198.length : Int)) (k2 := [.inRegion (opsOf (pl Go.Proofs.Try.f13 [1, 1, 1, 1, 1, 1, 0])) []]) fun w => by kernel_rfl) (fun _ _ => trivial) hS ?_
            refine RunAny.y 36 (side_of_cert hC30 (by kernel_rfl)) (yl_pure (d := some 70) (v := .bool ((t198.length : Int) == 0)) (k2 := [.inRegion (opsOf (pl Go.Proofs.Try.f13 [1, 1, 1, 1, 1, 1, 0])) []]) fun w => by kernel_rfl) (fun _ _ => trivial) hS ?_
            obtain ⟨t204, ht204, h⟩ := Option.bind_eq_some_iff.mp h
            refine RunAny.call 37 (d := some 71) (g := 34) (args := #[.int .u32 16909060]) (ready_of_cert hC30 (by kernel_rfl)) (by kernel_rfl) (words_PutLe32.calls k 16909060 t204 _ ht204) (by rintro _ _ ⟨_, _, _, rfl, hM_⟩; exact hS.below hM_.below) ?_
            rintro _ W203 ⟨A205, n206, c207, rfl, hM_⟩
            obtain rfl : t204.length = n206 := by have h_ := (hM_.rd 0 rfl).1; simpa [nums_length, bools_length, strs_length] using h_
            replace hS := hS.below hM_.below
            replace hM := hM.call hM_
            clear hM_ ht204
            refine RunAny.rebase hS ?_
            replace hS := Still.refl W203 []
            refine RunAny.y 38 (side_of_cert hC30 (by kernel_rfl)) (str_y (d := some 72) (A := A205) (m := t204.length) (c := c207) (k2 := [.inRegion (opsOf (pl Go.Proofs.Try.f13 [1, 1, 1, 1, 1, 1, 0])) []]) t204 (by kernel_rfl)) (fun _ hs => ((hM.rd 0 rfl).still hs (by simp))) hS ?_
            refine RunAny.y 39 (side_of_cert hC30 (by kernel_rfl)) (yl_pure (d := some 73) (v := .bool ((strOf t204).toList == (⟨#[4, 3, 2, 1]⟩ : ByteArray).toList)) (k2 := [.inRegion (opsOf (pl Go.Proofs.Try.f13 [1, 1, 1, 1, 1, 1, 0])) []]) fun w => by kernel_rfl) (fun _ _ => trivial) hS ?_
            refine RunAny.new 40 4 1 10 (bools [(t8.1 == 67305985), (t13.1 == 256), !t23.2, (t32 == 3), (t48 == 2147483648), (t116 == 105), ((strOf t139).toList == (⟨#[35, 65]⟩ : ByteArray).toList), false, ((t198.length : Int) == 0), ((strOf t204).toList == (⟨#[4, 3, 2, 1]⟩ : ByteArray).toList)]) (d := some 74) (k2 := [.inRegion (opsOf (pl Go.Proofs.Try.f13 [1, 1, 1, 1, 1, 1, 0])) []]) (ready_of_cert hC30 (by kernel_rfl)) hM (by simp [nums, bools, strs]) (by kernel_rfl) (by kernel_rfl) hS ?_
            intro g209 W210 hS hM
            refine RunAny.rebase hS ?_
            replace hS := Still.refl W210 []
            refine RunAny.y 41 (side_of_cert hC30 (by kernel_rfl)) (yl_pure (d := some 11) (v := .slice (some ⟨g209, 0, none⟩) 10 10) (k2 := [.inRegion (opsOf (pl Go.Proofs.Try.f13 [1, 1, 1, 1, 1, 1, 0])) []]) fun w => by kernel_rfl) (fun _ _ => trivial) hS ?_
            refine RunAny.done (ready_of_cert hC30 (by kernel_rfl)) ?_
            clear hS
            refine RunF.go 6 [75, 76, 78] (k' := (pin Go.Proofs.Try.f13 [1, 1, 1, 1, 1, 1, 1, 0] 4)) (L' := [(75, .slice (some ⟨g209, 0, none⟩) 10 10), (76, .int .i64 a0), (78, .int .i64 10)]) (w' := W210) (by kernel_rfl) ?_
            obtain ⟨t213, ht213, h⟩ := Option.bind_eq_some_iff.mp h
            refine RunF.call (d := some 79) (g := 15) (args := #[.int .i64 a0, .int .i64 10]) (k2 := (pin Go.Proofs.Try.f13 [1, 1, 1, 1, 1, 1, 1, 0] 5)) (by kernel_rfl) (scrimlaw1_within.calls k a0 10 t213 _ ht213) ?_
            rintro _ W212 ⟨rfl, hM_⟩
            replace hM := hM.call hM_
            clear hM_ ht213
            rcases two (decide (0 ≤ t213)) with c215 | c215
            · replace h := of_true h c215
              rcases two (decide (t213 < (10 : Int))) with c216 | c216
              · replace h := of_true h c216
                obtain ⟨q214, hAq214, hcq214, hfq214, hlq214⟩ := hM.bool_at 0 rfl (i := t213) (of_decide_eq_true c215) (by have h_ := of_decide_eq_true c216; omega)
                refine RunF.y (idx_own (d := some 80) (A := (some ⟨g209, 0, none⟩)) (m := 10) (i := t213) (k2 := (pin Go.Proofs.Try.f13 [1, 1, 1, 1, 1, 1, 1, 0] 6)) (by kernel_rfl) (of_decide_eq_true c215) (by have h_ := of_decide_eq_true c216; omega) hAq214) trivial ?_
                refine RunF.y (ld_y (d := some 81) (p := ⟨q214, (t213 : Int).toNat, none⟩) (k2 := (pin Go.Proofs.Try.f13 [1, 1, 1, 1, 1, 1, 1, 0] 7)) (.bool (rdb ([(t8.1 == 67305985), (t13.1 == 256), !t23.2, (t32 == 3), (t48 == 2147483648), (t116 == 105), ((strOf t139).toList == (⟨#[35, 65]⟩ : ByteArray).toList), false, ((t198.length : Int) == 0), ((strOf t204).toList == (⟨#[4, 3, 2, 1]⟩ : ByteArray).toList)] : List Bool) t213)) (by kernel_rfl)) hcq214 ?_
                refine RunF.go 2 [2] (k' := (pl Go.Proofs.Try.f13 [1, 1, 1, 1, 1, 1, 1, 1])) (L' := [(2, .bool (rdb ([(t8.1 == 67305985), (t13.1 == 256), !t23.2, (t32 == 3), (t48 == 2147483648), (t116 == 105), ((strOf t139).toList == (⟨#[35, 65]⟩ : ByteArray).toList), false, ((t198.length : Int) == 0), ((strOf t204).toList == (⟨#[4, 3, 2, 1]⟩ : ByteArray).toList)] : List Bool) t213))]) (w' := W212) (by kernel_rfl) ?_
                obtain rfl := Option.some.inj h
                exact RunF.ret1 2 (.bool (rdb ([(t8.1 == 67305985), (t13.1 == 256), !t23.2, (t32 == 3), (t48 == 2147483648), (t116 == 105), ((strOf t139).toList == (⟨#[35, 65]⟩ : ByteArray).toList), false, ((t198.length : Int) == 0), ((strOf t204).toList == (⟨#[4, 3, 2, 1]⟩ : ByteArray).toList)] : List Bool) t213)) (fn := Go.Proofs.Try.f13) Go.Proofs.Try.func13 (by kernel_rfl) (by kernel_rfl) (by kernel_rfl) ⟨_, rfl, rfl, (hM.pick [] rfl rfl)⟩
              · replace h := of_false h c216
                cases h
            · replace h := of_false h c215
              cases h
        have J217 : ∀ (g69 : Nat) (A141 : Option Addr) (c143 : Nat) (W218 : World) (hS : Still W218 [] W218) (hM : Mem w W218 [⟨.slice (some ⟨g69, 0, none⟩) 2 2, 5, 1, nums .u8 [18, 52]⟩, ⟨.slice A141 t139.length c143, 5, 1, nums .u8 t139⟩, ⟨.slice A24 t23.1.length c26, 5, 1, nums .u8 t23.1⟩, ⟨.slice (some ⟨g19, 0, none⟩) 1 1, 5, 1, nums .u8 [1]⟩, ⟨.slice (some ⟨g14, 0, none⟩) 3 3, 5, 1, nums .u8 [1, 2, 3]⟩, ⟨.slice (some ⟨g9, 0, none⟩) 8 8, 5, 1, nums .u8 [0, 0, 0, 0, 0, 0, 1, 0]⟩, ⟨.slice (some ⟨g4, 0, none⟩) 4 4, 5, 1, nums .u8 [1, 2, 3, 4]⟩]) , RunAny Go.Proofs.Try.prog (Ret fun v w' => v = .bool r ∧ Mem w w' []) 13 (rest1 (pl Go.Proofs.Try.f13 [1, 1, 1, 1, 1, 1, 0])) 82 (opsOf (pl Go.Proofs.Try.f13 [1, 1, 1, 1, 1, 1, 0])) (Still W218 []) 18 [0, 1, 2, 3, 4, 5, 6, 7, 8, 9, 20, 10, 11, 12, 13, 14, 15, 16, 17, 18, 19, 21, 22, 23] [(0, .int .i64 a0), (3, .int .u32 t8.1), (5, .int .u64 t13.1), (8, .bool t18.2), (10, .bool t23.2), (35, .bool (t8.1 == 67305985)), (37, .bool (t13.1 == 256)), (43, .bool (!t23.2)), (45, .bool (t32 == 3)), (47, .bool (t48 == 2147483648)), (53, .bool (t116 == 105)), (57, .bool ((strOf t139).toList == (⟨#[35, 65]⟩ : ByteArray).toList))] W218 := by
          intro g69 A141 c143 W218 hS hM 
          refine RunAny.new 24 5 1 2 (nums .u8 [255, 255]) (d := some 58) (k2 := [.inRegion (opsOf (pl Go.Proofs.Try.f13 [1, 1, 1, 1, 1, 1, 0])) []]) (ready_of_cert hC30 (by kernel_rfl)) hM (by simp [nums, bools, strs]) (by kernel_rfl) (by kernel_rfl) hS ?_
          intro g219 W220 hS hM
          refine RunAny.rebase hS ?_
          replace hS := Still.refl W220 []
          exact RunAny.same [0, 1, 2, 3, 4, 5, 6, 7, 8, 9, 20, 24, 10, 11, 12, 13, 14, 15, 16, 17, 18, 19, 21, 22, 23] (lst_of_mask (by kernel_rfl)) [0, 3, 5, 8, 10, 35, 37, 43, 45, 47, 53, 57, 58] (by kernel_rfl) (J159 g69 A141 c143 g219 _ hS (hM.pick [1, 2, 0, 3, 4, 5, 6, 7] rfl rfl))
        have J222 : ∀ (g69 : Nat) (g76 : Nat) (W223 : World) (hS : Still W223 [] W223) (hM : Mem w W223 [⟨.slice (some ⟨g69, 0, none⟩) 2 2, 5, 1, nums .u8 [18, 52]⟩, ⟨.slice (some ⟨g76, 0, none⟩) 2 2, 5, 1, nums .u8 [255, 255]⟩, ⟨.slice A24 t23.1.length c26, 5, 1, nums .u8 t23.1⟩, ⟨.slice (some ⟨g19, 0, none⟩) 1 1, 5, 1, nums .u8 [1]⟩, ⟨.slice (some ⟨g14, 0, none⟩) 3 3, 5, 1, nums .u8 [1, 2, 3]⟩, ⟨.slice (some ⟨g9, 0, none⟩) 8 8, 5, 1, nums .u8 [0, 0, 0, 0, 0, 0, 1, 0]⟩, ⟨.slice (some ⟨g4, 0, none⟩) 4 4, 5, 1, nums .u8 [1, 2, 3, 4]⟩]) , RunAny Go.Proofs.Try.prog (Ret fun v w' => v = .bool r ∧ Mem w w' []) 13 (rest1 (pl Go.Proofs.Try.f13 [1, 1, 1, 1, 1, 1, 0])) 82 (opsOf (pl Go.Proofs.Try.f13 [1, 1, 1, 1, 1, 1, 0])) (Still W223 []) 20 [0, 1, 2, 3, 4, 5, 6, 7, 8, 9, 20, 24, 10, 11, 12, 13, 14, 15, 16, 17, 18, 19] [(0, .int .i64 a0), (3, .int .u32 t8.1), (5, .int .u64 t13.1), (8, .bool t18.2), (10, .bool t23.2), (35, .bool (t8.1 == 67305985)), (37, .bool (t13.1 == 256)), (43, .bool (!t23.2)), (45, .bool (t32 == 3)), (47, .bool (t48 == 2147483648)), (53, .bool (t116 == 105)), (54, .slice (some ⟨g69, 0, none⟩) 2 2), (58, .slice (some ⟨g76, 0, none⟩) 2 2)] W223 := by
          intro g69 g76 W223 hS hM 
          refine RunAny.call 21 (d := some 55) (g := 30) (args := #[.slice (some ⟨g69, 0, none⟩) 2 2, .int .i64 4]) (ready_of_cert hC30 (by kernel_rfl)) (by kernel_rfl) (words_Turn.calls k (some ⟨g69, 0, none⟩) 2 2 ([18, 52] : List Int) 4 t139 _ (hM.rd 0 rfl) ht139) (by rintro _ _ ⟨_, _, _, rfl, hM_⟩; exact hS.below hM_.below) ?_
          rintro _ W224 ⟨A225, n226, c227, rfl, hM_⟩
          obtain rfl : t139.length = n226 := by have h_ := (hM_.rd 0 rfl).1; simpa [nums_length, bools_length, strs_length] using h_
          replace hS := hS.below hM_.below
          replace hM := hM.call hM_
          clear hM_ ht139
          refine RunAny.rebase hS ?_
          replace hS := Still.refl W224 []
          refine RunAny.y 22 (side_of_cert hC30 (by kernel_rfl)) (str_y (d := some 56) (A := A225) (m := t139.length) (c := c227) (k2 := [.inRegion (opsOf (pl Go.Proofs.Try.f13 [1, 1, 1, 1, 1, 1, 0])) []]) t139 (by kernel_rfl)) (fun _ hs => ((hM.rd 0 rfl).still hs (by simp))) hS ?_
          refine RunAny.y 23 (side_of_cert hC30 (by kernel_rfl)) (yl_pure (d := some 57) (v := .bool ((strOf t139).toList == (⟨#[35, 65]⟩ : ByteArray).toList)) (k2 := [.inRegion (opsOf (pl Go.Proofs.Try.f13 [1, 1, 1, 1, 1, 1, 0])) []]) fun w => by kernel_rfl) (fun _ _ => trivial) hS ?_
          exact RunAny.same [0, 1, 2, 3, 4, 5, 6, 7, 8, 9, 20, 24, 10, 11, 12, 13, 14, 15, 16, 17, 18, 19, 21, 22, 23] (lst_of_mask (by kernel_rfl)) [0, 3, 5, 8, 10, 35, 37, 43, 45, 47, 53, 57, 58] (by kernel_rfl) (J159 g69 A225 c227 g76 _ hS (hM.pick [1, 0, 2, 3, 4, 5, 6, 7] rfl rfl))
        have J229 : ∀ (g72 : Nat) (W230 : World) (hS : Still W230 [] W230) (hM : Mem w W230 [⟨.slice (some ⟨g72, 0, none⟩) 2 2, 5, 1, nums .u8 [255, 255]⟩, ⟨.slice A24 t23.1.length c26, 5, 1, nums .u8 t23.1⟩, ⟨.slice (some ⟨g19, 0, none⟩) 1 1, 5, 1, nums .u8 [1]⟩, ⟨.slice (some ⟨g14, 0, none⟩) 3 3, 5, 1, nums .u8 [1, 2, 3]⟩, ⟨.slice (some ⟨g9, 0, none⟩) 8 8, 5, 1, nums .u8 [0, 0, 0, 0, 0, 0, 1, 0]⟩, ⟨.slice (some ⟨g4, 0, none⟩) 4 4, 5, 1, nums .u8 [1, 2, 3, 4]⟩]) , RunAny Go.Proofs.Try.prog (Ret fun v w' => v = .bool r ∧ Mem w w' []) 13 (rest1 (pl Go.Proofs.Try.f13 [1, 1, 1, 1, 1, 1, 0])) 82 (opsOf (pl Go.Proofs.Try.f13 [1, 1, 1, 1, 1, 1, 0])) (Still W230 []) 21 [0, 1, 2, 3, 4, 5, 6, 7, 8, 9, 24, 10, 11, 12, 13, 14, 15, 16, 17, 18, 19] [(0, .int .i64 a0), (3, .int .u32 t8.1), (5, .int .u64 t13.1), (8, .bool t18.2), (10, .bool t23.2), (35, .bool (t8.1 == 67305985)), (37, .bool (t13.1 == 256)), (43, .bool (!t23.2)), (45, .bool (t32 == 3)), (47, .bool (t48 == 2147483648)), (53, .bool (t116 == 105)), (58, .slice (some ⟨g72, 0, none⟩) 2 2)] W230 := by
          intro g72 W230 hS hM 
          refine RunAny.new 20 5 1 2 (nums .u8 [18, 52]) (d := some 54) (k2 := [.inRegion (opsOf (pl Go.Proofs.Try.f13 [1, 1, 1, 1, 1, 1, 0])) []]) (ready_of_cert hC30 (by kernel_rfl)) hM (by simp [nums, bools, strs]) (by kernel_rfl) (by kernel_rfl) hS ?_
          intro g231 W232 hS hM
          refine RunAny.rebase hS ?_
          replace hS := Still.refl W232 []
          exact RunAny.same [0, 1, 2, 3, 4, 5, 6, 7, 8, 9, 20, 24, 10, 11, 12, 13, 14, 15, 16, 17, 18, 19] (lst_of_mask (by kernel_rfl)) [0, 3, 5, 8, 10, 35, 37, 43, 45, 47, 53, 54, 58] (by kernel_rfl) (J222 g231 g72 _ hS (hM.pick [0, 1, 2, 3, 4, 5, 6] rfl rfl))
        have J234 : ∀ (g69 : Nat) (W235 : World) (hS : Still W235 [] W235) (hM : Mem w W235 [⟨.slice (some ⟨g69, 0, none⟩) 2 2, 5, 1, nums .u8 [18, 52]⟩, ⟨.slice A24 t23.1.length c26, 5, 1, nums .u8 t23.1⟩, ⟨.slice (some ⟨g19, 0, none⟩) 1 1, 5, 1, nums .u8 [1]⟩, ⟨.slice (some ⟨g14, 0, none⟩) 3 3, 5, 1, nums .u8 [1, 2, 3]⟩, ⟨.slice (some ⟨g9, 0, none⟩) 8 8, 5, 1, nums .u8 [0, 0, 0, 0, 0, 0, 1, 0]⟩, ⟨.slice (some ⟨g4, 0, none⟩) 4 4, 5, 1, nums .u8 [1, 2, 3, 4]⟩]) , RunAny Go.Proofs.Try.prog (Ret fun v w' => v = .bool r ∧ Mem w w' []) 13 (rest1 (pl Go.Proofs.Try.f13 [1, 1, 1, 1, 1, 1, 0])) 82 (opsOf (pl Go.Proofs.Try.f13 [1, 1, 1, 1, 1, 1, 0])) (Still W235 []) 21 [0, 1, 2, 3, 4, 5, 6, 7, 8, 9, 20, 10, 11, 12, 13, 14, 15, 16, 17, 18, 19] [(0, .int .i64 a0), (3, .int .u32 t8.1), (5, .int .u64 t13.1), (8, .bool t18.2), (10, .bool t23.2), (35, .bool (t8.1 == 67305985)), (37, .bool (t13.1 == 256)), (43, .bool (!t23.2)), (45, .bool (t32 == 3)), (47, .bool (t48 == 2147483648)), (53, .bool (t116 == 105)), (54, .slice (some ⟨g69, 0, none⟩) 2 2)] W235 := by
          intro g69 W235 hS hM 
          refine RunAny.all [21, 24] (ready_of_cert hC30 (by kernel_rfl)) (by simp) ?_
          refine ⟨?_, ?_, trivial⟩
          · refine Stepped.call 21 (d := some 55) (g := 30) (args := #[.slice (some ⟨g69, 0, none⟩) 2 2, .int .i64 4]) (by kernel_rfl) (words_Turn.calls k (some ⟨g69, 0, none⟩) 2 2 ([18, 52] : List Int) 4 t139 _ (hM.rd 0 rfl) ht139) (by rintro _ _ ⟨_, _, _, rfl, hM_⟩; exact hS.below hM_.below) ?_
            rintro _ W236 ⟨A237, n238, c239, rfl, hM_⟩
            obtain rfl : t139.length = n238 := by have h_ := (hM_.rd 0 rfl).1; simpa [nums_length, bools_length, strs_length] using h_
            replace hS := hS.below hM_.below
            replace hM := hM.call hM_
            clear hM_ ht139
            refine RunAny.rebase hS ?_
            replace hS := Still.refl W236 []
            refine RunAny.y 22 (side_of_cert hC30 (by kernel_rfl)) (str_y (d := some 56) (A := A237) (m := t139.length) (c := c239) (k2 := [.inRegion (opsOf (pl Go.Proofs.Try.f13 [1, 1, 1, 1, 1, 1, 0])) []]) t139 (by kernel_rfl)) (fun _ hs => ((hM.rd 0 rfl).still hs (by simp))) hS ?_
            refine RunAny.y 23 (side_of_cert hC30 (by kernel_rfl)) (yl_pure (d := some 57) (v := .bool ((strOf t139).toList == (⟨#[35, 65]⟩ : ByteArray).toList)) (k2 := [.inRegion (opsOf (pl Go.Proofs.Try.f13 [1, 1, 1, 1, 1, 1, 0])) []]) fun w => by kernel_rfl) (fun _ _ => trivial) hS ?_
            exact RunAny.same [0, 1, 2, 3, 4, 5, 6, 7, 8, 9, 20, 10, 11, 12, 13, 14, 15, 16, 17, 18, 19, 21, 22, 23] (lst_of_mask (by kernel_rfl)) [0, 3, 5, 8, 10, 35, 37, 43, 45, 47, 53, 57] (by kernel_rfl) (J217 g69 A237 c239 _ hS (hM.pick [1, 0, 2, 3, 4, 5, 6] rfl rfl))
          · refine Stepped.new 24 5 1 2 (nums .u8 [255, 255]) (d := some 58) (k2 := [.inRegion (opsOf (pl Go.Proofs.Try.f13 [1, 1, 1, 1, 1, 1, 0])) []]) hM (by simp [nums, bools, strs]) (by kernel_rfl) (by kernel_rfl) hS ?_
            intro g241 W242 hS hM
            refine RunAny.rebase hS ?_
            replace hS := Still.refl W242 []
            exact RunAny.same [0, 1, 2, 3, 4, 5, 6, 7, 8, 9, 20, 24, 10, 11, 12, 13, 14, 15, 16, 17, 18, 19] (lst_of_mask (by kernel_rfl)) [0, 3, 5, 8, 10, 35, 37, 43, 45, 47, 53, 54, 58] (by kernel_rfl) (J222 g69 g241 _ hS (hM.pick [1, 0, 2, 3, 4, 5, 6] rfl rfl))
        have J244 : ∀ (W245 : World) (hS : Still W245 [] W245) (hM : Mem w W245 [⟨.slice A24 t23.1.length c26, 5, 1, nums .u8 t23.1⟩, ⟨.slice (some ⟨g19, 0, none⟩) 1 1, 5, 1, nums .u8 [1]⟩, ⟨.slice (some ⟨g14, 0, none⟩) 3 3, 5, 1, nums .u8 [1, 2, 3]⟩, ⟨.slice (some ⟨g9, 0, none⟩) 8 8, 5, 1, nums .u8 [0, 0, 0, 0, 0, 0, 1, 0]⟩, ⟨.slice (some ⟨g4, 0, none⟩) 4 4, 5, 1, nums .u8 [1, 2, 3, 4]⟩]) , RunAny Go.Proofs.Try.prog (Ret fun v w' => v = .bool r ∧ Mem w w' []) 13 (rest1 (pl Go.Proofs.Try.f13 [1, 1, 1, 1, 1, 1, 0])) 82 (opsOf (pl Go.Proofs.Try.f13 [1, 1, 1, 1, 1, 1, 0])) (Still W245 []) 22 [0, 1, 2, 3, 4, 5, 6, 7, 8, 9, 10, 11, 12, 13, 14, 15, 16, 17, 18, 19] [(0, .int .i64 a0), (3, .int .u32 t8.1), (5, .int .u64 t13.1), (8, .bool t18.2), (10, .bool t23.2), (35, .bool (t8.1 == 67305985)), (37, .bool (t13.1 == 256)), (43, .bool (!t23.2)), (45, .bool (t32 == 3)), (47, .bool (t48 == 2147483648)), (53, .bool (t116 == 105))] W245 := by
          intro W245 hS hM 
          refine RunAny.all [20, 24] (ready_of_cert hC30 (by kernel_rfl)) (by simp) ?_
          refine ⟨?_, ?_, trivial⟩
          · refine Stepped.new 20 5 1 2 (nums .u8 [18, 52]) (d := some 54) (k2 := [.inRegion (opsOf (pl Go.Proofs.Try.f13 [1, 1, 1, 1, 1, 1, 0])) []]) hM (by simp [nums, bools, strs]) (by kernel_rfl) (by kernel_rfl) hS ?_
            intro g246 W247 hS hM
            refine RunAny.rebase hS ?_
            replace hS := Still.refl W247 []
            exact RunAny.same [0, 1, 2, 3, 4, 5, 6, 7, 8, 9, 20, 10, 11, 12, 13, 14, 15, 16, 17, 18, 19] (lst_of_mask (by kernel_rfl)) [0, 3, 5, 8, 10, 35, 37, 43, 45, 47, 53, 54] (by kernel_rfl) (J234 g246 _ hS (hM.pick [0, 1, 2, 3, 4, 5] rfl rfl))
          · refine Stepped.new 24 5 1 2 (nums .u8 [255, 255]) (d := some 58) (k2 := [.inRegion (opsOf (pl Go.Proofs.Try.f13 [1, 1, 1, 1, 1, 1, 0])) []]) hM (by simp [nums, bools, strs]) (by kernel_rfl) (by kernel_rfl) hS ?_
            intro g249 W250 hS hM
            refine RunAny.rebase hS ?_
            replace hS := Still.refl W250 []
            exact RunAny.same [0, 1, 2, 3, 4, 5, 6, 7, 8, 9, 24, 10, 11, 12, 13, 14, 15, 16, 17, 18, 19] (lst_of_mask (by kernel_rfl)) [0, 3, 5, 8, 10, 35, 37, 43, 45, 47, 53, 58] (by kernel_rfl) (J229 g249 _ hS (hM.pick [0, 1, 2, 3, 4, 5] rfl rfl))
        have J252 : ∀ (g69 : Nat) (g76 : Nat) (W253 : World) (hS : Still W253 [] W253) (hM : Mem w W253 [⟨.slice (some ⟨g69, 0, none⟩) 2 2, 5, 1, nums .u8 [18, 52]⟩, ⟨.slice (some ⟨g76, 0, none⟩) 2 2, 5, 1, nums .u8 [255, 255]⟩, ⟨.slice A24 t23.1.length c26, 5, 1, nums .u8 t23.1⟩, ⟨.slice (some ⟨g19, 0, none⟩) 1 1, 5, 1, nums .u8 [1]⟩, ⟨.slice (some ⟨g14, 0, none⟩) 3 3, 5, 1, nums .u8 [1, 2, 3]⟩, ⟨.slice (some ⟨g9, 0, none⟩) 8 8, 5, 1, nums .u8 [0, 0, 0, 0, 0, 0, 1, 0]⟩, ⟨.slice (some ⟨g4, 0, none⟩) 4 4, 5, 1, nums .u8 [1, 2, 3, 4]⟩]) , RunAny Go.Proofs.Try.prog (Ret fun v w' => v = .bool r ∧ Mem w w' []) 13 (rest1 (pl Go.Proofs.Try.f13 [1, 1, 1, 1, 1, 1, 0])) 82 (opsOf (pl Go.Proofs.Try.f13 [1, 1, 1, 1, 1, 1, 0])) (Still W253 []) 23 [0, 1, 2, 3, 4, 5, 6, 7, 8, 9, 20, 24, 10, 11, 12, 13, 14, 15, 16] [(0, .int .i64 a0), (3, .int .u32 t8.1), (5, .int .u64 t13.1), (8, .bool t18.2), (10, .bool t23.2), (35, .bool (t8.1 == 67305985)), (37, .bool (t13.1 == 256)), (43, .bool (!t23.2)), (45, .bool (t32 == 3)), (47, .bool (t48 == 2147483648)), (50, .bool true), (54, .slice (some ⟨g69, 0, none⟩) 2 2), (58, .slice (some ⟨g76, 0, none⟩) 2 2)] W253 := by
          intro g69 g76 W253 hS hM 
          refine RunAny.call 17 (d := some 51) (g := 28) (args := #[.int .u8 150, .int .i64 4]) (ready_of_cert hC30 (by kernel_rfl)) (by kernel_rfl) (words_Rol8.calls k 150 4 t116 _ ht116) (by rintro _ _ ⟨rfl, hM_⟩; exact hS.below hM_.below) ?_
          rintro _ W254 ⟨rfl, hM_⟩
          replace hS := hS.below hM_.below
          replace hM := hM.call hM_
          clear hM_ ht116
          refine RunAny.rebase hS ?_
          replace hS := Still.refl W254 []
          refine RunAny.y 18 (side_of_cert hC30 (by kernel_rfl)) (yl_pure (d := some 52) (v := .bool (t116 == 105)) (k2 := [.inRegion (opsOf (pl Go.Proofs.Try.f13 [1, 1, 1, 1, 1, 1, 0])) []]) fun w => by kernel_rfl) (fun _ _ => trivial) hS ?_
          refine RunAny.y 19 (side_of_cert hC30 (by kernel_rfl)) (yl_pure (d := some 53) (v := .bool (t116 == 105)) (k2 := [.inRegion (opsOf (pl Go.Proofs.Try.f13 [1, 1, 1, 1, 1, 1, 0])) []]) fun w => by kernel_rfl) (fun _ _ => trivial) hS ?_
          exact RunAny.same [0, 1, 2, 3, 4, 5, 6, 7, 8, 9, 20, 24, 10, 11, 12, 13, 14, 15, 16, 17, 18, 19] (lst_of_mask (by kernel_rfl)) [0, 3, 5, 8, 10, 35, 37, 43, 45, 47, 53, 54, 58] (by kernel_rfl) (J222 g69 g76 _ hS (hM.pick [0, 1, 2, 3, 4, 5, 6] rfl rfl))
        have J255 : ∀ (g72 : Nat) (W256 : World) (hS : Still W256 [] W256) (hM : Mem w W256 [⟨.slice (some ⟨g72, 0, none⟩) 2 2, 5, 1, nums .u8 [255, 255]⟩, ⟨.slice A24 t23.1.length c26, 5, 1, nums .u8 t23.1⟩, ⟨.slice (some ⟨g19, 0, none⟩) 1 1, 5, 1, nums .u8 [1]⟩, ⟨.slice (some ⟨g14, 0, none⟩) 3 3, 5, 1, nums .u8 [1, 2, 3]⟩, ⟨.slice (some ⟨g9, 0, none⟩) 8 8, 5, 1, nums .u8 [0, 0, 0, 0, 0, 0, 1, 0]⟩, ⟨.slice (some ⟨g4, 0, none⟩) 4 4, 5, 1, nums .u8 [1, 2, 3, 4]⟩]) , RunAny Go.Proofs.Try.prog (Ret fun v w' => v = .bool r ∧ Mem w w' []) 13 (rest1 (pl Go.Proofs.Try.f13 [1, 1, 1, 1, 1, 1, 0])) 82 (opsOf (pl Go.Proofs.Try.f13 [1, 1, 1, 1, 1, 1, 0])) (Still W256 []) 24 [0, 1, 2, 3, 4, 5, 6, 7, 8, 9, 24, 10, 11, 12, 13, 14, 15, 16] [(0, .int .i64 a0), (3, .int .u32 t8.1), (5, .int .u64 t13.1), (8, .bool t18.2), (10, .bool t23.2), (35, .bool (t8.1 == 67305985)), (37, .bool (t13.1 == 256)), (43, .bool (!t23.2)), (45, .bool (t32 == 3)), (47, .bool (t48 == 2147483648)), (50, .bool true), (58, .slice (some ⟨g72, 0, none⟩) 2 2)] W256 := by
          intro g72 W256 hS hM 
          refine RunAny.all [17, 20] (ready_of_cert hC30 (by kernel_rfl)) (by simp) ?_
          refine ⟨?_, ?_, trivial⟩
          · refine Stepped.call 17 (d := some 51) (g := 28) (args := #[.int .u8 150, .int .i64 4]) (by kernel_rfl) (words_Rol8.calls k 150 4 t116 _ ht116) (by rintro _ _ ⟨rfl, hM_⟩; exact hS.below hM_.below) ?_
            rintro _ W257 ⟨rfl, hM_⟩
            replace hS := hS.below hM_.below
            replace hM := hM.call hM_
            clear hM_ ht116
            refine RunAny.rebase hS ?_
            replace hS := Still.refl W257 []
            refine RunAny.y 18 (side_of_cert hC30 (by kernel_rfl)) (yl_pure (d := some 52) (v := .bool (t116 == 105)) (k2 := [.inRegion (opsOf (pl Go.Proofs.Try.f13 [1, 1, 1, 1, 1, 1, 0])) []]) fun w => by kernel_rfl) (fun _ _ => trivial) hS ?_
            refine RunAny.y 19 (side_of_cert hC30 (by kernel_rfl)) (yl_pure (d := some 53) (v := .bool (t116 == 105)) (k2 := [.inRegion (opsOf (pl Go.Proofs.Try.f13 [1, 1, 1, 1, 1, 1, 0])) []]) fun w => by kernel_rfl) (fun _ _ => trivial) hS ?_
            exact RunAny.same [0, 1, 2, 3, 4, 5, 6, 7, 8, 9, 24, 10, 11, 12, 13, 14, 15, 16, 17, 18, 19] (lst_of_mask (by kernel_rfl)) [0, 3, 5, 8, 10, 35, 37, 43, 45, 47, 53, 58] (by kernel_rfl) (J229 g72 _ hS (hM.pick [0, 1, 2, 3, 4, 5] rfl rfl))
          · refine Stepped.new 20 5 1 2 (nums .u8 [18, 52]) (d := some 54) (k2 := [.inRegion (opsOf (pl Go.Proofs.Try.f13 [1, 1, 1, 1, 1, 1, 0])) []]) hM (by simp [nums, bools, strs]) (by kernel_rfl) (by kernel_rfl) hS ?_
            intro g258 W259 hS hM
            refine RunAny.rebase hS ?_
            replace hS := Still.refl W259 []
            exact RunAny.same [0, 1, 2, 3, 4, 5, 6, 7, 8, 9, 20, 24, 10, 11, 12, 13, 14, 15, 16] (lst_of_mask (by kernel_rfl)) [0, 3, 5, 8, 10, 35, 37, 43, 45, 47, 50, 54, 58] (by kernel_rfl) (J252 g258 g72 _ hS (hM.pick [0, 1, 2, 3, 4, 5, 6] rfl rfl))
        have J261 : ∀ (g69 : Nat) (W262 : World) (hS : Still W262 [] W262) (hM : Mem w W262 [⟨.slice (some ⟨g69, 0, none⟩) 2 2, 5, 1, nums .u8 [18, 52]⟩, ⟨.slice A24 t23.1.length c26, 5, 1, nums .u8 t23.1⟩, ⟨.slice (some ⟨g19, 0, none⟩) 1 1, 5, 1, nums .u8 [1]⟩, ⟨.slice (some ⟨g14, 0, none⟩) 3 3, 5, 1, nums .u8 [1, 2, 3]⟩, ⟨.slice (some ⟨g9, 0, none⟩) 8 8, 5, 1, nums .u8 [0, 0, 0, 0, 0, 0, 1, 0]⟩, ⟨.slice (some ⟨g4, 0, none⟩) 4 4, 5, 1, nums .u8 [1, 2, 3, 4]⟩]) , RunAny Go.Proofs.Try.prog (Ret fun v w' => v = .bool r ∧ Mem w w' []) 13 (rest1 (pl Go.Proofs.Try.f13 [1, 1, 1, 1, 1, 1, 0])) 82 (opsOf (pl Go.Proofs.Try.f13 [1, 1, 1, 1, 1, 1, 0])) (Still W262 []) 24 [0, 1, 2, 3, 4, 5, 6, 7, 8, 9, 20, 10, 11, 12, 13, 14, 15, 16] [(0, .int .i64 a0), (3, .int .u32 t8.1), (5, .int .u64 t13.1), (8, .bool t18.2), (10, .bool t23.2), (35, .bool (t8.1 == 67305985)), (37, .bool (t13.1 == 256)), (43, .bool (!t23.2)), (45, .bool (t32 == 3)), (47, .bool (t48 == 2147483648)), (50, .bool true), (54, .slice (some ⟨g69, 0, none⟩) 2 2)] W262 := by
          intro g69 W262 hS hM 
          refine RunAny.all [17, 24] (ready_of_cert hC30 (by kernel_rfl)) (by simp) ?_
          refine ⟨?_, ?_, trivial⟩
          · refine Stepped.call 17 (d := some 51) (g := 28) (args := #[.int .u8 150, .int .i64 4]) (by kernel_rfl) (words_Rol8.calls k 150 4 t116 _ ht116) (by rintro _ _ ⟨rfl, hM_⟩; exact hS.below hM_.below) ?_
            rintro _ W263 ⟨rfl, hM_⟩
            replace hS := hS.below hM_.below
            replace hM := hM.call hM_
            clear hM_ ht116
            refine RunAny.rebase hS ?_
            replace hS := Still.refl W263 []
            refine RunAny.y 18 (side_of_cert hC30 (by kernel_rfl)) (yl_pure (d := some 52) (v := .bool (t116 == 105)) (k2 := [.inRegion (opsOf (pl Go.Proofs.Try.f13 [1, 1, 1, 1, 1, 1, 0])) []]) fun w => by kernel_rfl) (fun _ _ => trivial) hS ?_
            refine RunAny.y 19 (side_of_cert hC30 (by kernel_rfl)) (yl_pure (d := some 53) (v := .bool (t116 == 105)) (k2 := [.inRegion (opsOf (pl Go.Proofs.Try.f13 [1, 1, 1, 1, 1, 1, 0])) []]) fun w => by kernel_rfl) (fun _ _ => trivial) hS ?_
            exact RunAny.same [0, 1, 2, 3, 4, 5, 6, 7, 8, 9, 20, 10, 11, 12, 13, 14, 15, 16, 17, 18, 19] (lst_of_mask (by kernel_rfl)) [0, 3, 5, 8, 10, 35, 37, 43, 45, 47, 53, 54] (by kernel_rfl) (J234 g69 _ hS (hM.pick [0, 1, 2, 3, 4, 5] rfl rfl))
          · refine Stepped.new 24 5 1 2 (nums .u8 [255, 255]) (d := some 58) (k2 := [.inRegion (opsOf (pl Go.Proofs.Try.f13 [1, 1, 1, 1, 1, 1, 0])) []]) hM (by simp [nums, bools, strs]) (by kernel_rfl) (by kernel_rfl) hS ?_
            intro g264 W265 hS hM
            refine RunAny.rebase hS ?_
            replace hS := Still.refl W265 []
            exact RunAny.same [0, 1, 2, 3, 4, 5, 6, 7, 8, 9, 20, 24, 10, 11, 12, 13, 14, 15, 16] (lst_of_mask (by kernel_rfl)) [0, 3, 5, 8, 10, 35, 37, 43, 45, 47, 50, 54, 58] (by kernel_rfl) (J252 g69 g264 _ hS (hM.pick [1, 0, 2, 3, 4, 5, 6] rfl rfl))
        have J267 : ∀ (W268 : World) (hS : Still W268 [] W268) (hM : Mem w W268 [⟨.slice A24 t23.1.length c26, 5, 1, nums .u8 t23.1⟩, ⟨.slice (some ⟨g19, 0, none⟩) 1 1, 5, 1, nums .u8 [1]⟩, ⟨.slice (some ⟨g14, 0, none⟩) 3 3, 5, 1, nums .u8 [1, 2, 3]⟩, ⟨.slice (some ⟨g9, 0, none⟩) 8 8, 5, 1, nums .u8 [0, 0, 0, 0, 0, 0, 1, 0]⟩, ⟨.slice (some ⟨g4, 0, none⟩) 4 4, 5, 1, nums .u8 [1, 2, 3, 4]⟩]) , RunAny Go.Proofs.Try.prog (Ret fun v w' => v = .bool r ∧ Mem w w' []) 13 (rest1 (pl Go.Proofs.Try.f13 [1, 1, 1, 1, 1, 1, 0])) 82 (opsOf (pl Go.Proofs.Try.f13 [1, 1, 1, 1, 1, 1, 0])) (Still W268 []) 25 [0, 1, 2, 3, 4, 5, 6, 7, 8, 9, 10, 11, 12, 13, 14, 15, 16] [(0, .int .i64 a0), (3, .int .u32 t8.1), (5, .int .u64 t13.1), (8, .bool t18.2), (10, .bool t23.2), (35, .bool (t8.1 == 67305985)), (37, .bool (t13.1 == 256)), (43, .bool (!t23.2)), (45, .bool (t32 == 3)), (47, .bool (t48 == 2147483648)), (50, .bool true)] W268 := by
          intro W268 hS hM 
          refine RunAny.all [17, 20, 24] (ready_of_cert hC30 (by kernel_rfl)) (by simp) ?_
          refine ⟨?_, ?_, ?_, trivial⟩
          · refine Stepped.call 17 (d := some 51) (g := 28) (args := #[.int .u8 150, .int .i64 4]) (by kernel_rfl) (words_Rol8.calls k 150 4 t116 _ ht116) (by rintro _ _ ⟨rfl, hM_⟩; exact hS.below hM_.below) ?_
            rintro _ W269 ⟨rfl, hM_⟩
            replace hS := hS.below hM_.below
            replace hM := hM.call hM_
            clear hM_ ht116
            refine RunAny.rebase hS ?_
            replace hS := Still.refl W269 []
            refine RunAny.y 18 (side_of_cert hC30 (by kernel_rfl)) (yl_pure (d := some 52) (v := .bool (t116 == 105)) (k2 := [.inRegion (opsOf (pl Go.Proofs.Try.f13 [1, 1, 1, 1, 1, 1, 0])) []]) fun w => by kernel_rfl) (fun _ _ => trivial) hS ?_
            refine RunAny.y 19 (side_of_cert hC30 (by kernel_rfl)) (yl_pure (d := some 53) (v := .bool (t116 == 105)) (k2 := [.inRegion (opsOf (pl Go.Proofs.Try.f13 [1, 1, 1, 1, 1, 1, 0])) []]) fun w => by kernel_rfl) (fun _ _ => trivial) hS ?_
            exact RunAny.same [0, 1, 2, 3, 4, 5, 6, 7, 8, 9, 10, 11, 12, 13, 14, 15, 16, 17, 18, 19] (lst_of_mask (by kernel_rfl)) [0, 3, 5, 8, 10, 35, 37, 43, 45, 47, 53] (by kernel_rfl) (J244 _ hS (hM.pick [0, 1, 2, 3, 4] rfl rfl))
          · refine Stepped.new 20 5 1 2 (nums .u8 [18, 52]) (d := some 54) (k2 := [.inRegion (opsOf (pl Go.Proofs.Try.f13 [1, 1, 1, 1, 1, 1, 0])) []]) hM (by simp [nums, bools, strs]) (by kernel_rfl) (by kernel_rfl) hS ?_
            intro g270 W271 hS hM
            refine RunAny.rebase hS ?_
            replace hS := Still.refl W271 []
            exact RunAny.same [0, 1, 2, 3, 4, 5, 6, 7, 8, 9, 20, 10, 11, 12, 13, 14, 15, 16] (lst_of_mask (by kernel_rfl)) [0, 3, 5, 8, 10, 35, 37, 43, 45, 47, 50, 54] (by kernel_rfl) (J261 g270 _ hS (hM.pick [0, 1, 2, 3, 4, 5] rfl rfl))
          · refine Stepped.new 24 5 1 2 (nums .u8 [255, 255]) (d := some 58) (k2 := [.inRegion (opsOf (pl Go.Proofs.Try.f13 [1, 1, 1, 1, 1, 1, 0])) []]) hM (by simp [nums, bools, strs]) (by kernel_rfl) (by kernel_rfl) hS ?_
            intro g273 W274 hS hM
            refine RunAny.rebase hS ?_
            replace hS := Still.refl W274 []
            exact RunAny.same [0, 1, 2, 3, 4, 5, 6, 7, 8, 9, 24, 10, 11, 12, 13, 14, 15, 16] (lst_of_mask (by kernel_rfl)) [0, 3, 5, 8, 10, 35, 37, 43, 45, 47, 50, 58] (by kernel_rfl) (J255 g273 _ hS (hM.pick [0, 1, 2, 3, 4, 5] rfl rfl))
        have J276 : ∀ (g69 : Nat) (g76 : Nat) (W277 : World) (hS : Still W277 [] W277) (hM : Mem w W277 [⟨.slice (some ⟨g69, 0, none⟩) 2 2, 5, 1, nums .u8 [18, 52]⟩, ⟨.slice (some ⟨g76, 0, none⟩) 2 2, 5, 1, nums .u8 [255, 255]⟩, ⟨.slice A24 t23.1.length c26, 5, 1, nums .u8 t23.1⟩, ⟨.slice (some ⟨g19, 0, none⟩) 1 1, 5, 1, nums .u8 [1]⟩, ⟨.slice (some ⟨g14, 0, none⟩) 3 3, 5, 1, nums .u8 [1, 2, 3]⟩, ⟨.slice (some ⟨g9, 0, none⟩) 8 8, 5, 1, nums .u8 [0, 0, 0, 0, 0, 0, 1, 0]⟩, ⟨.slice (some ⟨g4, 0, none⟩) 4 4, 5, 1, nums .u8 [1, 2, 3, 4]⟩]) , RunAny Go.Proofs.Try.prog (Ret fun v w' => v = .bool r ∧ Mem w w' []) 13 (rest1 (pl Go.Proofs.Try.f13 [1, 1, 1, 1, 1, 1, 0])) 82 (opsOf (pl Go.Proofs.Try.f13 [1, 1, 1, 1, 1, 1, 0])) (Still W277 []) 26 [0, 1, 2, 3, 4, 5, 6, 7, 8, 9, 20, 24, 10, 11, 12, 13] [(0, .int .i64 a0), (3, .int .u32 t8.1), (5, .int .u64 t13.1), (8, .bool t18.2), (10, .bool t23.2), (35, .bool (t8.1 == 67305985)), (37, .bool (t13.1 == 256)), (43, .bool (!t23.2)), (45, .bool (t32 == 3)), (47, .bool (t48 == 2147483648)), (54, .slice (some ⟨g69, 0, none⟩) 2 2), (58, .slice (some ⟨g76, 0, none⟩) 2 2)] W277 := by
          intro g69 g76 W277 hS hM 
          refine RunAny.call 14 (d := some 48) (g := 28) (args := #[.int .u8 1, .int .i64 7]) (ready_of_cert hC30 (by kernel_rfl)) (by kernel_rfl) (words_Rol8.calls k 1 7 t65 _ ht65) (by rintro _ _ ⟨rfl, hM_⟩; exact hS.below hM_.below) ?_
          rintro _ W278 ⟨rfl, hM_⟩
          replace hS := hS.below hM_.below
          replace hM := hM.call hM_
          clear hM_ ht65
          refine RunAny.rebase hS ?_
          replace hS := Still.refl W278 []
          refine RunAny.y 15 (side_of_cert hC30 (by kernel_rfl)) (yl_pure (d := some 49) (v := .bool (t65 == 128)) (k2 := [.inRegion (opsOf (pl Go.Proofs.Try.f13 [1, 1, 1, 1, 1, 1, 0])) []]) fun w => by kernel_rfl) (fun _ _ => trivial) hS ?_
          refine RunAny.y 16 (side_of_cert hC30 (by kernel_rfl)) (yl_pure (d := some 50) (v := .bool (t65 == 128)) (k2 := [.inRegion (opsOf (pl Go.Proofs.Try.f13 [1, 1, 1, 1, 1, 1, 0])) []]) fun w => by kernel_rfl) (fun _ _ => trivial) hS ?_
          refine RunAny.know 50 (b := true) (by kernel_rfl) c67 ?_
          exact RunAny.same [0, 1, 2, 3, 4, 5, 6, 7, 8, 9, 20, 24, 10, 11, 12, 13, 14, 15, 16] (lst_of_mask (by kernel_rfl)) [0, 3, 5, 8, 10, 35, 37, 43, 45, 47, 50, 54, 58] (by kernel_rfl) (J252 g69 g76 _ hS (hM.pick [0, 1, 2, 3, 4, 5, 6] rfl rfl))
        have J279 : ∀ (g72 : Nat) (W280 : World) (hS : Still W280 [] W280) (hM : Mem w W280 [⟨.slice (some ⟨g72, 0, none⟩) 2 2, 5, 1, nums .u8 [255, 255]⟩, ⟨.slice A24 t23.1.length c26, 5, 1, nums .u8 t23.1⟩, ⟨.slice (some ⟨g19, 0, none⟩) 1 1, 5, 1, nums .u8 [1]⟩, ⟨.slice (some ⟨g14, 0, none⟩) 3 3, 5, 1, nums .u8 [1, 2, 3]⟩, ⟨.slice (some ⟨g9, 0, none⟩) 8 8, 5, 1, nums .u8 [0, 0, 0, 0, 0, 0, 1, 0]⟩, ⟨.slice (some ⟨g4, 0, none⟩) 4 4, 5, 1, nums .u8 [1, 2, 3, 4]⟩]) , RunAny Go.Proofs.Try.prog (Ret fun v w' => v = .bool r ∧ Mem w w' []) 13 (rest1 (pl Go.Proofs.Try.f13 [1, 1, 1, 1, 1, 1, 0])) 82 (opsOf (pl Go.Proofs.Try.f13 [1, 1, 1, 1, 1, 1, 0])) (Still W280 []) 27 [0, 1, 2, 3, 4, 5, 6, 7, 8, 9, 24, 10, 11, 12, 13] [(0, .int .i64 a0), (3, .int .u32 t8.1), (5, .int .u64 t13.1), (8, .bool t18.2), (10, .bool t23.2), (35, .bool (t8.1 == 67305985)), (37, .bool (t13.1 == 256)), (43, .bool (!t23.2)), (45, .bool (t32 == 3)), (47, .bool (t48 == 2147483648)), (58, .slice (some ⟨g72, 0, none⟩) 2 2)] W280 := by
          intro g72 W280 hS hM 
          refine RunAny.all [14, 20] (ready_of_cert hC30 (by kernel_rfl)) (by simp) ?_
          refine ⟨?_, ?_, trivial⟩
          · refine Stepped.call 14 (d := some 48) (g := 28) (args := #[.int .u8 1, .int .i64 7]) (by kernel_rfl) (words_Rol8.calls k 1 7 t65 _ ht65) (by rintro _ _ ⟨rfl, hM_⟩; exact hS.below hM_.below) ?_
            rintro _ W281 ⟨rfl, hM_⟩
            replace hS := hS.below hM_.below
            replace hM := hM.call hM_
            clear hM_ ht65
            refine RunAny.rebase hS ?_
            replace hS := Still.refl W281 []
            refine RunAny.y 15 (side_of_cert hC30 (by kernel_rfl)) (yl_pure (d := some 49) (v := .bool (t65 == 128)) (k2 := [.inRegion (opsOf (pl Go.Proofs.Try.f13 [1, 1, 1, 1, 1, 1, 0])) []]) fun w => by kernel_rfl) (fun _ _ => trivial) hS ?_
            refine RunAny.y 16 (side_of_cert hC30 (by kernel_rfl)) (yl_pure (d := some 50) (v := .bool (t65 == 128)) (k2 := [.inRegion (opsOf (pl Go.Proofs.Try.f13 [1, 1, 1, 1, 1, 1, 0])) []]) fun w => by kernel_rfl) (fun _ _ => trivial) hS ?_
            refine RunAny.know 50 (b := true) (by kernel_rfl) c67 ?_
            exact RunAny.same [0, 1, 2, 3, 4, 5, 6, 7, 8, 9, 24, 10, 11, 12, 13, 14, 15, 16] (lst_of_mask (by kernel_rfl)) [0, 3, 5, 8, 10, 35, 37, 43, 45, 47, 50, 58] (by kernel_rfl) (J255 g72 _ hS (hM.pick [0, 1, 2, 3, 4, 5] rfl rfl))
          · refine Stepped.new 20 5 1 2 (nums .u8 [18, 52]) (d := some 54) (k2 := [.inRegion (opsOf (pl Go.Proofs.Try.f13 [1, 1, 1, 1, 1, 1, 0])) []]) hM (by simp [nums, bools, strs]) (by kernel_rfl) (by kernel_rfl) hS ?_
            intro g282 W283 hS hM
            refine RunAny.rebase hS ?_
            replace hS := Still.refl W283 []
            exact RunAny.same [0, 1, 2, 3, 4, 5, 6, 7, 8, 9, 20, 24, 10, 11, 12, 13] (lst_of_mask (by kernel_rfl)) [0, 3, 5, 8, 10, 35, 37, 43, 45, 47, 54, 58] (by kernel_rfl) (J276 g282 g72 _ hS (hM.pick [0, 1, 2, 3, 4, 5, 6] rfl rfl))
        have J285 : ∀ (g69 : Nat) (W286 : World) (hS : Still W286 [] W286) (hM : Mem w W286 [⟨.slice (some ⟨g69, 0, none⟩) 2 2, 5, 1, nums .u8 [18, 52]⟩, ⟨.slice A24 t23.1.length c26, 5, 1, nums .u8 t23.1⟩, ⟨.slice (some ⟨g19, 0, none⟩) 1 1, 5, 1, nums .u8 [1]⟩, ⟨.slice (some ⟨g14, 0, none⟩) 3 3, 5, 1, nums .u8 [1, 2, 3]⟩, ⟨.slice (some ⟨g9, 0, none⟩) 8 8, 5, 1, nums .u8 [0, 0, 0, 0, 0, 0, 1, 0]⟩, ⟨.slice (some ⟨g4, 0, none⟩) 4 4, 5, 1, nums .u8 [1, 2, 3, 4]⟩]) , RunAny Go.Proofs.Try.prog (Ret fun v w' => v = .bool r ∧ Mem w w' []) 13 (rest1 (pl Go.Proofs.Try.f13 [1, 1, 1, 1, 1, 1, 0])) 82 (opsOf (pl Go.Proofs.Try.f13 [1, 1, 1, 1, 1, 1, 0])) (Still W286 []) 27 [0, 1, 2, 3, 4, 5, 6, 7, 8, 9, 20, 10, 11, 12, 13] [(0, .int .i64 a0), (3, .int .u32 t8.1), (5, .int .u64 t13.1), (8, .bool t18.2), (10, .bool t23.2), (35, .bool (t8.1 == 67305985)), (37, .bool (t13.1 == 256)), (43, .bool (!t23.2)), (45, .bool (t32 == 3)), (47, .bool (t48 == 2147483648)), (54, .slice (some ⟨g69, 0, none⟩) 2 2)] W286 := by
          intro g69 W286 hS hM 
          refine RunAny.all [14, 24] (ready_of_cert hC30 (by kernel_rfl)) (by simp) ?_
          refine ⟨?_, ?_, trivial⟩
          · refine Stepped.call 14 (d := some 48) (g := 28) (args := #[.int .u8 1, .int .i64 7]) (by kernel_rfl) (words_Rol8.calls k 1 7 t65 _ ht65) (by rintro _ _ ⟨rfl, hM_⟩; exact hS.below hM_.below) ?_
            rintro _ W287 ⟨rfl, hM_⟩
            replace hS := hS.below hM_.below
            replace hM := hM.call hM_
            clear hM_ ht65
            refine RunAny.rebase hS ?_
            replace hS := Still.refl W287 []
            refine RunAny.y 15 (side_of_cert hC30 (by kernel_rfl)) (yl_pure (d := some 49) (v := .bool (t65 == 128)) (k2 := [.inRegion (opsOf (pl Go.Proofs.Try.f13 [1, 1, 1, 1, 1, 1, 0])) []]) fun w => by kernel_rfl) (fun _ _ => trivial) hS ?_
            refine RunAny.y 16 (side_of_cert hC30 (by kernel_rfl)) (yl_pure (d := some 50) (v := .bool (t65 == 128)) (k2 := [.inRegion (opsOf (pl Go.Proofs.Try.f13 [1, 1, 1, 1, 1, 1, 0])) []]) fun w => by kernel_rfl) (fun _ _ => trivial) hS ?_
            refine RunAny.know 50 (b := true) (by kernel_rfl) c67 ?_
            exact RunAny.same [0, 1, 2, 3, 4, 5, 6, 7, 8, 9, 20, 10, 11, 12, 13, 14, 15, 16] (lst_of_mask (by kernel_rfl)) [0, 3, 5, 8, 10, 35, 37, 43, 45, 47, 50, 54] (by kernel_rfl) (J261 g69 _ hS (hM.pick [0, 1, 2, 3, 4, 5] rfl rfl))
          · refine Stepped.new 24 5 1 2 (nums .u8 [255, 255]) (d := some 58) (k2 := [.inRegion (opsOf (pl Go.Proofs.Try.f13 [1, 1, 1, 1, 1, 1, 0])) []]) hM (by simp [nums, bools, strs]) (by kernel_rfl) (by kernel_rfl) hS ?_
            intro g288 W289 hS hM
            refine RunAny.rebase hS ?_
            replace hS := Still.refl W289 []
            exact RunAny.same [0, 1, 2, 3, 4, 5, 6, 7, 8, 9, 20, 24, 10, 11, 12, 13] (lst_of_mask (by kernel_rfl)) [0, 3, 5, 8, 10, 35, 37, 43, 45, 47, 54, 58] (by kernel_rfl) (J276 g69 g288 _ hS (hM.pick [1, 0, 2, 3, 4, 5, 6] rfl rfl))
        have J291 : ∀ (g69 : Nat) (g76 : Nat) (W292 : World) (hS : Still W292 [] W292) (hM : Mem w W292 [⟨.slice (some ⟨g69, 0, none⟩) 2 2, 5, 1, nums .u8 [18, 52]⟩, ⟨.slice (some ⟨g76, 0, none⟩) 2 2, 5, 1, nums .u8 [255, 255]⟩, ⟨.slice A24 t23.1.length c26, 5, 1, nums .u8 t23.1⟩, ⟨.slice (some ⟨g19, 0, none⟩) 1 1, 5, 1, nums .u8 [1]⟩, ⟨.slice (some ⟨g14, 0, none⟩) 3 3, 5, 1, nums .u8 [1, 2, 3]⟩, ⟨.slice (some ⟨g9, 0, none⟩) 8 8, 5, 1, nums .u8 [0, 0, 0, 0, 0, 0, 1, 0]⟩, ⟨.slice (some ⟨g4, 0, none⟩) 4 4, 5, 1, nums .u8 [1, 2, 3, 4]⟩]) , RunAny Go.Proofs.Try.prog (Ret fun v w' => v = .bool r ∧ Mem w w' []) 13 (rest1 (pl Go.Proofs.Try.f13 [1, 1, 1, 1, 1, 1, 0])) 82 (opsOf (pl Go.Proofs.Try.f13 [1, 1, 1, 1, 1, 1, 0])) (Still W292 []) 28 [0, 1, 2, 3, 4, 5, 6, 7, 8, 9, 20, 24, 10, 11] [(0, .int .i64 a0), (3, .int .u32 t8.1), (5, .int .u64 t13.1), (8, .bool t18.2), (10, .bool t23.2), (35, .bool (t8.1 == 67305985)), (37, .bool (t13.1 == 256)), (43, .bool (!t23.2)), (45, .bool (t32 == 3)), (54, .slice (some ⟨g69, 0, none⟩) 2 2), (58, .slice (some ⟨g76, 0, none⟩) 2 2)] W292 := by
          intro g69 g76 W292 hS hM 
          refine RunAny.call 12 (d := some 46) (g := 26) (args := #[.int .u32 1, .int .i64 (-1)]) (ready_of_cert hC30 (by kernel_rfl)) (by kernel_rfl) (words_Rol32.calls k 1 (-1) t48 _ ht48) (by rintro _ _ ⟨rfl, hM_⟩; exact hS.below hM_.below) ?_
          rintro _ W293 ⟨rfl, hM_⟩
          replace hS := hS.below hM_.below
          replace hM := hM.call hM_
          clear hM_ ht48
          refine RunAny.rebase hS ?_
          replace hS := Still.refl W293 []
          refine RunAny.y 13 (side_of_cert hC30 (by kernel_rfl)) (yl_pure (d := some 47) (v := .bool (t48 == 2147483648)) (k2 := [.inRegion (opsOf (pl Go.Proofs.Try.f13 [1, 1, 1, 1, 1, 1, 0])) []]) fun w => by kernel_rfl) (fun _ _ => trivial) hS ?_
          exact RunAny.same [0, 1, 2, 3, 4, 5, 6, 7, 8, 9, 20, 24, 10, 11, 12, 13] (lst_of_mask (by kernel_rfl)) [0, 3, 5, 8, 10, 35, 37, 43, 45, 47, 54, 58] (by kernel_rfl) (J276 g69 g76 _ hS (hM.pick [0, 1, 2, 3, 4, 5, 6] rfl rfl))
        have J294 : ∀ (W295 : World) (hS : Still W295 [] W295) (hM : Mem w W295 [⟨.slice A24 t23.1.length c26, 5, 1, nums .u8 t23.1⟩, ⟨.slice (some ⟨g19, 0, none⟩) 1 1, 5, 1, nums .u8 [1]⟩, ⟨.slice (some ⟨g14, 0, none⟩) 3 3, 5, 1, nums .u8 [1, 2, 3]⟩, ⟨.slice (some ⟨g9, 0, none⟩) 8 8, 5, 1, nums .u8 [0, 0, 0, 0, 0, 0, 1, 0]⟩, ⟨.slice (some ⟨g4, 0, none⟩) 4 4, 5, 1, nums .u8 [1, 2, 3, 4]⟩]) , RunAny Go.Proofs.Try.prog (Ret fun v w' => v = .bool r ∧ Mem w w' []) 13 (rest1 (pl Go.Proofs.Try.f13 [1, 1, 1, 1, 1, 1, 0])) 82 (opsOf (pl Go.Proofs.Try.f13 [1, 1, 1, 1, 1, 1, 0])) (Still W295 []) 28 [0, 1, 2, 3, 4, 5, 6, 7, 8, 9, 10, 11, 12, 13] [(0, .int .i64 a0), (3, .int .u32 t8.1), (5, .int .u64 t13.1), (8, .bool t18.2), (10, .bool t23.2), (35, .bool (t8.1 == 67305985)), (37, .bool (t13.1 == 256)), (43, .bool (!t23.2)), (45, .bool (t32 == 3)), (47, .bool (t48 == 2147483648))] W295 := by
          intro W295 hS hM 
          refine RunAny.all [14, 20, 24] (ready_of_cert hC30 (by kernel_rfl)) (by simp) ?_
          refine ⟨?_, ?_, ?_, trivial⟩
          · refine Stepped.call 14 (d := some 48) (g := 28) (args := #[.int .u8 1, .int .i64 7]) (by kernel_rfl) (words_Rol8.calls k 1 7 t65 _ ht65) (by rintro _ _ ⟨rfl, hM_⟩; exact hS.below hM_.below) ?_
            rintro _ W296 ⟨rfl, hM_⟩
            replace hS := hS.below hM_.below
            replace hM := hM.call hM_
            clear hM_ ht65
            refine RunAny.rebase hS ?_
            replace hS := Still.refl W296 []
            refine RunAny.y 15 (side_of_cert hC30 (by kernel_rfl)) (yl_pure (d := some 49) (v := .bool (t65 == 128)) (k2 := [.inRegion (opsOf (pl Go.Proofs.Try.f13 [1, 1, 1, 1, 1, 1, 0])) []]) fun w => by kernel_rfl) (fun _ _ => trivial) hS ?_
            refine RunAny.y 16 (side_of_cert hC30 (by kernel_rfl)) (yl_pure (d := some 50) (v := .bool (t65 == 128)) (k2 := [.inRegion (opsOf (pl Go.Proofs.Try.f13 [1, 1, 1, 1, 1, 1, 0])) []]) fun w => by kernel_rfl) (fun _ _ => trivial) hS ?_
            refine RunAny.know 50 (b := true) (by kernel_rfl) c67 ?_
            exact RunAny.same [0, 1, 2, 3, 4, 5, 6, 7, 8, 9, 10, 11, 12, 13, 14, 15, 16] (lst_of_mask (by kernel_rfl)) [0, 3, 5, 8, 10, 35, 37, 43, 45, 47, 50] (by kernel_rfl) (J267 _ hS (hM.pick [0, 1, 2, 3, 4] rfl rfl))
          · refine Stepped.new 20 5 1 2 (nums .u8 [18, 52]) (d := some 54) (k2 := [.inRegion (opsOf (pl Go.Proofs.Try.f13 [1, 1, 1, 1, 1, 1, 0])) []]) hM (by simp [nums, bools, strs]) (by kernel_rfl) (by kernel_rfl) hS ?_
            intro g297 W298 hS hM
            refine RunAny.rebase hS ?_
            replace hS := Still.refl W298 []
            exact RunAny.same [0, 1, 2, 3, 4, 5, 6, 7, 8, 9, 20, 10, 11, 12, 13] (lst_of_mask (by kernel_rfl)) [0, 3, 5, 8, 10, 35, 37, 43, 45, 47, 54] (by kernel_rfl) (J285 g297 _ hS (hM.pick [0, 1, 2, 3, 4, 5] rfl rfl))
          · refine Stepped.new 24 5 1 2 (nums .u8 [255, 255]) (d := some 58) (k2 := [.inRegion (opsOf (pl Go.Proofs.Try.f13 [1, 1, 1, 1, 1, 1, 0])) []]) hM (by simp [nums, bools, strs]) (by kernel_rfl) (by kernel_rfl) hS ?_
            intro g300 W301 hS hM
            refine RunAny.rebase hS ?_
            replace hS := Still.refl W301 []
            exact RunAny.same [0, 1, 2, 3, 4, 5, 6, 7, 8, 9, 24, 10, 11, 12, 13] (lst_of_mask (by kernel_rfl)) [0, 3, 5, 8, 10, 35, 37, 43, 45, 47, 58] (by kernel_rfl) (J279 g300 _ hS (hM.pick [0, 1, 2, 3, 4, 5] rfl rfl))
        have J303 : ∀ (g72 : Nat) (W304 : World) (hS : Still W304 [] W304) (hM : Mem w W304 [⟨.slice (some ⟨g72, 0, none⟩) 2 2, 5, 1, nums .u8 [255, 255]⟩, ⟨.slice A24 t23.1.length c26, 5, 1, nums .u8 t23.1⟩, ⟨.slice (some ⟨g19, 0, none⟩) 1 1, 5, 1, nums .u8 [1]⟩, ⟨.slice (some ⟨g14, 0, none⟩) 3 3, 5, 1, nums .u8 [1, 2, 3]⟩, ⟨.slice (some ⟨g9, 0, none⟩) 8 8, 5, 1, nums .u8 [0, 0, 0, 0, 0, 0, 1, 0]⟩, ⟨.slice (some ⟨g4, 0, none⟩) 4 4, 5, 1, nums .u8 [1, 2, 3, 4]⟩]) , RunAny Go.Proofs.Try.prog (Ret fun v w' => v = .bool r ∧ Mem w w' []) 13 (rest1 (pl Go.Proofs.Try.f13 [1, 1, 1, 1, 1, 1, 0])) 82 (opsOf (pl Go.Proofs.Try.f13 [1, 1, 1, 1, 1, 1, 0])) (Still W304 []) 29 [0, 1, 2, 3, 4, 5, 6, 7, 8, 9, 24, 10, 11] [(0, .int .i64 a0), (3, .int .u32 t8.1), (5, .int .u64 t13.1), (8, .bool t18.2), (10, .bool t23.2), (35, .bool (t8.1 == 67305985)), (37, .bool (t13.1 == 256)), (43, .bool (!t23.2)), (45, .bool (t32 == 3)), (58, .slice (some ⟨g72, 0, none⟩) 2 2)] W304 := by
          intro g72 W304 hS hM 
          refine RunAny.all [12, 20] (ready_of_cert hC30 (by kernel_rfl)) (by simp) ?_
          refine ⟨?_, ?_, trivial⟩
          · refine Stepped.call 12 (d := some 46) (g := 26) (args := #[.int .u32 1, .int .i64 (-1)]) (by kernel_rfl) (words_Rol32.calls k 1 (-1) t48 _ ht48) (by rintro _ _ ⟨rfl, hM_⟩; exact hS.below hM_.below) ?_
            rintro _ W305 ⟨rfl, hM_⟩
            replace hS := hS.below hM_.below
            replace hM := hM.call hM_
            clear hM_ ht48
            refine RunAny.rebase hS ?_
            replace hS := Still.refl W305 []
            refine RunAny.y 13 (side_of_cert hC30 (by kernel_rfl)) (yl_pure (d := some 47) (v := .bool (t48 == 2147483648)) (k2 := [.inRegion (opsOf (pl Go.Proofs.Try.f13 [1, 1, 1, 1, 1, 1, 0])) []]) fun w => by kernel_rfl) (fun _ _ => trivial) hS ?_
            exact RunAny.same [0, 1, 2, 3, 4, 5, 6, 7, 8, 9, 24, 10, 11, 12, 13] (lst_of_mask (by kernel_rfl)) [0, 3, 5, 8, 10, 35, 37, 43, 45, 47, 58] (by kernel_rfl) (J279 g72 _ hS (hM.pick [0, 1, 2, 3, 4, 5] rfl rfl))
          · refine Stepped.new 20 5 1 2 (nums .u8 [18, 52]) (d := some 54) (k2 := [.inRegion (opsOf (pl Go.Proofs.Try.f13 [1, 1, 1, 1, 1, 1, 0])) []]) hM (by simp [nums, bools, strs]) (by kernel_rfl) (by kernel_rfl) hS ?_
            intro g306 W307 hS hM
            refine RunAny.rebase hS ?_
            replace hS := Still.refl W307 []
            exact RunAny.same [0, 1, 2, 3, 4, 5, 6, 7, 8, 9, 20, 24, 10, 11] (lst_of_mask (by kernel_rfl)) [0, 3, 5, 8, 10, 35, 37, 43, 45, 54, 58] (by kernel_rfl) (J291 g306 g72 _ hS (hM.pick [0, 1, 2, 3, 4, 5, 6] rfl rfl))
        have J309 : ∀ (g69 : Nat) (W310 : World) (hS : Still W310 [] W310) (hM : Mem w W310 [⟨.slice (some ⟨g69, 0, none⟩) 2 2, 5, 1, nums .u8 [18, 52]⟩, ⟨.slice A24 t23.1.length c26, 5, 1, nums .u8 t23.1⟩, ⟨.slice (some ⟨g19, 0, none⟩) 1 1, 5, 1, nums .u8 [1]⟩, ⟨.slice (some ⟨g14, 0, none⟩) 3 3, 5, 1, nums .u8 [1, 2, 3]⟩, ⟨.slice (some ⟨g9, 0, none⟩) 8 8, 5, 1, nums .u8 [0, 0, 0, 0, 0, 0, 1, 0]⟩, ⟨.slice (some ⟨g4, 0, none⟩) 4 4, 5, 1, nums .u8 [1, 2, 3, 4]⟩]) , RunAny Go.Proofs.Try.prog (Ret fun v w' => v = .bool r ∧ Mem w w' []) 13 (rest1 (pl Go.Proofs.Try.f13 [1, 1, 1, 1, 1, 1, 0])) 82 (opsOf (pl Go.Proofs.Try.f13 [1, 1, 1, 1, 1, 1, 0])) (Still W310 []) 29 [0, 1, 2, 3, 4, 5, 6, 7, 8, 9, 20, 10, 11] [(0, .int .i64 a0), (3, .int .u32 t8.1), (5, .int .u64 t13.1), (8, .bool t18.2), (10, .bool t23.2), (35, .bool (t8.1 == 67305985)), (37, .bool (t13.1 == 256)), (43, .bool (!t23.2)), (45, .bool (t32 == 3)), (54, .slice (some ⟨g69, 0, none⟩) 2 2)] W310 := by
          intro g69 W310 hS hM 
          refine RunAny.all [12, 24] (ready_of_cert hC30 (by kernel_rfl)) (by simp) ?_
          refine ⟨?_, ?_, trivial⟩
          · refine Stepped.call 12 (d := some 46) (g := 26) (args := #[.int .u32 1, .int .i64 (-1)]) (by kernel_rfl) (words_Rol32.calls k 1 (-1) t48 _ ht48) (by rintro _ _ ⟨rfl, hM_⟩; exact hS.below hM_.below) ?_
            rintro _ W311 ⟨rfl, hM_⟩
            replace hS := hS.below hM_.below
            replace hM := hM.call hM_
            clear hM_ ht48
            refine RunAny.rebase hS ?_
            replace hS := Still.refl W311 []
            refine RunAny.y 13 (side_of_cert hC30 (by kernel_rfl)) (yl_pure (d := some 47) (v := .bool (t48 == 2147483648)) (k2 := [.inRegion (opsOf (pl Go.Proofs.Try.f13 [1, 1, 1, 1, 1, 1, 0])) []]) fun w => by kernel_rfl) (fun _ _ => trivial) hS ?_
            exact RunAny.same [0, 1, 2, 3, 4, 5, 6, 7, 8, 9, 20, 10, 11, 12, 13] (lst_of_mask (by kernel_rfl)) [0, 3, 5, 8, 10, 35, 37, 43, 45, 47, 54] (by kernel_rfl) (J285 g69 _ hS (hM.pick [0, 1, 2, 3, 4, 5] rfl rfl))
          · refine Stepped.new 24 5 1 2 (nums .u8 [255, 255]) (d := some 58) (k2 := [.inRegion (opsOf (pl Go.Proofs.Try.f13 [1, 1, 1, 1, 1, 1, 0])) []]) hM (by simp [nums, bools, strs]) (by kernel_rfl) (by kernel_rfl) hS ?_
            intro g312 W313 hS hM
            refine RunAny.rebase hS ?_
            replace hS := Still.refl W313 []
            exact RunAny.same [0, 1, 2, 3, 4, 5, 6, 7, 8, 9, 20, 24, 10, 11] (lst_of_mask (by kernel_rfl)) [0, 3, 5, 8, 10, 35, 37, 43, 45, 54, 58] (by kernel_rfl) (J291 g69 g312 _ hS (hM.pick [1, 0, 2, 3, 4, 5, 6] rfl rfl))
        have J315 : ∀ (g69 : Nat) (g76 : Nat) (W316 : World) (hS : Still W316 [] W316) (hM : Mem w W316 [⟨.slice (some ⟨g69, 0, none⟩) 2 2, 5, 1, nums .u8 [18, 52]⟩, ⟨.slice (some ⟨g76, 0, none⟩) 2 2, 5, 1, nums .u8 [255, 255]⟩, ⟨.slice A24 t23.1.length c26, 5, 1, nums .u8 t23.1⟩, ⟨.slice (some ⟨g19, 0, none⟩) 1 1, 5, 1, nums .u8 [1]⟩, ⟨.slice (some ⟨g14, 0, none⟩) 3 3, 5, 1, nums .u8 [1, 2, 3]⟩, ⟨.slice (some ⟨g9, 0, none⟩) 8 8, 5, 1, nums .u8 [0, 0, 0, 0, 0, 0, 1, 0]⟩, ⟨.slice (some ⟨g4, 0, none⟩) 4 4, 5, 1, nums .u8 [1, 2, 3, 4]⟩]) , RunAny Go.Proofs.Try.prog (Ret fun v w' => v = .bool r ∧ Mem w w' []) 13 (rest1 (pl Go.Proofs.Try.f13 [1, 1, 1, 1, 1, 1, 0])) 82 (opsOf (pl Go.Proofs.Try.f13 [1, 1, 1, 1, 1, 1, 0])) (Still W316 []) 30 [0, 1, 2, 3, 4, 5, 6, 7, 8, 9, 20, 24] [(0, .int .i64 a0), (3, .int .u32 t8.1), (5, .int .u64 t13.1), (8, .bool t18.2), (10, .bool t23.2), (35, .bool (t8.1 == 67305985)), (37, .bool (t13.1 == 256)), (43, .bool (!t23.2)), (54, .slice (some ⟨g69, 0, none⟩) 2 2), (58, .slice (some ⟨g76, 0, none⟩) 2 2)] W316 := by
          intro g69 g76 W316 hS hM 
          refine RunAny.call 10 (d := some 44) (g := 26) (args := #[.int .u32 2147483649, .int .i64 1]) (ready_of_cert hC30 (by kernel_rfl)) (by kernel_rfl) (words_Rol32.calls k 2147483649 1 t32 _ ht32) (by rintro _ _ ⟨rfl, hM_⟩; exact hS.below hM_.below) ?_
          rintro _ W317 ⟨rfl, hM_⟩
          replace hS := hS.below hM_.below
          replace hM := hM.call hM_
          clear hM_ ht32
          refine RunAny.rebase hS ?_
          replace hS := Still.refl W317 []
          refine RunAny.y 11 (side_of_cert hC30 (by kernel_rfl)) (yl_pure (d := some 45) (v := .bool (t32 == 3)) (k2 := [.inRegion (opsOf (pl Go.Proofs.Try.f13 [1, 1, 1, 1, 1, 1, 0])) []]) fun w => by kernel_rfl) (fun _ _ => trivial) hS ?_
          exact RunAny.same [0, 1, 2, 3, 4, 5, 6, 7, 8, 9, 20, 24, 10, 11] (lst_of_mask (by kernel_rfl)) [0, 3, 5, 8, 10, 35, 37, 43, 45, 54, 58] (by kernel_rfl) (J291 g69 g76 _ hS (hM.pick [0, 1, 2, 3, 4, 5, 6] rfl rfl))
        have J318 : ∀ (W319 : World) (hS : Still W319 [] W319) (hM : Mem w W319 [⟨.slice A24 t23.1.length c26, 5, 1, nums .u8 t23.1⟩, ⟨.slice (some ⟨g19, 0, none⟩) 1 1, 5, 1, nums .u8 [1]⟩, ⟨.slice (some ⟨g14, 0, none⟩) 3 3, 5, 1, nums .u8 [1, 2, 3]⟩, ⟨.slice (some ⟨g9, 0, none⟩) 8 8, 5, 1, nums .u8 [0, 0, 0, 0, 0, 0, 1, 0]⟩, ⟨.slice (some ⟨g4, 0, none⟩) 4 4, 5, 1, nums .u8 [1, 2, 3, 4]⟩]) , RunAny Go.Proofs.Try.prog (Ret fun v w' => v = .bool r ∧ Mem w w' []) 13 (rest1 (pl Go.Proofs.Try.f13 [1, 1, 1, 1, 1, 1, 0])) 82 (opsOf (pl Go.Proofs.Try.f13 [1, 1, 1, 1, 1, 1, 0])) (Still W319 []) 30 [0, 1, 2, 3, 4, 5, 6, 7, 8, 9, 10, 11] [(0, .int .i64 a0), (3, .int .u32 t8.1), (5, .int .u64 t13.1), (8, .bool t18.2), (10, .bool t23.2), (35, .bool (t8.1 == 67305985)), (37, .bool (t13.1 == 256)), (43, .bool (!t23.2)), (45, .bool (t32 == 3))] W319 := by
          intro W319 hS hM 
          refine RunAny.all [12, 20, 24] (ready_of_cert hC30 (by kernel_rfl)) (by simp) ?_
          refine ⟨?_, ?_, ?_, trivial⟩
          · refine Stepped.call 12 (d := some 46) (g := 26) (args := #[.int .u32 1, .int .i64 (-1)]) (by kernel_rfl) (words_Rol32.calls k 1 (-1) t48 _ ht48) (by rintro _ _ ⟨rfl, hM_⟩; exact hS.below hM_.below) ?_
            rintro _ W320 ⟨rfl, hM_⟩
            replace hS := hS.below hM_.below
            replace hM := hM.call hM_
            clear hM_ ht48
            refine RunAny.rebase hS ?_
            replace hS := Still.refl W320 []
            refine RunAny.y 13 (side_of_cert hC30 (by kernel_rfl)) (yl_pure (d := some 47) (v := .bool (t48 == 2147483648)) (k2 := [.inRegion (opsOf (pl Go.Proofs.Try.f13 [1, 1, 1, 1, 1, 1, 0])) []]) fun w => by kernel_rfl) (fun _ _ => trivial) hS ?_
            exact RunAny.same [0, 1, 2, 3, 4, 5, 6, 7, 8, 9, 10, 11, 12, 13] (lst_of_mask (by kernel_rfl)) [0, 3, 5, 8, 10, 35, 37, 43, 45, 47] (by kernel_rfl) (J294 _ hS (hM.pick [0, 1, 2, 3, 4] rfl rfl))
          · refine Stepped.new 20 5 1 2 (nums .u8 [18, 52]) (d := some 54) (k2 := [.inRegion (opsOf (pl Go.Proofs.Try.f13 [1, 1, 1, 1, 1, 1, 0])) []]) hM (by simp [nums, bools, strs]) (by kernel_rfl) (by kernel_rfl) hS ?_
            intro g321 W322 hS hM
            refine RunAny.rebase hS ?_
            replace hS := Still.refl W322 []
            exact RunAny.same [0, 1, 2, 3, 4, 5, 6, 7, 8, 9, 20, 10, 11] (lst_of_mask (by kernel_rfl)) [0, 3, 5, 8, 10, 35, 37, 43, 45, 54] (by kernel_rfl) (J309 g321 _ hS (hM.pick [0, 1, 2, 3, 4, 5] rfl rfl))
          · refine Stepped.new 24 5 1 2 (nums .u8 [255, 255]) (d := some 58) (k2 := [.inRegion (opsOf (pl Go.Proofs.Try.f13 [1, 1, 1, 1, 1, 1, 0])) []]) hM (by simp [nums, bools, strs]) (by kernel_rfl) (by kernel_rfl) hS ?_
            intro g324 W325 hS hM
            refine RunAny.rebase hS ?_
            replace hS := Still.refl W325 []
            exact RunAny.same [0, 1, 2, 3, 4, 5, 6, 7, 8, 9, 24, 10, 11] (lst_of_mask (by kernel_rfl)) [0, 3, 5, 8, 10, 35, 37, 43, 45, 58] (by kernel_rfl) (J303 g324 _ hS (hM.pick [0, 1, 2, 3, 4, 5] rfl rfl))
        have J327 : ∀ (g72 : Nat) (W328 : World) (hS : Still W328 [] W328) (hM : Mem w W328 [⟨.slice (some ⟨g72, 0, none⟩) 2 2, 5, 1, nums .u8 [255, 255]⟩, ⟨.slice A24 t23.1.length c26, 5, 1, nums .u8 t23.1⟩, ⟨.slice (some ⟨g19, 0, none⟩) 1 1, 5, 1, nums .u8 [1]⟩, ⟨.slice (some ⟨g14, 0, none⟩) 3 3, 5, 1, nums .u8 [1, 2, 3]⟩, ⟨.slice (some ⟨g9, 0, none⟩) 8 8, 5, 1, nums .u8 [0, 0, 0, 0, 0, 0, 1, 0]⟩, ⟨.slice (some ⟨g4, 0, none⟩) 4 4, 5, 1, nums .u8 [1, 2, 3, 4]⟩]) , RunAny Go.Proofs.Try.prog (Ret fun v w' => v = .bool r ∧ Mem w w' []) 13 (rest1 (pl Go.Proofs.Try.f13 [1, 1, 1, 1, 1, 1, 0])) 82 (opsOf (pl Go.Proofs.Try.f13 [1, 1, 1, 1, 1, 1, 0])) (Still W328 []) 31 [0, 1, 2, 3, 4, 5, 6, 7, 8, 9, 24] [(0, .int .i64 a0), (3, .int .u32 t8.1), (5, .int .u64 t13.1), (8, .bool t18.2), (10, .bool t23.2), (35, .bool (t8.1 == 67305985)), (37, .bool (t13.1 == 256)), (43, .bool (!t23.2)), (58, .slice (some ⟨g72, 0, none⟩) 2 2)] W328 := by
          intro g72 W328 hS hM 
          refine RunAny.all [10, 20] (ready_of_cert hC30 (by kernel_rfl)) (by simp) ?_
          refine ⟨?_, ?_, trivial⟩
          · refine Stepped.call 10 (d := some 44) (g := 26) (args := #[.int .u32 2147483649, .int .i64 1]) (by kernel_rfl) (words_Rol32.calls k 2147483649 1 t32 _ ht32) (by rintro _ _ ⟨rfl, hM_⟩; exact hS.below hM_.below) ?_
            rintro _ W329 ⟨rfl, hM_⟩
            replace hS := hS.below hM_.below
            replace hM := hM.call hM_
            clear hM_ ht32
            refine RunAny.rebase hS ?_
            replace hS := Still.refl W329 []
            refine RunAny.y 11 (side_of_cert hC30 (by kernel_rfl)) (yl_pure (d := some 45) (v := .bool (t32 == 3)) (k2 := [.inRegion (opsOf (pl Go.Proofs.Try.f13 [1, 1, 1, 1, 1, 1, 0])) []]) fun w => by kernel_rfl) (fun _ _ => trivial) hS ?_
            exact RunAny.same [0, 1, 2, 3, 4, 5, 6, 7, 8, 9, 24, 10, 11] (lst_of_mask (by kernel_rfl)) [0, 3, 5, 8, 10, 35, 37, 43, 45, 58] (by kernel_rfl) (J303 g72 _ hS (hM.pick [0, 1, 2, 3, 4, 5] rfl rfl))
          · refine Stepped.new 20 5 1 2 (nums .u8 [18, 52]) (d := some 54) (k2 := [.inRegion (opsOf (pl Go.Proofs.Try.f13 [1, 1, 1, 1, 1, 1, 0])) []]) hM (by simp [nums, bools, strs]) (by kernel_rfl) (by kernel_rfl) hS ?_
            intro g330 W331 hS hM
            refine RunAny.rebase hS ?_
            replace hS := Still.refl W331 []
            exact RunAny.same [0, 1, 2, 3, 4, 5, 6, 7, 8, 9, 20, 24] (lst_of_mask (by kernel_rfl)) [0, 3, 5, 8, 10, 35, 37, 43, 54, 58] (by kernel_rfl) (J315 g330 g72 _ hS (hM.pick [0, 1, 2, 3, 4, 5, 6] rfl rfl))
        have J333 : ∀ (g69 : Nat) (W334 : World) (hS : Still W334 [] W334) (hM : Mem w W334 [⟨.slice (some ⟨g69, 0, none⟩) 2 2, 5, 1, nums .u8 [18, 52]⟩, ⟨.slice A24 t23.1.length c26, 5, 1, nums .u8 t23.1⟩, ⟨.slice (some ⟨g19, 0, none⟩) 1 1, 5, 1, nums .u8 [1]⟩, ⟨.slice (some ⟨g14, 0, none⟩) 3 3, 5, 1, nums .u8 [1, 2, 3]⟩, ⟨.slice (some ⟨g9, 0, none⟩) 8 8, 5, 1, nums .u8 [0, 0, 0, 0, 0, 0, 1, 0]⟩, ⟨.slice (some ⟨g4, 0, none⟩) 4 4, 5, 1, nums .u8 [1, 2, 3, 4]⟩]) , RunAny Go.Proofs.Try.prog (Ret fun v w' => v = .bool r ∧ Mem w w' []) 13 (rest1 (pl Go.Proofs.Try.f13 [1, 1, 1, 1, 1, 1, 0])) 82 (opsOf (pl Go.Proofs.Try.f13 [1, 1, 1, 1, 1, 1, 0])) (Still W334 []) 31 [0, 1, 2, 3, 4, 5, 6, 7, 8, 9, 20] [(0, .int .i64 a0), (3, .int .u32 t8.1), (5, .int .u64 t13.1), (8, .bool t18.2), (10, .bool t23.2), (35, .bool (t8.1 == 67305985)), (37, .bool (t13.1 == 256)), (43, .bool (!t23.2)), (54, .slice (some ⟨g69, 0, none⟩) 2 2)] W334 := by
          intro g69 W334 hS hM 
          refine RunAny.all [10, 24] (ready_of_cert hC30 (by kernel_rfl)) (by simp) ?_
          refine ⟨?_, ?_, trivial⟩
          · refine Stepped.call 10 (d := some 44) (g := 26) (args := #[.int .u32 2147483649, .int .i64 1]) (by kernel_rfl) (words_Rol32.calls k 2147483649 1 t32 _ ht32) (by rintro _ _ ⟨rfl, hM_⟩; exact hS.below hM_.below) ?_
            rintro _ W335 ⟨rfl, hM_⟩
            replace hS := hS.below hM_.below
            replace hM := hM.call hM_
            clear hM_ ht32
            refine RunAny.rebase hS ?_
            replace hS := Still.refl W335 []
            refine RunAny.y 11 (side_of_cert hC30 (by kernel_rfl)) (yl_pure (d := some 45) (v := .bool (t32 == 3)) (k2 := [.inRegion (opsOf (pl Go.Proofs.Try.f13 [1, 1, 1, 1, 1, 1, 0])) []]) fun w => by kernel_rfl) (fun _ _ => trivial) hS ?_
            exact RunAny.same [0, 1, 2, 3, 4, 5, 6, 7, 8, 9, 20, 10, 11] (lst_of_mask (by kernel_rfl)) [0, 3, 5, 8, 10, 35, 37, 43, 45, 54] (by kernel_rfl) (J309 g69 _ hS (hM.pick [0, 1, 2, 3, 4, 5] rfl rfl))
          · refine Stepped.new 24 5 1 2 (nums .u8 [255, 255]) (d := some 58) (k2 := [.inRegion (opsOf (pl Go.Proofs.Try.f13 [1, 1, 1, 1, 1, 1, 0])) []]) hM (by simp [nums, bools, strs]) (by kernel_rfl) (by kernel_rfl) hS ?_
            intro g336 W337 hS hM
            refine RunAny.rebase hS ?_
            replace hS := Still.refl W337 []
            exact RunAny.same [0, 1, 2, 3, 4, 5, 6, 7, 8, 9, 20, 24] (lst_of_mask (by kernel_rfl)) [0, 3, 5, 8, 10, 35, 37, 43, 54, 58] (by kernel_rfl) (J315 g69 g336 _ hS (hM.pick [1, 0, 2, 3, 4, 5, 6] rfl rfl))
        refine RunAny.all [10, 20, 24] (ready_of_cert hC30 (by kernel_rfl)) (by simp) ?_
        refine ⟨?_, ?_, ?_, trivial⟩
        · refine Stepped.call 10 (d := some 44) (g := 26) (args := #[.int .u32 2147483649, .int .i64 1]) (by kernel_rfl) (words_Rol32.calls k 2147483649 1 t32 _ ht32) (by rintro _ _ ⟨rfl, hM_⟩; exact hS.below hM_.below) ?_
          rintro _ W339 ⟨rfl, hM_⟩
          replace hS := hS.below hM_.below
          replace hM := hM.call hM_
          clear hM_ ht32
          refine RunAny.rebase hS ?_
          replace hS := Still.refl W339 []
          refine RunAny.y 11 (side_of_cert hC30 (by kernel_rfl)) (yl_pure (d := some 45) (v := .bool (t32 == 3)) (k2 := [.inRegion (opsOf (pl Go.Proofs.Try.f13 [1, 1, 1, 1, 1, 1, 0])) []]) fun w => by kernel_rfl) (fun _ _ => trivial) hS ?_
          exact RunAny.same [0, 1, 2, 3, 4, 5, 6, 7, 8, 9, 10, 11] (lst_of_mask (by kernel_rfl)) [0, 3, 5, 8, 10, 35, 37, 43, 45] (by kernel_rfl) (J318 _ hS (hM.pick [0, 1, 2, 3, 4] rfl rfl))
        · refine Stepped.new 20 5 1 2 (nums .u8 [18, 52]) (d := some 54) (k2 := [.inRegion (opsOf (pl Go.Proofs.Try.f13 [1, 1, 1, 1, 1, 1, 0])) []]) hM (by simp [nums, bools, strs]) (by kernel_rfl) (by kernel_rfl) hS ?_
          intro g340 W341 hS hM
          refine RunAny.rebase hS ?_
          replace hS := Still.refl W341 []
          exact RunAny.same [0, 1, 2, 3, 4, 5, 6, 7, 8, 9, 20] (lst_of_mask (by kernel_rfl)) [0, 3, 5, 8, 10, 35, 37, 43, 54] (by kernel_rfl) (J333 g340 _ hS (hM.pick [0, 1, 2, 3, 4, 5] rfl rfl))
        · refine Stepped.new 24 5 1 2 (nums .u8 [255, 255]) (d := some 58) (k2 := [.inRegion (opsOf (pl Go.Proofs.Try.f13 [1, 1, 1, 1, 1, 1, 0])) []]) hM (by simp [nums, bools, strs]) (by kernel_rfl) (by kernel_rfl) hS ?_
          intro g343 W344 hS hM
          refine RunAny.rebase hS ?_
          replace hS := Still.refl W344 []
          exact RunAny.same [0, 1, 2, 3, 4, 5, 6, 7, 8, 9, 24] (lst_of_mask (by kernel_rfl)) [0, 3, 5, 8, 10, 35, 37, 43, 58] (by kernel_rfl) (J327 g343 _ hS (hM.pick [0, 1, 2, 3, 4, 5] rfl rfl))
      · replace h := of_false h c67
        obtain ⟨t400, ht400, h⟩ := Option.bind_eq_some_iff.mp h
        have J420 : ∀ (g347 : Nat) (A413 : Option Addr) (c415 : Nat) (g354 : Nat) (W421 : World) (hS : Still W421 [] W421) (hM : Mem w W421 [⟨.slice (some ⟨g347, 0, none⟩) 2 2, 5, 1, nums .u8 [18, 52]⟩, ⟨.slice A413 t400.length c415, 5, 1, nums .u8 t400⟩, ⟨.slice (some ⟨g354, 0, none⟩) 2 2, 5, 1, nums .u8 [255, 255]⟩, ⟨.slice A24 t23.1.length c26, 5, 1, nums .u8 t23.1⟩, ⟨.slice (some ⟨g19, 0, none⟩) 1 1, 5, 1, nums .u8 [1]⟩, ⟨.slice (some ⟨g14, 0, none⟩) 3 3, 5, 1, nums .u8 [1, 2, 3]⟩, ⟨.slice (some ⟨g9, 0, none⟩) 8 8, 5, 1, nums .u8 [0, 0, 0, 0, 0, 0, 1, 0]⟩, ⟨.slice (some ⟨g4, 0, none⟩) 4 4, 5, 1, nums .u8 [1, 2, 3, 4]⟩]) , RunAny Go.Proofs.Try.prog (Ret fun v w' => v = .bool r ∧ Mem w w' []) 13 (rest1 (pl Go.Proofs.Try.f13 [1, 1, 1, 1, 1, 1, 0])) 82 (opsOf (pl Go.Proofs.Try.f13 [1, 1, 1, 1, 1, 1, 0])) (Still W421 []) 17 [0, 1, 2, 3, 4, 5, 6, 7, 8, 9, 20, 24, 10, 11, 12, 13, 14, 15, 16, 17, 18, 19, 21, 22, 23] [(0, .int .i64 a0), (3, .int .u32 t8.1), (5, .int .u64 t13.1), (8, .bool t18.2), (10, .bool t23.2), (35, .bool (t8.1 == 67305985)), (37, .bool (t13.1 == 256)), (43, .bool (!t23.2)), (45, .bool (t32 == 3)), (47, .bool (t48 == 2147483648)), (53, .bool false), (57, .bool ((strOf t400).toList == (⟨#[35, 65]⟩ : ByteArray).toList)), (58, .slice (some ⟨g354, 0, none⟩) 2 2)] W421 := by
          intro g347 A413 c415 g354 W421 hS hM 
          obtain ⟨t423, ht423, h⟩ := Option.bind_eq_some_iff.mp h
          refine RunAny.call 25 (d := some 59) (g := 16) (args := #[.slice (some ⟨g354, 0, none⟩) 2 2]) (ready_of_cert hC30 (by kernel_rfl)) (by kernel_rfl) (words_Inc.calls k (some ⟨g354, 0, none⟩) 2 2 ([255, 255] : List Int) t423 _ (hM.rd 2 rfl) ht423) (by rintro _ _ ⟨_, _, _, rfl, hM_⟩; exact hS.below hM_.below) ?_
          rintro _ W422 ⟨A424, n425, c426, rfl, hM_⟩
          obtain rfl : t423.length = n425 := by have h_ := (hM_.rd 0 rfl).1; simpa [nums_length, bools_length, strs_length] using h_
          replace hS := hS.below hM_.below
          replace hM := hM.call hM_
          clear hM_ ht423
          refine RunAny.rebase hS ?_
          replace hS := Still.refl W422 []
          refine RunAny.y 26 (side_of_cert hC30 (by kernel_rfl)) (str_y (d := some 60) (A := A424) (m := t423.length) (c := c426) (k2 := [.inRegion (opsOf (pl Go.Proofs.Try.f13 [1, 1, 1, 1, 1, 1, 0])) []]) t423 (by kernel_rfl)) (fun _ hs => ((hM.rd 0 rfl).still hs (by simp))) hS ?_
          refine RunAny.y 27 (side_of_cert hC30 (by kernel_rfl)) (yl_pure (d := some 61) (v := .bool ((strOf t423).toList == (⟨#[0, 0]⟩ : ByteArray).toList)) (k2 := [.inRegion (opsOf (pl Go.Proofs.Try.f13 [1, 1, 1, 1, 1, 1, 0])) []]) fun w => by kernel_rfl) (fun _ _ => trivial) hS ?_
          refine RunAny.y 28 (side_of_cert hC30 (by kernel_rfl)) (yl_pure (d := some 62) (v := .bool ((strOf t423).toList == (⟨#[0, 0]⟩ : ByteArray).toList)) (k2 := [.inRegion (opsOf (pl Go.Proofs.Try.f13 [1, 1, 1, 1, 1, 1, 0])) []]) fun w => by kernel_rfl) (fun _ _ => trivial) hS ?_
          rcases two (((strOf t423).toList == (⟨#[0, 0]⟩ : ByteArray).toList)) with c428 | c428
          · replace h := of_true h c428
            refine RunAny.know 62 (b := true) (by kernel_rfl) c428 ?_
            refine RunAny.new 29 5 1 3 (nums .u8 [0, 1, 255]) (d := some 63) (k2 := [.inRegion (opsOf (pl Go.Proofs.Try.f13 [1, 1, 1, 1, 1, 1, 0])) []]) (ready_of_cert hC30 (by kernel_rfl)) hM (by simp [nums, bools, strs]) (by kernel_rfl) (by kernel_rfl) hS ?_
            intro g429 W430 hS hM
            refine RunAny.rebase hS ?_
            replace hS := Still.refl W430 []
            obtain ⟨t433, ht433, h⟩ := Option.bind_eq_some_iff.mp h
            refine RunAny.call 30 (d := some 64) (g := 16) (args := #[.slice (some ⟨g429, 0, none⟩) 3 3]) (ready_of_cert hC30 (by kernel_rfl)) (by kernel_rfl) (words_Inc.calls k (some ⟨g429, 0, none⟩) 3 3 ([0, 1, 255] : List Int) t433 _ (hM.rd 0 rfl) ht433) (by rintro _ _ ⟨_, _, _, rfl, hM_⟩; exact hS.below hM_.below) ?_
            rintro _ W432 ⟨A434, n435, c436, rfl, hM_⟩
            obtain rfl : t433.length = n435 := by have h_ := (hM_.rd 0 rfl).1; simpa [nums_length, bools_length, strs_length] using h_
            replace hS := hS.below hM_.below
            replace hM := hM.call hM_
            clear hM_ ht433
            refine RunAny.rebase hS ?_
            replace hS := Still.refl W432 []
            refine RunAny.y 31 (side_of_cert hC30 (by kernel_rfl)) (str_y (d := some 65) (A := A434) (m := t433.length) (c := c436) (k2 := [.inRegion (opsOf (pl Go.Proofs.Try.f13 [1, 1, 1, 1, 1, 1, 0])) []]) t433 (by kernel_rfl)) (fun _ hs => ((hM.rd 0 rfl).still hs (by simp))) hS ?_
            refine RunAny.y 32 (side_of_cert hC30 (by kernel_rfl)) (yl_pure (d := some 66) (v := .bool ((strOf t433).toList == (⟨#[0, 2, 0]⟩ : ByteArray).toList)) (k2 := [.inRegion (opsOf (pl Go.Proofs.Try.f13 [1, 1, 1, 1, 1, 1, 0])) []]) fun w => by kernel_rfl) (fun _ _ => trivial) hS ?_
            refine RunAny.y 33 (side_of_cert hC30 (by kernel_rfl)) (yl_pure (d := some 67) (v := .bool ((strOf t433).toList == (⟨#[0, 2, 0]⟩ : ByteArray).toList)) (k2 := [.inRegion (opsOf (pl Go.Proofs.Try.f13 [1, 1, 1, 1, 1, 1, 0])) []]) fun w => by kernel_rfl) (fun _ _ => trivial) hS ?_
            obtain ⟨t439, ht439, h⟩ := Option.bind_eq_some_iff.mp h
            refine RunAny.call 34 (d := some 68) (g := 16) (args := #[.slice none 0 0]) (ready_of_cert hC30 (by kernel_rfl)) (by kernel_rfl) (words_Inc.calls k none 0 0 ([] : List Int) t439 _ (Rd.nil _ .u8) ht439) (by rintro _ _ ⟨_, _, _, rfl, hM_⟩; exact hS.below hM_.below) ?_
            rintro _ W438 ⟨A440, n441, c442, rfl, hM_⟩
            obtain rfl : t439.length = n441 := by have h_ := (hM_.rd 0 rfl).1; simpa [nums_length, bools_length, strs_length] using h_
            replace hS := hS.below hM_.below
            replace hM := hM.call hM_
            clear hM_ ht439
            refine RunAny.rebase hS ?_
            replace hS := Still.refl W438 []
            refine RunAny.y 35 (side_of_cert hC30 (by kernel_rfl)) (yl_pure (d := some 69) (v := .int .i64 (t439.length : Int)) (k2 := [.inRegion (opsOf (pl Go.Proofs.Try.f13 [1, 1, 1, 1, 1, 1, 0])) []]) fun w => by kernel_rfl) (fun _ _ => trivial) hS ?_
            refine RunAny.y 36 (side_of_cert hC30 (by kernel_rfl)) (yl_pure (d := some 70) (v := .bool ((t439.length : Int) == 0)) (k2 := [.inRegion (opsOf (pl Go.Proofs.Try.f13 [1, 1, 1, 1, 1, 1, 0])) []]) fun w => by kernel_rfl) (fun _ _ => trivial) hS ?_
            obtain ⟨t445, ht445, h⟩ := Option.bind_eq_some_iff.mp h
            refine RunAny.call 37 (d := some 71) (g := 34) (args := #[.int .u32 16909060]) (ready_of_cert hC30 (by kernel_rfl)) (by kernel_rfl) (words_PutLe32.calls k 16909060 t445 _ ht445) (by rintro _ _ ⟨_, _, _, rfl, hM_⟩; exact hS.below hM_.below) ?_
            rintro _ W444 ⟨A446, n447, c448, rfl, hM_⟩
            obtain rfl : t445.length = n447 := by have h_ := (hM_.rd 0 rfl).1; simpa [nums_length, bools_length, strs_length] using h_
            replace hS := hS.below hM_.below
            replace hM := hM.call hM_
            clear hM_ ht445
            refine RunAny.rebase hS ?_
            replace hS := Still.refl W444 []
            refine RunAny.y 38 (side_of_cert hC30 (by kernel_rfl)) (str_y (d := some 72) (A := A446) (m := t445.length) (c := c448) (k2 := [.inRegion (opsOf (pl Go.Proofs.Try.f13 [1, 1, 1, 1, 1, 1, 0])) []]) t445 (by kernel_rfl)) (fun _ hs => ((hM.rd 0 rfl).still hs (by simp))) hS ?_
            refine RunAny.y 39 (side_of_cert hC30 (by kernel_rfl)) (yl_pure (d := some 73) (v := .bool ((strOf t445).toList == (⟨#[4, 3, 2, 1]⟩ : ByteArray).toList)) (k2 := [.inRegion (opsOf (pl Go.Proofs.Try.f13 [1, 1, 1, 1, 1, 1, 0])) []]) fun w => by kernel_rfl) (fun _ _ => trivial) hS ?_
            refine RunAny.new 40 4 1 10 (bools [(t8.1 == 67305985), (t13.1 == 256), !t23.2, (t32 == 3), (t48 == 2147483648), false, ((strOf t400).toList == (⟨#[35, 65]⟩ : ByteArray).toList), ((strOf t433).toList == (⟨#[0, 2, 0]⟩ : ByteArray).toList), ((t439.length : Int) == 0), ((strOf t445).toList == (⟨#[4, 3, 2, 1]⟩ : ByteArray).toList)]) (d := some 74) (k2 := [.inRegion (opsOf (pl Go.Proofs.Try.f13 [1, 1, 1, 1, 1, 1, 0])) []]) (ready_of_cert hC30 (by kernel_rfl)) hM (by simp [nums, bools, strs]) (by kernel_rfl) (by kernel_rfl) hS ?_
            intro g450 W451 hS hM
            refine RunAny.rebase hS ?_
            replace hS := Still.refl W451 []
            refine RunAny.y 41 (side_of_cert hC30 (by kernel_rfl)) (yl_pure (d := some 11) (v := .slice (some ⟨g450, 0, none⟩) 10 10) (k2 := [.inRegion (opsOf (pl Go.Proofs.Try.f13 [1, 1, 1, 1, 1, 1, 0])) []]) fun w => by kernel_rfl) (fun _ _ => trivial) hS ?_
            refine RunAny.done (ready_of_cert hC30 (by kernel_rfl)) ?_
            clear hS
            refine RunF.go 6 [75, 76, 78] (k' := (pin Go.Proofs.Try.f13 [1, 1, 1, 1, 1, 1, 1, 0] 4)) (L' := [(75, .slice (some ⟨g450, 0, none⟩) 10 10), (76, .int .i64 a0), (78, .int .i64 10)]) (w' := W451) (by kernel_rfl) ?_
            obtain ⟨t454, ht454, h⟩ := Option.bind_eq_some_iff.mp h
            refine RunF.call (d := some 79) (g := 15) (args := #[.int .i64 a0, .int .i64 10]) (k2 := (pin Go.Proofs.Try.f13 [1, 1, 1, 1, 1, 1, 1, 0] 5)) (by kernel_rfl) (scrimlaw1_within.calls k a0 10 t454 _ ht454) ?_
            rintro _ W453 ⟨rfl, hM_⟩
            replace hM := hM.call hM_
            clear hM_ ht454
            rcases two (decide (0 ≤ t454)) with c456 | c456
            · replace h := of_true h c456
              rcases two (decide (t454 < (10 : Int))) with c457 | c457
              · replace h := of_true h c457
                obtain ⟨q455, hAq455, hcq455, hfq455, hlq455⟩ := hM.bool_at 0 rfl (i := t454) (of_decide_eq_true c456) (by have h_ := of_decide_eq_true c457; omega)
                refine RunF.y (idx_own (d := some 80) (A := (some ⟨g450, 0, none⟩)) (m := 10) (i := t454) (k2 := (pin Go.Proofs.Try.f13 [1, 1, 1, 1, 1, 1, 1, 0] 6)) (by kernel_rfl) (of_decide_eq_true c456) (by have h_ := of_decide_eq_true c457; omega) hAq455) trivial ?_
                refine RunF.y (ld_y (d := some 81) (p := ⟨q455, (t454 : Int).toNat, none⟩) (k2 := (pin Go.Proofs.Try.f13 [1, 1, 1, 1, 1, 1, 1, 0] 7)) (.bool (rdb ([(t8.1 == 67305985), (t13.1 == 256), !t23.2, (t32 == 3), (t48 == 2147483648), false, ((strOf t400).toList == (⟨#[35, 65]⟩ : ByteArray).toList), ((strOf t433).toList == (⟨#[0, 2, 0]⟩ : ByteArray).toList), ((t439.length : Int) == 0), ((strOf t445).toList == (⟨#[4, 3, 2, 1]⟩ : ByteArray).toList)] : List Bool) t454)) (by kernel_rfl)) hcq455 ?_
                refine RunF.go 2 [2] (k' := (pl Go.Proofs.Try.f13 [1, 1, 1, 1, 1, 1, 1, 1])) (L' := [(2, .bool (rdb ([(t8.1 == 67305985), (t13.1 == 256), !t23.2, (t32 == 3), (t48 == 2147483648), false, ((strOf t400).toList == (⟨#[35, 65]⟩ : ByteArray).toList), ((strOf t433).toList == (⟨#[0, 2, 0]⟩ : ByteArray).toList), ((t439.length : Int) == 0), ((strOf t445).toList == (⟨#[4, 3, 2, 1]⟩ : ByteArray).toList)] : List Bool) t454))]) (w' := W453) (by kernel_rfl) ?_
                obtain rfl := Option.some.inj h
                exact RunF.ret1 2 (.bool (rdb ([(t8.1 == 67305985), (t13.1 == 256), !t23.2, (t32 == 3), (t48 == 2147483648), false, ((strOf t400).toList == (⟨#[35, 65]⟩ : ByteArray).toList), ((strOf t433).toList == (⟨#[0, 2, 0]⟩ : ByteArray).toList), ((t439.length : Int) == 0), ((strOf t445).toList == (⟨#[4, 3, 2, 1]⟩ : ByteArray).toList)] : List Bool) t454)) (fn := Go.Proofs.Try.f13) Go.Proofs.Try.func13 (by kernel_rfl) (by kernel_rfl) (by kernel_rfl) ⟨_, rfl, rfl, (hM.pick [] rfl rfl)⟩
              · replace h := of_false h c457
                cases h
            · replace h := of_false h c456
              cases h
          · replace h := of_false h c428
            refine RunAny.know 62 (b := false) (by kernel_rfl) c428 ?_
            refine RunAny.off 29 (d := some 63) (side_of_cert hC30 (by kernel_rfl)) (by kernel_rfl) hS ?_
            refine RunAny.off 30 (d := some 64) (side_of_cert hC30 (by kernel_rfl)) (by kernel_rfl) hS ?_
            refine RunAny.off 31 (d := some 65) (side_of_cert hC30 (by kernel_rfl)) (by kernel_rfl) hS ?_
            refine RunAny.off 32 (d := some 66) (side_of_cert hC30 (by kernel_rfl)) (by kernel_rfl) hS ?_
            refine RunAny.y 33 (side_of_cert hC30 (by kernel_rfl)) (yl_pure (d := some 67) (v := .bool false) (k2 := [.inRegion (opsOf (pl Go.Proofs.Try.f13 [1, 1, 1, 1, 1, 1, 0])) []]) fun w => by kernel_rfl) (fun _ _ => trivial) hS ?_
            obtain ⟨t459, ht459, h⟩ := Option.bind_eq_some_iff.mp h
            refine RunAny.call 34 (d := some 68) (g := 16) (args := #[.slice none 0 0]) (ready_of_cert hC30 (by kernel_rfl)) (by kernel_rfl) (words_Inc.calls k none 0 0 ([] : List Int) t459 _ (Rd.nil _ .u8) ht459) (by rintro _ _ ⟨_, _, _, rfl, hM_⟩; exact hS.below hM_.below) ?_
            rintro _ W458 ⟨A460, n461, c462, rfl, hM_⟩
            obtain rfl : t459.length = n461 := by have h_ := (hM_.rd 0 rfl).1; simpa [nums_length, bools_length, strs_length] using h_
            replace hS := hS.below hM_.below
            replace hM := hM.call hM_
            clear hM_ ht459
            refine RunAny.rebase hS ?_
            replace hS := Still.refl W458 []
            refine RunAny.y 35 (side_of_cert hC30 (by kernel_rfl)) (yl_pure (d := some 69) (v := .int .i64 (t459.length : Int)) (k2 := [.inRegion (opsOf (pl Go.Proofs.Try.f13 [1, 1, 1, 1, 1, 1, 0])) []]) fun w => by kernel_rfl) (fun _ _ => trivial) hS ?_
            refine RunAny.y 36 (side_of_cert hC30 (by kernel_rfl)) (yl_pure (d := some 70) (v := .bool ((t459.length : Int) == 0)) (k2 := [.inRegion (opsOf (pl Go.Proofs.Try.f13 [1, 1, 1, 1, 1, 1, 0])) []]) fun w => by kernel_rfl) (fun _ _ => trivial) hS ?_
            obtain ⟨t465, ht465, h⟩ := Option.bind_eq_some_iff.mp h
            refine RunAny.call 37 (d := some 71) (g := 34) (args := #[.int .u32 16909060]) (ready_of_cert hC30 (by kernel_rfl)) (by kernel_rfl) (words_PutLe32.calls k 16909060 t465 _ ht465) (by rintro _ _ ⟨_, _, _, rfl, hM_⟩; exact hS.below hM_.below) ?_
            rintro _ W464 ⟨A466, n467, c468, rfl, hM_⟩
            obtain rfl : t465.length = n467 := by have h_ := (hM_.rd 0 rfl).1; simpa [nums_length, bools_length, strs_length] using h_
            replace hS := hS.below hM_.below
            replace hM := hM.call hM_
            clear hM_ ht465
            refine RunAny.rebase hS ?_
            replace hS := Still.refl W464 []
            refine RunAny.y 38 (side_of_cert hC30 (by kernel_rfl)) (str_y (d := some 72) (A := A466) (m := t465.length) (c := c468) (k2 := [.inRegion (opsOf (pl Go.Proofs.Try.f13 [1, 1, 1, 1, 1, 1, 0])) []]) t465 (by kernel_rfl)) (fun _ hs => ((hM.rd 0 rfl).still hs (by simp))) hS ?_
            refine RunAny.y 39 (side_of_cert hC30 (by kernel_rfl)) (yl_pure (d := some 73) (v := .bool ((strOf t465).toList == (⟨#[4, 3, 2, 1]⟩ : ByteArray).toList)) (k2 := [.inRegion (opsOf (pl Go.Proofs.Try.f13 [1, 1, 1, 1, 1, 1, 0])) []]) fun w => by kernel_rfl) (fun _ _ => trivial) hS ?_
            refine RunAny.new 40 4 1 10 (bools [(t8.1 == 67305985), (t13.1 == 256), !t23.2, (t32 == 3), (t48 == 2147483648), false, ((strOf t400).toList == (⟨#[35, 65]⟩ : ByteArray).toList), false, ((t459.length : Int) == 0), ((strOf t465).toList == (⟨#[4, 3, 2, 1]⟩ : ByteArray).toList)]) (d := some 74) (k2 := [.inRegion (opsOf (pl Go.Proofs.Try.f13 [1, 1, 1, 1, 1, 1, 0])) []]) (ready_of_cert hC30 (by kernel_rfl)) hM (by simp [nums, bools, strs]) (by kernel_rfl) (by kernel_rfl) hS ?_
            intro g470 W471 hS hM
            refine RunAny.rebase hS ?_
            replace hS := Still.refl W471 []
            refine RunAny.y 41 (side_of_cert hC30 (by kernel_rfl)) (yl_pure (d := some 11) (v := .slice (some ⟨g470, 0, none⟩) 10 10) (k2 := [.inRegion (opsOf (pl Go.Proofs.Try.f13 [1, 1, 1, 1, 1, 1, 0])) []]) fun w => by kernel_rfl) (fun _ _ => trivial) hS ?_
            refine RunAny.done (ready_of_cert hC30 (by kernel_rfl)) ?_
            clear hS
            refine RunF.go 6 [75, 76, 78] (k' := (pin Go.Proofs.Try.f13 [1, 1, 1, 1, 1, 1, 1, 0] 4)) (L' := [(75, .slice (some ⟨g470, 0, none⟩) 10 10), (76, .int .i64 a0), (78, .int .i64 10)]) (w' := W471) (by kernel_rfl) ?_
            obtain ⟨t474, ht474, h⟩ := Option.bind_eq_some_iff.mp h
            refine RunF.call (d := some 79) (g := 15) (args := #[.int .i64 a0, .int .i64 10]) (k2 := (pin Go.Proofs.Try.f13 [1, 1, 1, 1, 1, 1, 1, 0] 5)) (by kernel_rfl) (scrimlaw1_within.calls k a0 10 t474 _ ht474) ?_
            rintro _ W473 ⟨rfl, hM_⟩
            replace hM := hM.call hM_
            clear hM_ ht474
            rcases two (decide (0 ≤ t474)) with c476 | c476
            · replace h := of_true h c476
              rcases two (decide (t474 < (10 : Int))) with c477 | c477
              · replace h := of_true h c477
                obtain ⟨q475, hAq475, hcq475, hfq475, hlq475⟩ := hM.bool_at 0 rfl (i := t474) (of_decide_eq_true c476) (by have h_ := of_decide_eq_true c477; omega)
                refine RunF.y (idx_own (d := some 80) (A := (some ⟨g470, 0, none⟩)) (m := 10) (i := t474) (k2 := (pin Go.Proofs.Try.f13 [1, 1, 1, 1, 1, 1, 1, 0] 6)) (by kernel_rfl) (of_decide_eq_true c476) (by have h_ := of_decide_eq_true c477; omega) hAq475) trivial ?_
                refine RunF.y (ld_y (d := some 81) (p := ⟨q475, (t474 : Int).toNat, none⟩) (k2 := (pin Go.Proofs.Try.f13 [1, 1, 1, 1, 1, 1, 1, 0] 7)) (.bool (rdb ([(t8.1 == 67305985), (t13.1 == 256), !t23.2, (t32 == 3), (t48 == 2147483648), false, ((strOf t400).toList == (⟨#[35, 65]⟩ : ByteArray).toList), false, ((t459.length : Int) == 0), ((strOf t465).toList == (⟨#[4, 3, 2, 1]⟩ : ByteArray).toList)] : List Bool) t474)) (by kernel_rfl)) hcq475 ?_
                refine RunF.go 2 [2] (k' := (pl Go.Proofs.Try.f13 [1, 1, 1, 1, 1, 1, 1, 1])) (L' := [(2, .bool (rdb ([(t8.1 == 67305985), (t13.1 == 256), !t23.2, (t32 == 3), (t48 == 2147483648), false, ((strOf t400).toList == (⟨#[35, 65]⟩ : ByteArray).toList), false, ((t459.length : Int) == 0), ((strOf t465).toList == (⟨#[4, 3, 2, 1]⟩ : ByteArray).toList)] : List Bool) t474))]) (w' := W473) (by kernel_rfl) ?_
                obtain rfl := Option.some.inj h
                exact RunF.ret1 2 (.bool (rdb ([(t8.1 == 67305985), (t13.1 == 256), !t23.2, (t32 == 3), (t48 == 2147483648), false, ((strOf t400).toList == (⟨#[35, 65]⟩ : ByteArray).toList), false, ((t459.length : Int) == 0), ((strOf t465).toList == (⟨#[4, 3, 2, 1]⟩ : ByteArray).toList)] : List Bool) t474)) (fn := Go.Proofs.Try.f13) Go.Proofs.Try.func13 (by kernel_rfl) (by kernel_rfl) (by kernel_rfl) ⟨_, rfl, rfl, (hM.pick [] rfl rfl)⟩
              · replace h := of_false h c477
                cases h
            · replace h := of_false h c476
              cases h
        have J478 : ∀ (g347 : Nat) (A402 : Option Addr) (c404 : Nat) (W479 : World) (hS : Still W479 [] W479) (hM : Mem w W479 [⟨.slice (some ⟨g347, 0, none⟩) 2 2, 5, 1, nums .u8 [18, 52]⟩, ⟨.slice A402 t400.length c404, 5, 1, nums .u8 t400⟩, ⟨.slice A24 t23.1.length c26, 5, 1, nums .u8 t23.1⟩, ⟨.slice (some ⟨g19, 0, none⟩) 1 1, 5, 1, nums .u8 [1]⟩, ⟨.slice (some ⟨g14, 0, none⟩) 3 3, 5, 1, nums .u8 [1, 2, 3]⟩, ⟨.slice (some ⟨g9, 0, none⟩) 8 8, 5, 1, nums .u8 [0, 0, 0, 0, 0, 0, 1, 0]⟩, ⟨.slice (some ⟨g4, 0, none⟩) 4 4, 5, 1, nums .u8 [1, 2, 3, 4]⟩]) , RunAny Go.Proofs.Try.prog (Ret fun v w' => v = .bool r ∧ Mem w w' []) 13 (rest1 (pl Go.Proofs.Try.f13 [1, 1, 1, 1, 1, 1, 0])) 82 (opsOf (pl Go.Proofs.Try.f13 [1, 1, 1, 1, 1, 1, 0])) (Still W479 []) 18 [0, 1, 2, 3, 4, 5, 6, 7, 8, 9, 20, 10, 11, 12, 13, 14, 15, 16, 17, 18, 19, 21, 22, 23] [(0, .int .i64 a0), (3, .int .u32 t8.1), (5, .int .u64 t13.1), (8, .bool t18.2), (10, .bool t23.2), (35, .bool (t8.1 == 67305985)), (37, .bool (t13.1 == 256)), (43, .bool (!t23.2)), (45, .bool (t32 == 3)), (47, .bool (t48 == 2147483648)), (53, .bool false), (57, .bool ((strOf t400).toList == (⟨#[35, 65]⟩ : ByteArray).toList))] W479 := by
          intro g347 A402 c404 W479 hS hM 
          refine RunAny.new 24 5 1 2 (nums .u8 [255, 255]) (d := some 58) (k2 := [.inRegion (opsOf (pl Go.Proofs.Try.f13 [1, 1, 1, 1, 1, 1, 0])) []]) (ready_of_cert hC30 (by kernel_rfl)) hM (by simp [nums, bools, strs]) (by kernel_rfl) (by kernel_rfl) hS ?_
          intro g480 W481 hS hM
          refine RunAny.rebase hS ?_
          replace hS := Still.refl W481 []
          exact RunAny.same [0, 1, 2, 3, 4, 5, 6, 7, 8, 9, 20, 24, 10, 11, 12, 13, 14, 15, 16, 17, 18, 19, 21, 22, 23] (lst_of_mask (by kernel_rfl)) [0, 3, 5, 8, 10, 35, 37, 43, 45, 47, 53, 57, 58] (by kernel_rfl) (J420 g347 A402 c404 g480 _ hS (hM.pick [1, 2, 0, 3, 4, 5, 6, 7] rfl rfl))
        have J483 : ∀ (g347 : Nat) (g354 : Nat) (W484 : World) (hS : Still W484 [] W484) (hM : Mem w W484 [⟨.slice (some ⟨g347, 0, none⟩) 2 2, 5, 1, nums .u8 [18, 52]⟩, ⟨.slice (some ⟨g354, 0, none⟩) 2 2, 5, 1, nums .u8 [255, 255]⟩, ⟨.slice A24 t23.1.length c26, 5, 1, nums .u8 t23.1⟩, ⟨.slice (some ⟨g19, 0, none⟩) 1 1, 5, 1, nums .u8 [1]⟩, ⟨.slice (some ⟨g14, 0, none⟩) 3 3, 5, 1, nums .u8 [1, 2, 3]⟩, ⟨.slice (some ⟨g9, 0, none⟩) 8 8, 5, 1, nums .u8 [0, 0, 0, 0, 0, 0, 1, 0]⟩, ⟨.slice (some ⟨g4, 0, none⟩) 4 4, 5, 1, nums .u8 [1, 2, 3, 4]⟩]) , RunAny Go.Proofs.Try.prog (Ret fun v w' => v = .bool r ∧ Mem w w' []) 13 (rest1 (pl Go.Proofs.Try.f13 [1, 1, 1, 1, 1, 1, 0])) 82 (opsOf (pl Go.Proofs.Try.f13 [1, 1, 1, 1, 1, 1, 0])) (Still W484 []) 20 [0, 1, 2, 3, 4, 5, 6, 7, 8, 9, 20, 24, 10, 11, 12, 13, 14, 15, 16, 17, 18, 19] [(0, .int .i64 a0), (3, .int .u32 t8.1), (5, .int .u64 t13.1), (8, .bool t18.2), (10, .bool t23.2), (35, .bool (t8.1 == 67305985)), (37, .bool (t13.1 == 256)), (43, .bool (!t23.2)), (45, .bool (t32 == 3)), (47, .bool (t48 == 2147483648)), (53, .bool false), (54, .slice (some ⟨g347, 0, none⟩) 2 2), (58, .slice (some ⟨g354, 0, none⟩) 2 2)] W484 := by
          intro g347 g354 W484 hS hM 
          refine RunAny.call 21 (d := some 55) (g := 30) (args := #[.slice (some ⟨g347, 0, none⟩) 2 2, .int .i64 4]) (ready_of_cert hC30 (by kernel_rfl)) (by kernel_rfl) (words_Turn.calls k (some ⟨g347, 0, none⟩) 2 2 ([18, 52] : List Int) 4 t400 _ (hM.rd 0 rfl) ht400) (by rintro _ _ ⟨_, _, _, rfl, hM_⟩; exact hS.below hM_.below) ?_
          rintro _ W485 ⟨A486, n487, c488, rfl, hM_⟩
          obtain rfl : t400.length = n487 := by have h_ := (hM_.rd 0 rfl).1; simpa [nums_length, bools_length, strs_length] using h_
          replace hS := hS.below hM_.below
          replace hM := hM.call hM_
          clear hM_ ht400
          refine RunAny.rebase hS ?_
          replace hS := Still.refl W485 []
          refine RunAny.y 22 (side_of_cert hC30 (by kernel_rfl)) (str_y (d := some 56) (A := A486) (m := t400.length) (c := c488) (k2 := [.inRegion (opsOf (pl Go.Proofs.Try.f13 [1, 1, 1, 1, 1, 1, 0])) []]) t400 (by kernel_rfl)) (fun _ hs => ((hM.rd 0 rfl).still hs (by simp))) hS ?_
          refine RunAny.y 23 (side_of_cert hC30 (by kernel_rfl)) (yl_pure (d := some 57) (v := .bool ((strOf t400).toList == (⟨#[35, 65]⟩ : ByteArray).toList)) (k2 := [.inRegion (opsOf (pl Go.Proofs.Try.f13 [1, 1, 1, 1, 1, 1, 0])) []]) fun w => by kernel_rfl) (fun _ _ => trivial) hS ?_
          exact RunAny.same [0, 1, 2, 3, 4, 5, 6, 7, 8, 9, 20, 24, 10, 11, 12, 13, 14, 15, 16, 17, 18, 19, 21, 22, 23] (lst_of_mask (by kernel_rfl)) [0, 3, 5, 8, 10, 35, 37, 43, 45, 47, 53, 57, 58] (by kernel_rfl) (J420 g347 A486 c488 g354 _ hS (hM.pick [1, 0, 2, 3, 4, 5, 6, 7] rfl rfl))
        have J490 : ∀ (g350 : Nat) (W491 : World) (hS : Still W491 [] W491) (hM : Mem w W491 [⟨.slice (some ⟨g350, 0, none⟩) 2 2, 5, 1, nums .u8 [255, 255]⟩, ⟨.slice A24 t23.1.length c26, 5, 1, nums .u8 t23.1⟩, ⟨.slice (some ⟨g19, 0, none⟩) 1 1, 5, 1, nums .u8 [1]⟩, ⟨.slice (some ⟨g14, 0, none⟩) 3 3, 5, 1, nums .u8 [1, 2, 3]⟩, ⟨.slice (some ⟨g9, 0, none⟩) 8 8, 5, 1, nums .u8 [0, 0, 0, 0, 0, 0, 1, 0]⟩, ⟨.slice (some ⟨g4, 0, none⟩) 4 4, 5, 1, nums .u8 [1, 2, 3, 4]⟩]) , RunAny Go.Proofs.Try.prog (Ret fun v w' => v = .bool r ∧ Mem w w' []) 13 (rest1 (pl Go.Proofs.Try.f13 [1, 1, 1, 1, 1, 1, 0])) 82 (opsOf (pl Go.Proofs.Try.f13 [1, 1, 1, 1, 1, 1, 0])) (Still W491 []) 21 [0, 1, 2, 3, 4, 5, 6, 7, 8, 9, 24, 10, 11, 12, 13, 14, 15, 16, 17, 18, 19] [(0, .int .i64 a0), (3, .int .u32 t8.1), (5, .int .u64 t13.1), (8, .bool t18.2), (10, .bool t23.2), (35, .bool (t8.1 == 67305985)), (37, .bool (t13.1 == 256)), (43, .bool (!t23.2)), (45, .bool (t32 == 3)), (47, .bool (t48 == 2147483648)), (53, .bool false), (58, .slice (some ⟨g350, 0, none⟩) 2 2)] W491 := by
          intro g350 W491 hS hM 
          refine RunAny.new 20 5 1 2 (nums .u8 [18, 52]) (d := some 54) (k2 := [.inRegion (opsOf (pl Go.Proofs.Try.f13 [1, 1, 1, 1, 1, 1, 0])) []]) (ready_of_cert hC30 (by kernel_rfl)) hM (by simp [nums, bools, strs]) (by kernel_rfl) (by kernel_rfl) hS ?_
          intro g492 W493 hS hM
          refine RunAny.rebase hS ?_
          replace hS := Still.refl W493 []
          exact RunAny.same [0, 1, 2, 3, 4, 5, 6, 7, 8, 9, 20, 24, 10, 11, 12, 13, 14, 15, 16, 17, 18, 19] (lst_of_mask (by kernel_rfl)) [0, 3, 5, 8, 10, 35, 37, 43, 45, 47, 53, 54, 58] (by kernel_rfl) (J483 g492 g350 _ hS (hM.pick [0, 1, 2, 3, 4, 5, 6] rfl rfl))
        have J495 : ∀ (g347 : Nat) (W496 : World) (hS : Still W496 [] W496) (hM : Mem w W496 [⟨.slice (some ⟨g347, 0, none⟩) 2 2, 5, 1, nums .u8 [18, 52]⟩, ⟨.slice A24 t23.1.length c26, 5, 1, nums .u8 t23.1⟩, ⟨.slice (some ⟨g19, 0, none⟩) 1 1, 5, 1, nums .u8 [1]⟩, ⟨.slice (some ⟨g14, 0, none⟩) 3 3, 5, 1, nums .u8 [1, 2, 3]⟩, ⟨.slice (some ⟨g9, 0, none⟩) 8 8, 5, 1, nums .u8 [0, 0, 0, 0, 0, 0, 1, 0]⟩, ⟨.slice (some ⟨g4, 0, none⟩) 4 4, 5, 1, nums .u8 [1, 2, 3, 4]⟩]) , RunAny Go.Proofs.Try.prog (Ret fun v w' => v = .bool r ∧ Mem w w' []) 13 (rest1 (pl Go.Proofs.Try.f13 [1, 1, 1, 1, 1, 1, 0])) 82 (opsOf (pl Go.Proofs.Try.f13 [1, 1, 1, 1, 1, 1, 0])) (Still W496 []) 21 [0, 1, 2, 3, 4, 5, 6, 7, 8, 9, 20, 10, 11, 12, 13, 14, 15, 16, 17, 18, 19] [(0, .int .i64 a0), (3, .int .u32 t8.1), (5, .int .u64 t13.1), (8, .bool t18.2), (10, .bool t23.2), (35, .bool (t8.1 == 67305985)), (37, .bool (t13.1 == 256)), (43, .bool (!t23.2)), (45, .bool (t32 == 3)), (47, .bool (t48 == 2147483648)), (53, .bool false), (54, .slice (some ⟨g347, 0, none⟩) 2 2)] W496 := by
          intro g347 W496 hS hM 
          refine RunAny.all [21, 24] (ready_of_cert hC30 (by kernel_rfl)) (by simp) ?_
          refine ⟨?_, ?_, trivial⟩
          · refine Stepped.call 21 (d := some 55) (g := 30) (args := #[.slice (some ⟨g347, 0, none⟩) 2 2, .int .i64 4]) (by kernel_rfl) (words_Turn.calls k (some ⟨g347, 0, none⟩) 2 2 ([18, 52] : List Int) 4 t400 _ (hM.rd 0 rfl) ht400) (by rintro _ _ ⟨_, _, _, rfl, hM_⟩; exact hS.below hM_.below) ?_
            rintro _ W497 ⟨A498, n499, c500, rfl, hM_⟩
            obtain rfl : t400.length = n499 := by have h_ := (hM_.rd 0 rfl).1; simpa [nums_length, bools_length, strs_length] using h_
            replace hS := hS.below hM_.below
            replace hM := hM.call hM_
            clear hM_ ht400
            refine RunAny.rebase hS ?_
            replace hS := Still.refl W497 []
            refine RunAny.y 22 (side_of_cert hC30 (by kernel_rfl)) (str_y (d := some 56) (A := A498) (m := t400.length) (c := c500) (k2 := [.inRegion (opsOf (pl Go.Proofs.Try.f13 [1, 1, 1, 1, 1, 1, 0])) []]) t400 (by kernel_rfl)) (fun _ hs => ((hM.rd 0 rfl).still hs (by simp))) hS ?_
            refine RunAny.y 23 (side_of_cert hC30 (by kernel_rfl)) (yl_pure (d := some 57) (v := .bool ((strOf t400).toList == (⟨#[35, 65]⟩ : ByteArray).toList)) (k2 := [.inRegion (opsOf (pl Go.Proofs.Try.f13 [1, 1, 1, 1, 1, 1, 0])) []]) fun w => by kernel_rfl) (fun _ _ => trivial) hS ?_
            exact RunAny.same [0, 1, 2, 3, 4, 5, 6, 7, 8, 9, 20, 10, 11, 12, 13, 14, 15, 16, 17, 18, 19, 21, 22, 23] (lst_of_mask (by kernel_rfl)) [0, 3, 5, 8, 10, 35, 37, 43, 45, 47, 53, 57] (by kernel_rfl) (J478 g347 A498 c500 _ hS (hM.pick [1, 0, 2, 3, 4, 5, 6] rfl rfl))
          · refine Stepped.new 24 5 1 2 (nums .u8 [255, 255]) (d := some 58) (k2 := [.inRegion (opsOf (pl Go.Proofs.Try.f13 [1, 1, 1, 1, 1, 1, 0])) []]) hM (by simp [nums, bools, strs]) (by kernel_rfl) (by kernel_rfl) hS ?_
            intro g502 W503 hS hM
            refine RunAny.rebase hS ?_
            replace hS := Still.refl W503 []
            exact RunAny.same [0, 1, 2, 3, 4, 5, 6, 7, 8, 9, 20, 24, 10, 11, 12, 13, 14, 15, 16, 17, 18, 19] (lst_of_mask (by kernel_rfl)) [0, 3, 5, 8, 10, 35, 37, 43, 45, 47, 53, 54, 58] (by kernel_rfl) (J483 g347 g502 _ hS (hM.pick [1, 0, 2, 3, 4, 5, 6] rfl rfl))
        have J505 : ∀ (W506 : World) (hS : Still W506 [] W506) (hM : Mem w W506 [⟨.slice A24 t23.1.length c26, 5, 1, nums .u8 t23.1⟩, ⟨.slice (some ⟨g19, 0, none⟩) 1 1, 5, 1, nums .u8 [1]⟩, ⟨.slice (some ⟨g14, 0, none⟩) 3 3, 5, 1, nums .u8 [1, 2, 3]⟩, ⟨.slice (some ⟨g9, 0, none⟩) 8 8, 5, 1, nums .u8 [0, 0, 0, 0, 0, 0, 1, 0]⟩, ⟨.slice (some ⟨g4, 0, none⟩) 4 4, 5, 1, nums .u8 [1, 2, 3, 4]⟩]) , RunAny Go.Proofs.Try.prog (Ret fun v w' => v = .bool r ∧ Mem w w' []) 13 (rest1 (pl Go.Proofs.Try.f13 [1, 1, 1, 1, 1, 1, 0])) 82 (opsOf (pl Go.Proofs.Try.f13 [1, 1, 1, 1, 1, 1, 0])) (Still W506 []) 22 [0, 1, 2, 3, 4, 5, 6, 7, 8, 9, 10, 11, 12, 13, 14, 15, 16, 17, 18, 19] [(0, .int .i64 a0), (3, .int .u32 t8.1), (5, .int .u64 t13.1), (8, .bool t18.2), (10, .bool t23.2), (35, .bool (t8.1 == 67305985)), (37, .bool (t13.1 == 256)), (43, .bool (!t23.2)), (45, .bool (t32 == 3)), (47, .bool (t48 == 2147483648)), (53, .bool false)] W506 := by
          intro W506 hS hM 
          refine RunAny.all [20, 24] (ready_of_cert hC30 (by kernel_rfl)) (by simp) ?_
          refine ⟨?_, ?_, trivial⟩
          · refine Stepped.new 20 5 1 2 (nums .u8 [18, 52]) (d := some 54) (k2 := [.inRegion (opsOf (pl Go.Proofs.Try.f13 [1, 1, 1, 1, 1, 1, 0])) []]) hM (by simp [nums, bools, strs]) (by kernel_rfl) (by kernel_rfl) hS ?_
            intro g507 W508 hS hM
            refine RunAny.rebase hS ?_
            replace hS := Still.refl W508 []
            exact RunAny.same [0, 1, 2, 3, 4, 5, 6, 7, 8, 9, 20, 10, 11, 12, 13, 14, 15, 16, 17, 18, 19] (lst_of_mask (by kernel_rfl)) [0, 3, 5, 8, 10, 35, 37, 43, 45, 47, 53, 54] (by kernel_rfl) (J495 g507 _ hS (hM.pick [0, 1, 2, 3, 4, 5] rfl rfl))
          · refine Stepped.new 24 5 1 2 (nums .u8 [255, 255]) (d := some 58) (k2 := [.inRegion (opsOf (pl Go.Proofs.Try.f13 [1, 1, 1, 1, 1, 1, 0])) []]) hM (by simp [nums, bools, strs]) (by kernel_rfl) (by kernel_rfl) hS ?_
            intro g510 W511 hS hM
            refine RunAny.rebase hS ?_
            replace hS := Still.refl W511 []
            exact RunAny.same [0, 1, 2, 3, 4, 5, 6, 7, 8, 9, 24, 10, 11, 12, 13, 14, 15, 16, 17, 18, 19] (lst_of_mask (by kernel_rfl)) [0, 3, 5, 8, 10, 35, 37, 43, 45, 47, 53, 58] (by kernel_rfl) (J490 g510 _ hS (hM.pick [0, 1, 2, 3, 4, 5] rfl rfl))
        have J513 : ∀ (g347 : Nat) (g354 : Nat) (W514 : World) (hS : Still W514 [] W514) (hM : Mem w W514 [⟨.slice (some ⟨g347, 0, none⟩) 2 2, 5, 1, nums .u8 [18, 52]⟩, ⟨.slice (some ⟨g354, 0, none⟩) 2 2, 5, 1, nums .u8 [255, 255]⟩, ⟨.slice A24 t23.1.length c26, 5, 1, nums .u8 t23.1⟩, ⟨.slice (some ⟨g19, 0, none⟩) 1 1, 5, 1, nums .u8 [1]⟩, ⟨.slice (some ⟨g14, 0, none⟩) 3 3, 5, 1, nums .u8 [1, 2, 3]⟩, ⟨.slice (some ⟨g9, 0, none⟩) 8 8, 5, 1, nums .u8 [0, 0, 0, 0, 0, 0, 1, 0]⟩, ⟨.slice (some ⟨g4, 0, none⟩) 4 4, 5, 1, nums .u8 [1, 2, 3, 4]⟩]) , RunAny Go.Proofs.Try.prog (Ret fun v w' => v = .bool r ∧ Mem w w' []) 13 (rest1 (pl Go.Proofs.Try.f13 [1, 1, 1, 1, 1, 1, 0])) 82 (opsOf (pl Go.Proofs.Try.f13 [1, 1, 1, 1, 1, 1, 0])) (Still W514 []) 26 [0, 1, 2, 3, 4, 5, 6, 7, 8, 9, 20, 24, 10, 11, 12, 13] [(0, .int .i64 a0), (3, .int .u32 t8.1), (5, .int .u64 t13.1), (8, .bool t18.2), (10, .bool t23.2), (35, .bool (t8.1 == 67305985)), (37, .bool (t13.1 == 256)), (43, .bool (!t23.2)), (45, .bool (t32 == 3)), (47, .bool (t48 == 2147483648)), (54, .slice (some ⟨g347, 0, none⟩) 2 2), (58, .slice (some ⟨g354, 0, none⟩) 2 2)] W514 := by
          intro g347 g354 W514 hS hM 
          refine RunAny.call 14 (d := some 48) (g := 28) (args := #[.int .u8 1, .int .i64 7]) (ready_of_cert hC30 (by kernel_rfl)) (by kernel_rfl) (words_Rol8.calls k 1 7 t65 _ ht65) (by rintro _ _ ⟨rfl, hM_⟩; exact hS.below hM_.below) ?_
          rintro _ W515 ⟨rfl, hM_⟩
          replace hS := hS.below hM_.below
          replace hM := hM.call hM_
          clear hM_ ht65
          refine RunAny.rebase hS ?_
          replace hS := Still.refl W515 []
          refine RunAny.y 15 (side_of_cert hC30 (by kernel_rfl)) (yl_pure (d := some 49) (v := .bool (t65 == 128)) (k2 := [.inRegion (opsOf (pl Go.Proofs.Try.f13 [1, 1, 1, 1, 1, 1, 0])) []]) fun w => by kernel_rfl) (fun _ _ => trivial) hS ?_
          refine RunAny.y 16 (side_of_cert hC30 (by kernel_rfl)) (yl_pure (d := some 50) (v := .bool (t65 == 128)) (k2 := [.inRegion (opsOf (pl Go.Proofs.Try.f13 [1, 1, 1, 1, 1, 1, 0])) []]) fun w => by kernel_rfl) (fun _ _ => trivial) hS ?_
          refine RunAny.know 50 (b := false) (by kernel_rfl) c67 ?_
          refine RunAny.off 17 (d := some 51) (side_of_cert hC30 (by kernel_rfl)) (by kernel_rfl) hS ?_
          refine RunAny.off 18 (d := some 52) (side_of_cert hC30 (by kernel_rfl)) (by kernel_rfl) hS ?_
          refine RunAny.y 19 (side_of_cert hC30 (by kernel_rfl)) (yl_pure (d := some 53) (v := .bool false) (k2 := [.inRegion (opsOf (pl Go.Proofs.Try.f13 [1, 1, 1, 1, 1, 1, 0])) []]) fun w => by kernel_rfl) (fun _ _ => trivial) hS ?_
          exact RunAny.same [0, 1, 2, 3, 4, 5, 6, 7, 8, 9, 20, 24, 10, 11, 12, 13, 14, 15, 16, 17, 18, 19] (lst_of_mask (by kernel_rfl)) [0, 3, 5, 8, 10, 35, 37, 43, 45, 47, 53, 54, 58] (by kernel_rfl) (J483 g347 g354 _ hS (hM.pick [0, 1, 2, 3, 4, 5, 6] rfl rfl))
        have J516 : ∀ (g350 : Nat) (W517 : World) (hS : Still W517 [] W517) (hM : Mem w W517 [⟨.slice (some ⟨g350, 0, none⟩) 2 2, 5, 1, nums .u8 [255, 255]⟩, ⟨.slice A24 t23.1.length c26, 5, 1, nums .u8 t23.1⟩, ⟨.slice (some ⟨g19, 0, none⟩) 1 1, 5, 1, nums .u8 [1]⟩, ⟨.slice (some ⟨g14, 0, none⟩) 3 3, 5, 1, nums .u8 [1, 2, 3]⟩, ⟨.slice (some ⟨g9, 0, none⟩) 8 8, 5, 1, nums .u8 [0, 0, 0, 0, 0, 0, 1, 0]⟩, ⟨.slice (some ⟨g4, 0, none⟩) 4 4, 5, 1, nums .u8 [1, 2, 3, 4]⟩]) , RunAny Go.Proofs.Try.prog (Ret fun v w' => v = .bool r ∧ Mem w w' []) 13 (rest1 (pl Go.Proofs.Try.f13 [1, 1, 1, 1, 1, 1, 0])) 82 (opsOf (pl Go.Proofs.Try.f13 [1, 1, 1, 1, 1, 1, 0])) (Still W517 []) 27 [0, 1, 2, 3, 4, 5, 6, 7, 8, 9, 24, 10, 11, 12, 13] [(0, .int .i64 a0), (3, .int .u32 t8.1), (5, .int .u64 t13.1), (8, .bool t18.2), (10, .bool t23.2), (35, .bool (t8.1 == 67305985)), (37, .bool (t13.1 == 256)), (43, .bool (!t23.2)), (45, .bool (t32 == 3)), (47, .bool (t48 == 2147483648)), (58, .slice (some ⟨g350, 0, none⟩) 2 2)] W517 := by
          intro g350 W517 hS hM 
          refine RunAny.all [14, 20] (ready_of_cert hC30 (by kernel_rfl)) (by simp) ?_
          refine ⟨?_, ?_, trivial⟩
          · refine Stepped.call 14 (d := some 48) (g := 28) (args := #[.int .u8 1, .int .i64 7]) (by kernel_rfl) (words_Rol8.calls k 1 7 t65 _ ht65) (by rintro _ _ ⟨rfl, hM_⟩; exact hS.below hM_.below) ?_
            rintro _ W518 ⟨rfl, hM_⟩
            replace hS := hS.below hM_.below
            replace hM := hM.call hM_
            clear hM_ ht65
            refine RunAny.rebase hS ?_
            replace hS := Still.refl W518 []
            refine RunAny.y 15 (side_of_cert hC30 (by kernel_rfl)) (yl_pure (d := some 49) (v := .bool (t65 == 128)) (k2 := [.inRegion (opsOf (pl Go.Proofs.Try.f13 [1, 1, 1, 1, 1, 1, 0])) []]) fun w => by kernel_rfl) (fun _ _ => trivial) hS ?_
            refine RunAny.y 16 (side_of_cert hC30 (by kernel_rfl)) (yl_pure (d := some 50) (v := .bool (t65 == 128)) (k2 := [.inRegion (opsOf (pl Go.Proofs.Try.f13 [1, 1, 1, 1, 1, 1, 0])) []]) fun w => by kernel_rfl) (fun _ _ => trivial) hS ?_
            refine RunAny.know 50 (b := false) (by kernel_rfl) c67 ?_
            refine RunAny.off 17 (d := some 51) (side_of_cert hC30 (by kernel_rfl)) (by kernel_rfl) hS ?_
            refine RunAny.off 18 (d := some 52) (side_of_cert hC30 (by kernel_rfl)) (by kernel_rfl) hS ?_
            refine RunAny.y 19 (side_of_cert hC30 (by kernel_rfl)) (yl_pure (d := some 53) (v := .bool false) (k2 := [.inRegion (opsOf (pl Go.Proofs.Try.f13 [1, 1, 1, 1, 1, 1, 0])) []]) fun w => by kernel_rfl) (fun _ _ => trivial) hS ?_
            exact RunAny.same [0, 1, 2, 3, 4, 5, 6, 7, 8, 9, 24, 10, 11, 12, 13, 14, 15, 16, 17, 18, 19] (lst_of_mask (by kernel_rfl)) [0, 3, 5, 8, 10, 35, 37, 43, 45, 47, 53, 58] (by kernel_rfl) (J490 g350 _ hS (hM.pick [0, 1, 2, 3, 4, 5] rfl rfl))
          · refine Stepped.new 20 5 1 2 (nums .u8 [18, 52]) (d := some 54) (k2 := [.inRegion (opsOf (pl Go.Proofs.Try.f13 [1, 1, 1, 1, 1, 1, 0])) []]) hM (by simp [nums, bools, strs]) (by kernel_rfl) (by kernel_rfl) hS ?_
            intro g519 W520 hS hM
            refine RunAny.rebase hS ?_
            replace hS := Still.refl W520 []
            exact RunAny.same [0, 1, 2, 3, 4, 5, 6, 7, 8, 9, 20, 24, 10, 11, 12, 13] (lst_of_mask (by kernel_rfl)) [0, 3, 5, 8, 10, 35, 37, 43, 45, 47, 54, 58] (by kernel_rfl) (J513 g519 g350 _ hS (hM.pick [0, 1, 2, 3, 4, 5, 6] rfl rfl))
        have J522 : ∀ (g347 : Nat) (W523 : World) (hS : Still W523 [] W523) (hM : Mem w W523 [⟨.slice (some ⟨g347, 0, none⟩) 2 2, 5, 1, nums .u8 [18, 52]⟩, ⟨.slice A24 t23.1.length c26, 5, 1, nums .u8 t23.1⟩, ⟨.slice (some ⟨g19, 0, none⟩) 1 1, 5, 1, nums .u8 [1]⟩, ⟨.slice (some ⟨g14, 0, none⟩) 3 3, 5, 1, nums .u8 [1, 2, 3]⟩, ⟨.slice (some ⟨g9, 0, none⟩) 8 8, 5, 1, nums .u8 [0, 0, 0, 0, 0, 0, 1, 0]⟩, ⟨.slice (some ⟨g4, 0, none⟩) 4 4, 5, 1, nums .u8 [1, 2, 3, 4]⟩]) , RunAny Go.Proofs.Try.prog (Ret fun v w' => v = .bool r ∧ Mem w w' []) 13 (rest1 (pl Go.Proofs.Try.f13 [1, 1, 1, 1, 1, 1, 0])) 82 (opsOf (pl Go.Proofs.Try.f13 [1, 1, 1, 1, 1, 1, 0])) (Still W523 []) 27 [0, 1, 2, 3, 4, 5, 6, 7, 8, 9, 20, 10, 11, 12, 13] [(0, .int .i64 a0), (3, .int .u32 t8.1), (5, .int .u64 t13.1), (8, .bool t18.2), (10, .bool t23.2), (35, .bool (t8.1 == 67305985)), (37, .bool (t13.1 == 256)), (43, .bool (!t23.2)), (45, .bool (t32 == 3)), (47, .bool (t48 == 2147483648)), (54, .slice (some ⟨g347, 0, none⟩) 2 2)] W523 := by
          intro g347 W523 hS hM 
          refine RunAny.all [14, 24] (ready_of_cert hC30 (by kernel_rfl)) (by simp) ?_
          refine ⟨?_, ?_, trivial⟩
          · refine Stepped.call 14 (d := some 48) (g := 28) (args := #[.int .u8 1, .int .i64 7]) (by kernel_rfl) (words_Rol8.calls k 1 7 t65 _ ht65) (by rintro _ _ ⟨rfl, hM_⟩; exact hS.below hM_.below) ?_
            rintro _ W524 ⟨rfl, hM_⟩
            replace hS := hS.below hM_.below
            replace hM := hM.call hM_
            clear hM_ ht65
            refine RunAny.rebase hS ?_
            replace hS := Still.refl W524 []
            refine RunAny.y 15 (side_of_cert hC30 (by kernel_rfl)) (yl_pure (d := some 49) (v := .bool (t65 == 128)) (k2 := [.inRegion (opsOf (pl Go.Proofs.Try.f13 [1, 1, 1, 1, 1, 1, 0])) []]) fun w => by kernel_rfl) (fun _ _ => trivial) hS ?_
            refine RunAny.y 16 (side_of_cert hC30 (by kernel_rfl)) (yl_pure (d := some 50) (v := .bool (t65 == 128)) (k2 := [.inRegion (opsOf (pl Go.Proofs.Try.f13 [1, 1, 1, 1, 1, 1, 0])) []]) fun w => by kernel_rfl) (fun _ _ => trivial) hS ?_
            refine RunAny.know 50 (b := false) (by kernel_rfl) c67 ?_
            refine RunAny.off 17 (d := some 51) (side_of_cert hC30 (by kernel_rfl)) (by kernel_rfl) hS ?_
            refine RunAny.off 18 (d := some 52) (side_of_cert hC30 (by kernel_rfl)) (by kernel_rfl) hS ?_
            refine RunAny.y 19 (side_of_cert hC30 (by kernel_rfl)) (yl_pure (d := some 53) (v := .bool false) (k2 := [.inRegion (opsOf (pl Go.Proofs.Try.f13 [1, 1, 1, 1, 1, 1, 0])) []]) fun w => by kernel_rfl) (fun _ _ => trivial) hS ?_
            exact RunAny.same [0, 1, 2, 3, 4, 5, 6, 7, 8, 9, 20, 10, 11, 12, 13, 14, 15, 16, 17, 18, 19] (lst_of_mask (by kernel_rfl)) [0, 3, 5, 8, 10, 35, 37, 43, 45, 47, 53, 54] (by kernel_rfl) (J495 g347 _ hS (hM.pick [0, 1, 2, 3, 4, 5] rfl rfl))
          · refine Stepped.new 24 5 1 2 (nums .u8 [255, 255]) (d := some 58) (k2 := [.inRegion (opsOf (pl Go.Proofs.Try.f13 [1, 1, 1, 1, 1, 1, 0])) []]) hM (by simp [nums, bools, strs]) (by kernel_rfl) (by kernel_rfl) hS ?_
            intro g525 W526 hS hM
            refine RunAny.rebase hS ?_
            replace hS := Still.refl W526 []
            exact RunAny.same [0, 1, 2, 3, 4, 5, 6, 7, 8, 9, 20, 24, 10, 11, 12, 13] (lst_of_mask (by kernel_rfl)) [0, 3, 5, 8, 10, 35, 37, 43, 45, 47, 54, 58] (by kernel_rfl) (J513 g347 g525 _ hS (hM.pick [1, 0, 2, 3, 4, 5, 6] rfl rfl))
        have J528 : ∀ (g347 : Nat) (g354 : Nat) (W529 : World) (hS : Still W529 [] W529) (hM : Mem w W529 [⟨.slice (some ⟨g347, 0, none⟩) 2 2, 5, 1, nums .u8 [18, 52]⟩, ⟨.slice (some ⟨g354, 0, none⟩) 2 2, 5, 1, nums .u8 [255, 255]⟩, ⟨.slice A24 t23.1.length c26, 5, 1, nums .u8 t23.1⟩, ⟨.slice (some ⟨g19, 0, none⟩) 1 1, 5, 1, nums .u8 [1]⟩, ⟨.slice (some ⟨g14, 0, none⟩) 3 3, 5, 1, nums .u8 [1, 2, 3]⟩, ⟨.slice (some ⟨g9, 0, none⟩) 8 8, 5, 1, nums .u8 [0, 0, 0, 0, 0, 0, 1, 0]⟩, ⟨.slice (some ⟨g4, 0, none⟩) 4 4, 5, 1, nums .u8 [1, 2, 3, 4]⟩]) , RunAny Go.Proofs.Try.prog (Ret fun v w' => v = .bool r ∧ Mem w w' []) 13 (rest1 (pl Go.Proofs.Try.f13 [1, 1, 1, 1, 1, 1, 0])) 82 (opsOf (pl Go.Proofs.Try.f13 [1, 1, 1, 1, 1, 1, 0])) (Still W529 []) 28 [0, 1, 2, 3, 4, 5, 6, 7, 8, 9, 20, 24, 10, 11] [(0, .int .i64 a0), (3, .int .u32 t8.1), (5, .int .u64 t13.1), (8, .bool t18.2), (10, .bool t23.2), (35, .bool (t8.1 == 67305985)), (37, .bool (t13.1 == 256)), (43, .bool (!t23.2)), (45, .bool (t32 == 3)), (54, .slice (some ⟨g347, 0, none⟩) 2 2), (58, .slice (some ⟨g354, 0, none⟩) 2 2)] W529 := by
          intro g347 g354 W529 hS hM 
          refine RunAny.call 12 (d := some 46) (g := 26) (args := #[.int .u32 1, .int .i64 (-1)]) (ready_of_cert hC30 (by kernel_rfl)) (by kernel_rfl) (words_Rol32.calls k 1 (-1) t48 _ ht48) (by rintro _ _ ⟨rfl, hM_⟩; exact hS.below hM_.below) ?_
          rintro _ W530 ⟨rfl, hM_⟩
          replace hS := hS.below hM_.below
          replace hM := hM.call hM_
          clear hM_ ht48
          refine RunAny.rebase hS ?_
          replace hS := Still.refl W530 []
          refine RunAny.y 13 (side_of_cert hC30 (by kernel_rfl)) (yl_pure (d := some 47) (v := .bool (t48 == 2147483648)) (k2 := [.inRegion (opsOf (pl Go.Proofs.Try.f13 [1, 1, 1, 1, 1, 1, 0])) []]) fun w => by kernel_rfl) (fun _ _ => trivial) hS ?_
          exact RunAny.same [0, 1, 2, 3, 4, 5, 6, 7, 8, 9, 20, 24, 10, 11, 12, 13] (lst_of_mask (by kernel_rfl)) [0, 3, 5, 8, 10, 35, 37, 43, 45, 47, 54, 58] (by kernel_rfl) (J513 g347 g354 _ hS (hM.pick [0, 1, 2, 3, 4, 5, 6] rfl rfl))
        have J531 : ∀ (W532 : World) (hS : Still W532 [] W532) (hM : Mem w W532 [⟨.slice A24 t23.1.length c26, 5, 1, nums .u8 t23.1⟩, ⟨.slice (some ⟨g19, 0, none⟩) 1 1, 5, 1, nums .u8 [1]⟩, ⟨.slice (some ⟨g14, 0, none⟩) 3 3, 5, 1, nums .u8 [1, 2, 3]⟩, ⟨.slice (some ⟨g9, 0, none⟩) 8 8, 5, 1, nums .u8 [0, 0, 0, 0, 0, 0, 1, 0]⟩, ⟨.slice (some ⟨g4, 0, none⟩) 4 4, 5, 1, nums .u8 [1, 2, 3, 4]⟩]) , RunAny Go.Proofs.Try.prog (Ret fun v w' => v = .bool r ∧ Mem w w' []) 13 (rest1 (pl Go.Proofs.Try.f13 [1, 1, 1, 1, 1, 1, 0])) 82 (opsOf (pl Go.Proofs.Try.f13 [1, 1, 1, 1, 1, 1, 0])) (Still W532 []) 28 [0, 1, 2, 3, 4, 5, 6, 7, 8, 9, 10, 11, 12, 13] [(0, .int .i64 a0), (3, .int .u32 t8.1), (5, .int .u64 t13.1), (8, .bool t18.2), (10, .bool t23.2), (35, .bool (t8.1 == 67305985)), (37, .bool (t13.1 == 256)), (43, .bool (!t23.2)), (45, .bool (t32 == 3)), (47, .bool (t48 == 2147483648))] W532 := by
          intro W532 hS hM 
          refine RunAny.all [14, 20, 24] (ready_of_cert hC30 (by kernel_rfl)) (by simp) ?_
          refine ⟨?_, ?_, ?_, trivial⟩
          · refine Stepped.call 14 (d := some 48) (g := 28) (args := #[.int .u8 1, .int .i64 7]) (by kernel_rfl) (words_Rol8.calls k 1 7 t65 _ ht65) (by rintro _ _ ⟨rfl, hM_⟩; exact hS.below hM_.below) ?_
            rintro _ W533 ⟨rfl, hM_⟩
            replace hS := hS.below hM_.below
            replace hM := hM.call hM_
            clear hM_ ht65
            refine RunAny.rebase hS ?_
            replace hS := Still.refl W533 []
            refine RunAny.y 15 (side_of_cert hC30 (by kernel_rfl)) (yl_pure (d := some 49) (v := .bool (t65 == 128)) (k2 := [.inRegion (opsOf (pl Go.Proofs.Try.f13 [1, 1, 1, 1, 1, 1, 0])) []]) fun w => by kernel_rfl) (fun _ _ => trivial) hS ?_
            refine RunAny.y 16 (side_of_cert hC30 (by kernel_rfl)) (yl_pure (d := some 50) (v := .bool (t65 == 128)) (k2 := [.inRegion (opsOf (pl Go.Proofs.Try.f13 [1, 1, 1, 1, 1, 1, 0])) []]) fun w => by kernel_rfl) (fun _ _ => trivial) hS ?_
            refine RunAny.know 50 (b := false) (by kernel_rfl) c67 ?_
            refine RunAny.off 17 (d := some 51) (side_of_cert hC30 (by kernel_rfl)) (by kernel_rfl) hS ?_
            refine RunAny.off 18 (d := some 52) (side_of_cert hC30 (by kernel_rfl)) (by kernel_rfl) hS ?_
            refine RunAny.y 19 (side_of_cert hC30 (by kernel_rfl)) (yl_pure (d := some 53) (v := .bool false) (k2 := [.inRegion (opsOf (pl Go.Proofs.Try.f13 [1, 1, 1, 1, 1, 1, 0])) []]) fun w => by kernel_rfl) (fun _ _ => trivial) hS ?_
            exact RunAny.same [0, 1, 2, 3, 4, 5, 6, 7, 8, 9, 10, 11, 12, 13, 14, 15, 16, 17, 18, 19] (lst_of_mask (by kernel_rfl)) [0, 3, 5, 8, 10, 35, 37, 43, 45, 47, 53] (by kernel_rfl) (J505 _ hS (hM.pick [0, 1, 2, 3, 4] rfl rfl))
          · refine Stepped.new 20 5 1 2 (nums .u8 [18, 52]) (d := some 54) (k2 := [.inRegion (opsOf (pl Go.Proofs.Try.f13 [1, 1, 1, 1, 1, 1, 0])) []]) hM (by simp [nums, bools, strs]) (by kernel_rfl) (by kernel_rfl) hS ?_
            intro g534 W535 hS hM
            refine RunAny.rebase hS ?_
            replace hS := Still.refl W535 []
            exact RunAny.same [0, 1, 2, 3, 4, 5, 6, 7, 8, 9, 20, 10, 11, 12, 13] (lst_of_mask (by kernel_rfl)) [0, 3, 5, 8, 10, 35, 37, 43, 45, 47, 54] (by kernel_rfl) (J522 g534 _ hS (hM.pick [0, 1, 2, 3, 4, 5] rfl rfl))
          · refine Stepped.new 24 5 1 2 (nums .u8 [255, 255]) (d := some 58) (k2 := [.inRegion (opsOf (pl Go.Proofs.Try.f13 [1, 1, 1, 1, 1, 1, 0])) []]) hM (by simp [nums, bools, strs]) (by kernel_rfl) (by kernel_rfl) hS ?_
            intro g537 W538 hS hM
            refine RunAny.rebase hS ?_
            replace hS := Still.refl W538 []
            exact RunAny.same [0, 1, 2, 3, 4, 5, 6, 7, 8, 9, 24, 10, 11, 12, 13] (lst_of_mask (by kernel_rfl)) [0, 3, 5, 8, 10, 35, 37, 43, 45, 47, 58] (by kernel_rfl) (J516 g537 _ hS (hM.pick [0, 1, 2, 3, 4, 5] rfl rfl))
        have J540 : ∀ (g350 : Nat) (W541 : World) (hS : Still W541 [] W541) (hM : Mem w W541 [⟨.slice (some ⟨g350, 0, none⟩) 2 2, 5, 1, nums .u8 [255, 255]⟩, ⟨.slice A24 t23.1.length c26, 5, 1, nums .u8 t23.1⟩, ⟨.slice (some ⟨g19, 0, none⟩) 1 1, 5, 1, nums .u8 [1]⟩, ⟨.slice (some ⟨g14, 0, none⟩) 3 3, 5, 1, nums .u8 [1, 2, 3]⟩, ⟨.slice (some ⟨g9, 0, none⟩) 8 8, 5, 1, nums .u8 [0, 0, 0, 0, 0, 0, 1, 0]⟩, ⟨.slice (some ⟨g4, 0, none⟩) 4 4, 5, 1, nums .u8 [1, 2, 3, 4]⟩]) , RunAny Go.Proofs.Try.prog (Ret fun v w' => v = .bool r ∧ Mem w w' []) 13 (rest1 (pl Go.Proofs.Try.f13 [1, 1, 1, 1, 1, 1, 0])) 82 (opsOf (pl Go.Proofs.Try.f13 [1, 1, 1, 1, 1, 1, 0])) (Still W541 []) 29 [0, 1, 2, 3, 4, 5, 6, 7, 8, 9, 24, 10, 11] [(0, .int .i64 a0), (3, .int .u32 t8.1), (5, .int .u64 t13.1), (8, .bool t18.2), (10, .bool t23.2), (35, .bool (t8.1 == 67305985)), (37, .bool (t13.1 == 256)), (43, .bool (!t23.2)), (45, .bool (t32 == 3)), (58, .slice (some ⟨g350, 0, none⟩) 2 2)] W541 := by
          intro g350 W541 hS hM 
          refine RunAny.all [12, 20] (ready_of_cert hC30 (by kernel_rfl)) (by simp) ?_
          refine ⟨?_, ?_, trivial⟩
          · refine Stepped.call 12 (d := some 46) (g := 26) (args := #[.int .u32 1, .int .i64 (-1)]) (by kernel_rfl) (words_Rol32.calls k 1 (-1) t48 _ ht48) (by rintro _ _ ⟨rfl, hM_⟩; exact hS.below hM_.below) ?_
            rintro _ W542 ⟨rfl, hM_⟩
            replace hS := hS.below hM_.below
            replace hM := hM.call hM_
            clear hM_ ht48
            refine RunAny.rebase hS ?_
            replace hS := Still.refl W542 []
            refine RunAny.y 13 (side_of_cert hC30 (by kernel_rfl)) (yl_pure (d := some 47) (v := .bool (t48 == 2147483648)) (k2 := [.inRegion (opsOf (pl Go.Proofs.Try.f13 [1, 1, 1, 1, 1, 1, 0])) []]) fun w => by kernel_rfl) (fun _ _ => trivial) hS ?_
            exact RunAny.same [0, 1, 2, 3, 4, 5, 6, 7, 8, 9, 24, 10, 11, 12, 13] (lst_of_mask (by kernel_rfl)) [0, 3, 5, 8, 10, 35, 37, 43, 45, 47, 58] (by kernel_rfl) (J516 g350 _ hS (hM.pick [0, 1, 2, 3, 4, 5] rfl rfl))
          · refine Stepped.new 20 5 1 2 (nums .u8 [18, 52]) (d := some 54) (k2 := [.inRegion (opsOf (pl Go.Proofs.Try.f13 [1, 1, 1, 1, 1, 1, 0])) []]) hM (by simp [nums, bools, strs]) (by kernel_rfl) (by kernel_rfl) hS ?_
            intro g543 W544 hS hM
            refine RunAny.rebase hS ?_
            replace hS := Still.refl W544 []
            exact RunAny.same [0, 1, 2, 3, 4, 5, 6, 7, 8, 9, 20, 24, 10, 11] (lst_of_mask (by kernel_rfl)) [0, 3, 5, 8, 10, 35, 37, 43, 45, 54, 58] (by kernel_rfl) (J528 g543 g350 _ hS (hM.pick [0, 1, 2, 3, 4, 5, 6] rfl rfl))
        have J546 : ∀ (g347 : Nat) (W547 : World) (hS : Still W547 [] W547) (hM : Mem w W547 [⟨.slice (some ⟨g347, 0, none⟩) 2 2, 5, 1, nums .u8 [18, 52]⟩, ⟨.slice A24 t23.1.length c26, 5, 1, nums .u8 t23.1⟩, ⟨.slice (some ⟨g19, 0, none⟩) 1 1, 5, 1, nums .u8 [1]⟩, ⟨.slice (some ⟨g14, 0, none⟩) 3 3, 5, 1, nums .u8 [1, 2, 3]⟩, ⟨.slice (some ⟨g9, 0, none⟩) 8 8, 5, 1, nums .u8 [0, 0, 0, 0, 0, 0, 1, 0]⟩, ⟨.slice (some ⟨g4, 0, none⟩) 4 4, 5, 1, nums .u8 [1, 2, 3, 4]⟩]) , RunAny Go.Proofs.Try.prog (Ret fun v w' => v = .bool r ∧ Mem w w' []) 13 (rest1 (pl Go.Proofs.Try.f13 [1, 1, 1, 1, 1, 1, 0])) 82 (opsOf (pl Go.Proofs.Try.f13 [1, 1, 1, 1, 1, 1, 0])) (Still W547 []) 29 [0, 1, 2, 3, 4, 5, 6, 7, 8, 9, 20, 10, 11] [(0, .int .i64 a0), (3, .int .u32 t8.1), (5, .int .u64 t13.1), (8, .bool t18.2), (10, .bool t23.2), (35, .bool (t8.1 == 67305985)), (37, .bool (t13.1 == 256)), (43, .bool (!t23.2)), (45, .bool (t32 == 3)), (54, .slice (some ⟨g347, 0, none⟩) 2 2)] W547 := by
          intro g347 W547 hS hM 
          refine RunAny.all [12, 24] (ready_of_cert hC30 (by kernel_rfl)) (by simp) ?_
          refine ⟨?_, ?_, trivial⟩
          · refine Stepped.call 12 (d := some 46) (g := 26) (args := #[.int .u32 1, .int .i64 (-1)]) (by kernel_rfl) (words_Rol32.calls k 1 (-1) t48 _ ht48) (by rintro _ _ ⟨rfl, hM_⟩; exact hS.below hM_.below) ?_
            rintro _ W548 ⟨rfl, hM_⟩
            replace hS := hS.below hM_.below
            replace hM := hM.call hM_
            clear hM_ ht48
            refine RunAny.rebase hS ?_
            replace hS := Still.refl W548 []
            refine RunAny.y 13 (side_of_cert hC30 (by kernel_rfl)) (yl_pure (d := some 47) (v := .bool (t48 == 2147483648)) (k2 := [.inRegion (opsOf (pl Go.Proofs.Try.f13 [1, 1, 1, 1, 1, 1, 0])) []]) fun w => by kernel_rfl) (fun _ _ => trivial) hS ?_
            exact RunAny.same [0, 1, 2, 3, 4, 5, 6, 7, 8, 9, 20, 10, 11, 12, 13] (lst_of_mask (by kernel_rfl)) [0, 3, 5, 8, 10, 35, 37, 43, 45, 47, 54] (by kernel_rfl) (J522 g347 _ hS (hM.pick [0, 1, 2, 3, 4, 5] rfl rfl))
          · refine Stepped.new 24 5 1 2 (nums .u8 [255, 255]) (d := some 58) (k2 := [.inRegion (opsOf (pl Go.Proofs.Try.f13 [1, 1, 1, 1, 1, 1, 0])) []]) hM (by simp [nums, bools, strs]) (by kernel_rfl) (by kernel_rfl) hS ?_
            intro g549 W550 hS hM
            refine RunAny.rebase hS ?_
            replace hS := Still.refl W550 []
            exact RunAny.same [0, 1, 2, 3, 4, 5, 6, 7, 8, 9, 20, 24, 10, 11] (lst_of_mask (by kernel_rfl)) [0, 3, 5, 8, 10, 35, 37, 43, 45, 54, 58] (by kernel_rfl) (J528 g347 g549 _ hS (hM.pick [1, 0, 2, 3, 4, 5, 6] rfl rfl))
        have J552 : ∀ (g347 : Nat) (g354 : Nat) (W553 : World) (hS : Still W553 [] W553) (hM : Mem w W553 [⟨.slice (some ⟨g347, 0, none⟩) 2 2, 5, 1, nums .u8 [18, 52]⟩, ⟨.slice (some ⟨g354, 0, none⟩) 2 2, 5, 1, nums .u8 [255, 255]⟩, ⟨.slice A24 t23.1.length c26, 5, 1, nums .u8 t23.1⟩, ⟨.slice (some ⟨g19, 0, none⟩) 1 1, 5, 1, nums .u8 [1]⟩, ⟨.slice (some ⟨g14, 0, none⟩) 3 3, 5, 1, nums .u8 [1, 2, 3]⟩, ⟨.slice (some ⟨g9, 0, none⟩) 8 8, 5, 1, nums .u8 [0, 0, 0, 0, 0, 0, 1, 0]⟩, ⟨.slice (some ⟨g4, 0, none⟩) 4 4, 5, 1, nums .u8 [1, 2, 3, 4]⟩]) , RunAny Go.Proofs.Try.prog (Ret fun v w' => v = .bool r ∧ Mem w w' []) 13 (rest1 (pl Go.Proofs.Try.f13 [1, 1, 1, 1, 1, 1, 0])) 82 (opsOf (pl Go.Proofs.Try.f13 [1, 1, 1, 1, 1, 1, 0])) (Still W553 []) 30 [0, 1, 2, 3, 4, 5, 6, 7, 8, 9, 20, 24] [(0, .int .i64 a0), (3, .int .u32 t8.1), (5, .int .u64 t13.1), (8, .bool t18.2), (10, .bool t23.2), (35, .bool (t8.1 == 67305985)), (37, .bool (t13.1 == 256)), (43, .bool (!t23.2)), (54, .slice (some ⟨g347, 0, none⟩) 2 2), (58, .slice (some ⟨g354, 0, none⟩) 2 2)] W553 := by
          intro g347 g354 W553 hS hM 
          refine RunAny.call 10 (d := some 44) (g := 26) (args := #[.int .u32 2147483649, .int .i64 1]) (ready_of_cert hC30 (by kernel_rfl)) (by kernel_rfl) (words_Rol32.calls k 2147483649 1 t32 _ ht32) (by rintro _ _ ⟨rfl, hM_⟩; exact hS.below hM_.below) ?_
          rintro _ W554 ⟨rfl, hM_⟩
          replace hS := hS.below hM_.below
          replace hM := hM.call hM_
          clear hM_ ht32
          refine RunAny.rebase hS ?_
          replace hS := Still.refl W554 []
          refine RunAny.y 11 (side_of_cert hC30 (by kernel_rfl)) (yl_pure (d := some 45) (v := .bool (t32 == 3)) (k2 := [.inRegion (opsOf (pl Go.Proofs.Try.f13 [1, 1, 1, 1, 1, 1, 0])) []]) fun w => by kernel_rfl) (fun _ _ => trivial) hS ?_
          exact RunAny.same [0, 1, 2, 3, 4, 5, 6, 7, 8, 9, 20, 24, 10, 11] (lst_of_mask (by kernel_rfl)) [0, 3, 5, 8, 10, 35, 37, 43, 45, 54, 58] (by kernel_rfl) (J528 g347 g354 _ hS (hM.pick [0, 1, 2, 3, 4, 5, 6] rfl rfl))
        have J555 : ∀ (W556 : World) (hS : Still W556 [] W556) (hM : Mem w W556 [⟨.slice A24 t23.1.length c26, 5, 1, nums .u8 t23.1⟩, ⟨.slice (some ⟨g19, 0, none⟩) 1 1, 5, 1, nums .u8 [1]⟩, ⟨.slice (some ⟨g14, 0, none⟩) 3 3, 5, 1, nums .u8 [1, 2, 3]⟩, ⟨.slice (some ⟨g9, 0, none⟩) 8 8, 5, 1, nums .u8 [0, 0, 0, 0, 0, 0, 1, 0]⟩, ⟨.slice (some ⟨g4, 0, none⟩) 4 4, 5, 1, nums .u8 [1, 2, 3, 4]⟩]) , RunAny Go.Proofs.Try.prog (Ret fun v w' => v = .bool r ∧ Mem w w' []) 13 (rest1 (pl Go.Proofs.Try.f13 [1, 1, 1, 1, 1, 1, 0])) 82 (opsOf (pl Go.Proofs.Try.f13 [1, 1, 1, 1, 1, 1, 0])) (Still W556 []) 30 [0, 1, 2, 3, 4, 5, 6, 7, 8, 9, 10, 11] [(0, .int .i64 a0), (3, .int .u32 t8.1), (5, .int .u64 t13.1), (8, .bool t18.2), (10, .bool t23.2), (35, .bool (t8.1 == 67305985)), (37, .bool (t13.1 == 256)), (43, .bool (!t23.2)), (45, .bool (t32 == 3))] W556 := by
          intro W556 hS hM 
          refine RunAny.all [12, 20, 24] (ready_of_cert hC30 (by kernel_rfl)) (by simp) ?_
          refine ⟨?_, ?_, ?_, trivial⟩
          · refine Stepped.call 12 (d := some 46) (g := 26) (args := #[.int .u32 1, .int .i64 (-1)]) (by kernel_rfl) (words_Rol32.calls k 1 (-1) t48 _ ht48) (by rintro _ _ ⟨rfl, hM_⟩; exact hS.below hM_.below) ?_
            rintro _ W557 ⟨rfl, hM_⟩
            replace hS := hS.below hM_.below
            replace hM := hM.call hM_
            clear hM_ ht48
            refine RunAny.rebase hS ?_
            replace hS := Still.refl W557 []
            refine RunAny.y 13 (side_of_cert hC30 (by kernel_rfl)) (yl_pure (d := some 47) (v := .bool (t48 == 2147483648)) (k2 := [.inRegion (opsOf (pl Go.Proofs.Try.f13 [1, 1, 1, 1, 1, 1, 0])) []]) fun w => by kernel_rfl) (fun _ _ => trivial) hS ?_
            exact RunAny.same [0, 1, 2, 3, 4, 5, 6, 7, 8, 9, 10, 11, 12, 13] (lst_of_mask (by kernel_rfl)) [0, 3, 5, 8, 10, 35, 37, 43, 45, 47] (by kernel_rfl) (J531 _ hS (hM.pick [0, 1, 2, 3, 4] rfl rfl))
          · refine Stepped.new 20 5 1 2 (nums .u8 [18, 52]) (d := some 54) (k2 := [.inRegion (opsOf (pl Go.Proofs.Try.f13 [1, 1, 1, 1, 1, 1, 0])) []]) hM (by simp [nums, bools, strs]) (by kernel_rfl) (by kernel_rfl) hS ?_
            intro g558 W559 hS hM
            refine RunAny.rebase hS ?_
            replace hS := Still.refl W559 []
            exact RunAny.same [0, 1, 2, 3, 4, 5, 6, 7, 8, 9, 20, 10, 11] (lst_of_mask (by kernel_rfl)) [0, 3, 5, 8, 10, 35, 37, 43, 45, 54] (by kernel_rfl) (J546 g558 _ hS (hM.pick [0, 1, 2, 3, 4, 5] rfl rfl))
          · refine Stepped.new 24 5 1 2 (nums .u8 [255, 255]) (d := some 58) (k2 := [.inRegion (opsOf (pl Go.Proofs.Try.f13 [1, 1, 1, 1, 1, 1, 0])) []]) hM (by simp [nums, bools, strs]) (by kernel_rfl) (by kernel_rfl) hS ?_
            intro g561 W562 hS hM
            refine RunAny.rebase hS ?_
            replace hS := Still.refl W562 []
            exact RunAny.same [0, 1, 2, 3, 4, 5, 6, 7, 8, 9, 24, 10, 11] (lst_of_mask (by kernel_rfl)) [0, 3, 5, 8, 10, 35, 37, 43, 45, 58] (by kernel_rfl) (J540 g561 _ hS (hM.pick [0, 1, 2, 3, 4, 5] rfl rfl))
        have J564 : ∀ (g350 : Nat) (W565 : World) (hS : Still W565 [] W565) (hM : Mem w W565 [⟨.slice (some ⟨g350, 0, none⟩) 2 2, 5, 1, nums .u8 [255, 255]⟩, ⟨.slice A24 t23.1.length c26, 5, 1, nums .u8 t23.1⟩, ⟨.slice (some ⟨g19, 0, none⟩) 1 1, 5, 1, nums .u8 [1]⟩, ⟨.slice (some ⟨g14, 0, none⟩) 3 3, 5, 1, nums .u8 [1, 2, 3]⟩, ⟨.slice (some ⟨g9, 0, none⟩) 8 8, 5, 1, nums .u8 [0, 0, 0, 0, 0, 0, 1, 0]⟩, ⟨.slice (some ⟨g4, 0, none⟩) 4 4, 5, 1, nums .u8 [1, 2, 3, 4]⟩]) , RunAny Go.Proofs.Try.prog (Ret fun v w' => v = .bool r ∧ Mem w w' []) 13 (rest1 (pl Go.Proofs.Try.f13 [1, 1, 1, 1, 1, 1, 0])) 82 (opsOf (pl Go.Proofs.Try.f13 [1, 1, 1, 1, 1, 1, 0])) (Still W565 []) 31 [0, 1, 2, 3, 4, 5, 6, 7, 8, 9, 24] [(0, .int .i64 a0), (3, .int .u32 t8.1), (5, .int .u64 t13.1), (8, .bool t18.2), (10, .bool t23.2), (35, .bool (t8.1 == 67305985)), (37, .bool (t13.1 == 256)), (43, .bool (!t23.2)), (58, .slice (some ⟨g350, 0, none⟩) 2 2)] W565 := by
          intro g350 W565 hS hM 
          refine RunAny.all [10, 20] (ready_of_cert hC30 (by kernel_rfl)) (by simp) ?_
          refine ⟨?_, ?_, trivial⟩
          · refine Stepped.call 10 (d := some 44) (g := 26) (args := #[.int .u32 2147483649, .int .i64 1]) (by kernel_rfl) (words_Rol32.calls k 2147483649 1 t32 _ ht32) (by rintro _ _ ⟨rfl, hM_⟩; exact hS.below hM_.below) ?_
            rintro _ W566 ⟨rfl, hM_⟩
            replace hS := hS.below hM_.below
            replace hM := hM.call hM_
            clear hM_ ht32
            refine RunAny.rebase hS ?_
            replace hS := Still.refl W566 []
            refine RunAny.y 11 (side_of_cert hC30 (by kernel_rfl)) (yl_pure (d := some 45) (v := .bool (t32 == 3)) (k2 := [.inRegion (opsOf (pl Go.Proofs.Try.f13 [1, 1, 1, 1, 1, 1, 0])) []]) fun w => by kernel_rfl) (fun _ _ => trivial) hS ?_
            exact RunAny.same [0, 1, 2, 3, 4, 5, 6, 7, 8, 9, 24, 10, 11] (lst_of_mask (by kernel_rfl)) [0, 3, 5, 8, 10, 35, 37, 43, 45, 58] (by kernel_rfl) (J540 g350 _ hS (hM.pick [0, 1, 2, 3, 4, 5] rfl rfl))
          · refine Stepped.new 20 5 1 2 (nums .u8 [18, 52]) (d := some 54) (k2 := [.inRegion (opsOf (pl Go.Proofs.Try.f13 [1, 1, 1, 1, 1, 1, 0])) []]) hM (by simp [nums, bools, strs]) (by kernel_rfl) (by kernel_rfl) hS ?_
            intro g567 W568 hS hM
            refine RunAny.rebase hS ?_
            replace hS := Still.refl W568 []
            exact RunAny.same [0, 1, 2, 3, 4, 5, 6, 7, 8, 9, 20, 24] (lst_of_mask (by kernel_rfl)) [0, 3, 5, 8, 10, 35, 37, 43, 54, 58] (by kernel_rfl) (J552 g567 g350 _ hS (hM.pick [0, 1, 2, 3, 4, 5, 6] rfl rfl))
        have J570 : ∀ (g347 : Nat) (W571 : World) (hS : Still W571 [] W571) (hM : Mem w W571 [⟨.slice (some ⟨g347, 0, none⟩) 2 2, 5, 1, nums .u8 [18, 52]⟩, ⟨.slice A24 t23.1.length c26, 5, 1, nums .u8 t23.1⟩, ⟨.slice (some ⟨g19, 0, none⟩) 1 1, 5, 1, nums .u8 [1]⟩, ⟨.slice (some ⟨g14, 0, none⟩) 3 3, 5, 1, nums .u8 [1, 2, 3]⟩, ⟨.slice (some ⟨g9, 0, none⟩) 8 8, 5, 1, nums .u8 [0, 0, 0, 0, 0, 0, 1, 0]⟩, ⟨.slice (some ⟨g4, 0, none⟩) 4 4, 5, 1, nums .u8 [1, 2, 3, 4]⟩]) , RunAny Go.Proofs.Try.prog (Ret fun v w' => v = .bool r ∧ Mem w w' []) 13 (rest1 (pl Go.Proofs.Try.f13 [1, 1, 1, 1, 1, 1, 0])) 82 (opsOf (pl Go.Proofs.Try.f13 [1, 1, 1, 1, 1, 1, 0])) (Still W571 []) 31 [0, 1, 2, 3, 4, 5, 6, 7, 8, 9, 20] [(0, .int .i64 a0), (3, .int .u32 t8.1), (5, .int .u64 t13.1), (8, .bool t18.2), (10, .bool t23.2), (35, .bool (t8.1 == 67305985)), (37, .bool (t13.1 == 256)), (43, .bool (!t23.2)), (54, .slice (some ⟨g347, 0, none⟩) 2 2)] W571 := by
          intro g347 W571 hS hM 
          refine RunAny.all [10, 24] (ready_of_cert hC30 (by kernel_rfl)) (by simp) ?_
          refine ⟨?_, ?_, trivial⟩
          · refine Stepped.call 10 (d := some 44) (g := 26) (args := #[.int .u32 2147483649, .int .i64 1]) (by kernel_rfl) (words_Rol32.calls k 2147483649 1 t32 _ ht32) (by rintro _ _ ⟨rfl, hM_⟩; exact hS.below hM_.below) ?_
            rintro _ W572 ⟨rfl, hM_⟩
            replace hS := hS.below hM_.below
            replace hM := hM.call hM_
            clear hM_ ht32
            refine RunAny.rebase hS ?_
            replace hS := Still.refl W572 []
            refine RunAny.y 11 (side_of_cert hC30 (by kernel_rfl)) (yl_pure (d := some 45) (v := .bool (t32 == 3)) (k2 := [.inRegion (opsOf (pl Go.Proofs.Try.f13 [1, 1, 1, 1, 1, 1, 0])) []]) fun w => by kernel_rfl) (fun _ _ => trivial) hS ?_
            exact RunAny.same [0, 1, 2, 3, 4, 5, 6, 7, 8, 9, 20, 10, 11] (lst_of_mask (by kernel_rfl)) [0, 3, 5, 8, 10, 35, 37, 43, 45, 54] (by kernel_rfl) (J546 g347 _ hS (hM.pick [0, 1, 2, 3, 4, 5] rfl rfl))
          · refine Stepped.new 24 5 1 2 (nums .u8 [255, 255]) (d := some 58) (k2 := [.inRegion (opsOf (pl Go.Proofs.Try.f13 [1, 1, 1, 1, 1, 1, 0])) []]) hM (by simp [nums, bools, strs]) (by kernel_rfl) (by kernel_rfl) hS ?_
            intro g573 W574 hS hM
            refine RunAny.rebase hS ?_
            replace hS := Still.refl W574 []
            exact RunAny.same [0, 1, 2, 3, 4, 5, 6, 7, 8, 9, 20, 24] (lst_of_mask (by kernel_rfl)) [0, 3, 5, 8, 10, 35, 37, 43, 54, 58] (by kernel_rfl) (J552 g347 g573 _ hS (hM.pick [1, 0, 2, 3, 4, 5, 6] rfl rfl))
        refine RunAny.all [10, 20, 24] (ready_of_cert hC30 (by kernel_rfl)) (by simp) ?_
        refine ⟨?_, ?_, ?_, trivial⟩
        · refine Stepped.call 10 (d := some 44) (g := 26) (args := #[.int .u32 2147483649, .int .i64 1]) (by kernel_rfl) (words_Rol32.calls k 2147483649 1 t32 _ ht32) (by rintro _ _ ⟨rfl, hM_⟩; exact hS.below hM_.below) ?_
          rintro _ W576 ⟨rfl, hM_⟩
          replace hS := hS.below hM_.below
          replace hM := hM.call hM_
          clear hM_ ht32
          refine RunAny.rebase hS ?_
          replace hS := Still.refl W576 []
          refine RunAny.y 11 (side_of_cert hC30 (by kernel_rfl)) (yl_pure (d := some 45) (v := .bool (t32 == 3)) (k2 := [.inRegion (opsOf (pl Go.Proofs.Try.f13 [1, 1, 1, 1, 1, 1, 0])) []]) fun w => by kernel_rfl) (fun _ _ => trivial) hS ?_
          exact RunAny.same [0, 1, 2, 3, 4, 5, 6, 7, 8, 9, 10, 11] (lst_of_mask (by kernel_rfl)) [0, 3, 5, 8, 10, 35, 37, 43, 45] (by kernel_rfl) (J555 _ hS (hM.pick [0, 1, 2, 3, 4] rfl rfl))
        · refine Stepped.new 20 5 1 2 (nums .u8 [18, 52]) (d := some 54) (k2 := [.inRegion (opsOf (pl Go.Proofs.Try.f13 [1, 1, 1, 1, 1, 1, 0])) []]) hM (by simp [nums, bools, strs]) (by kernel_rfl) (by kernel_rfl) hS ?_
          intro g577 W578 hS hM
          refine RunAny.rebase hS ?_
          replace hS := Still.refl W578 []
          exact RunAny.same [0, 1, 2, 3, 4, 5, 6, 7, 8, 9, 20] (lst_of_mask (by kernel_rfl)) [0, 3, 5, 8, 10, 35, 37, 43, 54] (by kernel_rfl) (J570 g577 _ hS (hM.pick [0, 1, 2, 3, 4, 5] rfl rfl))
        · refine Stepped.new 24 5 1 2 (nums .u8 [255, 255]) (d := some 58) (k2 := [.inRegion (opsOf (pl Go.Proofs.Try.f13 [1, 1, 1, 1, 1, 1, 0])) []]) hM (by simp [nums, bools, strs]) (by kernel_rfl) (by kernel_rfl) hS ?_
          intro g580 W581 hS hM
          refine RunAny.rebase hS ?_
          replace hS := Still.refl W581 []
          exact RunAny.same [0, 1, 2, 3, 4, 5, 6, 7, 8, 9, 24] (lst_of_mask (by kernel_rfl)) [0, 3, 5, 8, 10, 35, 37, 43, 58] (by kernel_rfl) (J564 g580 _ hS (hM.pick [0, 1, 2, 3, 4, 5] rfl rfl))
    · replace h := of_false h c31
      refine RunAny.know 40 (b := false) (by kernel_rfl) c31 ?_
      refine RunAny.off 7 (d := some 41) (side_of_cert hC30 (by kernel_rfl)) (by kernel_rfl) hS ?_
      refine RunAny.off 8 (d := some 42) (side_of_cert hC30 (by kernel_rfl)) (by kernel_rfl) hS ?_
      refine RunAny.y 9 (side_of_cert hC30 (by kernel_rfl)) (yl_pure (d := some 43) (v := .bool false) (k2 := [.inRegion (opsOf (pl Go.Proofs.Try.f13 [1, 1, 1, 1, 1, 1, 0])) []]) fun w => by kernel_rfl) (fun _ _ => trivial) hS ?_
      obtain ⟨t583, ht583, h⟩ := Option.bind_eq_some_iff.mp h
      obtain ⟨t599, ht599, h⟩ := Option.bind_eq_some_iff.mp h
      obtain ⟨t616, ht616, h⟩ := Option.bind_eq_some_iff.mp h
      rcases two ((t616 == 128)) with c618 | c618
      · replace h := of_true h c618
        obtain ⟨t667, ht667, h⟩ := Option.bind_eq_some_iff.mp h
        obtain ⟨t690, ht690, h⟩ := Option.bind_eq_some_iff.mp h
        have J710 : ∀ (g620 : Nat) (A703 : Option Addr) (c705 : Nat) (g627 : Nat) (W711 : World) (hS : Still W711 [] W711) (hM : Mem w W711 [⟨.slice (some ⟨g620, 0, none⟩) 2 2, 5, 1, nums .u8 [18, 52]⟩, ⟨.slice A703 t690.length c705, 5, 1, nums .u8 t690⟩, ⟨.slice (some ⟨g627, 0, none⟩) 2 2, 5, 1, nums .u8 [255, 255]⟩, ⟨.slice A24 t23.1.length c26, 5, 1, nums .u8 t23.1⟩, ⟨.slice (some ⟨g19, 0, none⟩) 1 1, 5, 1, nums .u8 [1]⟩, ⟨.slice (some ⟨g14, 0, none⟩) 3 3, 5, 1, nums .u8 [1, 2, 3]⟩, ⟨.slice (some ⟨g9, 0, none⟩) 8 8, 5, 1, nums .u8 [0, 0, 0, 0, 0, 0, 1, 0]⟩, ⟨.slice (some ⟨g4, 0, none⟩) 4 4, 5, 1, nums .u8 [1, 2, 3, 4]⟩]) , RunAny Go.Proofs.Try.prog (Ret fun v w' => v = .bool r ∧ Mem w w' []) 13 (rest1 (pl Go.Proofs.Try.f13 [1, 1, 1, 1, 1, 1, 0])) 82 (opsOf (pl Go.Proofs.Try.f13 [1, 1, 1, 1, 1, 1, 0])) (Still W711 []) 17 [0, 1, 2, 3, 4, 5, 6, 7, 8, 9, 20, 24, 10, 11, 12, 13, 14, 15, 16, 17, 18, 19, 21, 22, 23] [(0, .int .i64 a0), (3, .int .u32 t8.1), (5, .int .u64 t13.1), (8, .bool t18.2), (10, .bool t23.2), (35, .bool (t8.1 == 67305985)), (37, .bool (t13.1 == 256)), (43, .bool false), (45, .bool (t583 == 3)), (47, .bool (t599 == 2147483648)), (53, .bool (t667 == 105)), (57, .bool ((strOf t690).toList == (⟨#[35, 65]⟩ : ByteArray).toList)), (58, .slice (some ⟨g627, 0, none⟩) 2 2)] W711 := by
          intro g620 A703 c705 g627 W711 hS hM 
          obtain ⟨t713, ht713, h⟩ := Option.bind_eq_some_iff.mp h
          refine RunAny.call 25 (d := some 59) (g := 16) (args := #[.slice (some ⟨g627, 0, none⟩) 2 2]) (ready_of_cert hC30 (by kernel_rfl)) (by kernel_rfl) (words_Inc.calls k (some ⟨g627, 0, none⟩) 2 2 ([255, 255] : List Int) t713 _ (hM.rd 2 rfl) ht713) (by rintro _ _ ⟨_, _, _, rfl, hM_⟩; exact hS.below hM_.below) ?_
          rintro _ W712 ⟨A714, n715, c716, rfl, hM_⟩
          obtain rfl : t713.length = n715 := by have h_ := (hM_.rd 0 rfl).1; simpa [nums_length, bools_length, strs_length] using h_
          replace hS := hS.below hM_.below
          replace hM := hM.call hM_
          clear hM_ ht713
          refine RunAny.rebase hS ?_
          replace hS := Still.refl W712 []
          refine RunAny.y 26 (side_of_cert hC30 (by kernel_rfl)) (str_y (d := some 60) (A := A714) (m := t713.length) (c := c716) (k2 := [.inRegion (opsOf (pl Go.Proofs.Try.f13 [1, 1, 1, 1, 1, 1, 0])) []]) t713 (by kernel_rfl)) (fun _ hs => ((hM.rd 0 rfl).still hs (by simp))) hS ?_
          refine RunAny.y 27 (side_of_cert hC30 (by kernel_rfl)) (yl_pure (d := some 61) (v := .bool ((strOf t713).toList == (⟨#[0, 0]⟩ : ByteArray).toList)) (k2 := [.inRegion (opsOf (pl Go.Proofs.Try.f13 [1, 1, 1, 1, 1, 1, 0])) []]) fun w => by kernel_rfl) (fun _ _ => trivial) hS ?_
          refine RunAny.y 28 (side_of_cert hC30 (by kernel_rfl)) (yl_pure (d := some 62) (v := .bool ((strOf t713).toList == (⟨#[0, 0]⟩ : ByteArray).toList)) (k2 := [.inRegion (opsOf (pl Go.Proofs.Try.f13 [1, 1, 1, 1, 1, 1, 0])) []]) fun w => by kernel_rfl) (fun _ _ => trivial) hS ?_
          rcases two (((strOf t713).toList == (⟨#[0, 0]⟩ : ByteArray).toList)) with c718 | c718
          · replace h := of_true h c718
            refine RunAny.know 62 (b := true) (by kernel_rfl) c718 ?_
            refine RunAny.new 29 5 1 3 (nums .u8 [0, 1, 255]) (d := some 63) (k2 := [.inRegion (opsOf (pl Go.Proofs.Try.f13 [1, 1, 1, 1, 1, 1, 0])) []]) (ready_of_cert hC30 (by kernel_rfl)) hM (by simp [nums, bools, strs]) (by kernel_rfl) (by kernel_rfl) hS ?_
            intro g719 W720 hS hM
            refine RunAny.rebase hS ?_
            replace hS := Still.refl W720 []
            obtain ⟨t723, ht723, h⟩ := Option.bind_eq_some_iff.mp h
            refine RunAny.call 30 (d := some 64) (g := 16) (args := #[.slice (some ⟨g719, 0, none⟩) 3 3]) (ready_of_cert hC30 (by kernel_rfl)) (by kernel_rfl) (words_Inc.calls k (some ⟨g719, 0, none⟩) 3 3 ([0, 1, 255] : List Int) t723 _ (hM.rd 0 rfl) ht723) (by rintro _ _ ⟨_, _, _, rfl, hM_⟩; exact hS.below hM_.below) ?_
            rintro _ W722 ⟨A724, n725, c726, rfl, hM_⟩
            obtain rfl : t723.length = n725 := by have h_ := (hM_.rd 0 rfl).1; simpa [nums_length, bools_length, strs_length] using h_
            replace hS := hS.below hM_.below
            replace hM := hM.call hM_
            clear hM_ ht723
            refine RunAny.rebase hS ?_
            replace hS := Still.refl W722 []
            refine RunAny.y 31 (side_of_cert hC30 (by kernel_rfl)) (str_y (d := some 65) (A := A724) (m := t723.length) (c := c726) (k2 := [.inRegion (opsOf (pl Go.Proofs.Try.f13 [1, 1, 1, 1, 1, 1, 0])) []]) t723 (by kernel_rfl)) (fun _ hs => ((hM.rd 0 rfl).still hs (by simp))) hS ?_
            refine RunAny.y 32 (side_of_cert hC30 (by kernel_rfl)) (yl_pure (d := some 66) (v := .bool ((strOf t723).toList == (⟨#[0, 2, 0]⟩ : ByteArray).toList)) (k2 := [.inRegion (opsOf (pl Go.Proofs.Try.f13 [1, 1, 1, 1, 1, 1, 0])) []]) fun w => by kernel_rfl) (fun _ _ => trivial) hS ?_
            refine RunAny.y 33 (side_of_cert hC30 (by kernel_rfl)) (yl_pure (d := some 67) (v := .bool ((strOf t723).toList == (⟨#[0, 2, 0]⟩ : ByteArray).toList)) (k2 := [.inRegion (opsOf (pl Go.Proofs.Try.f13 [1, 1, 1, 1, 1, 1, 0])) []]) fun w => by kernel_rfl) (fun _ _ => trivial) hS ?_
            obtain ⟨t729, ht729, h⟩ := Option.bind_eq_some_iff.mp h
            refine RunAny.call 34 (d := some 68) (g := 16) (args := #[.slice none 0 0]) (ready_of_cert hC30 (by kernel_rfl)) (by kernel_rfl) (words_Inc.calls k none 0 0 ([] : List Int) t729 _ (Rd.nil _ .u8) ht729) (by rintro _ _ ⟨_, _, _, rfl, hM_⟩; exact hS.below hM_.below) ?_
            rintro _ W728 ⟨A730, n731, c732, rfl, hM_⟩
            obtain rfl : t729.length = n731 := by have h_ := (hM_.rd 0 rfl).1; simpa [nums_length, bools_length, strs_length] using h_
            replace hS := hS.below hM_.below
            replace hM := hM.call hM_
            clear hM_ ht729
            refine RunAny.rebase hS ?_
            replace hS := Still.refl W728 []
            refine RunAny.y 35 (side_of_cert hC30 (by kernel_rfl)) (yl_pure (d := some 69) (v := .int .i64 (t729.length : Int)) (k2 := [.inRegion (opsOf (pl Go.Proofs.Try.f13 [1, 1, 1, 1, 1, 1, 0])) []]) fun w => by kernel_rfl) (fun _ _ => trivial) hS ?_
            refine RunAny.y 36 (side_of_cert hC30 (by kernel_rfl)) (yl_pure (d := some 70) (v := .bool ((t729.length : Int) == 0)) (k2 := [.inRegion (opsOf (pl Go.Proofs.Try.f13 [1, 1, 1, 1, 1, 1, 0])) []]) fun w => by kernel_rfl) (fun _ _ => trivial) hS ?_
            obtain ⟨t735, ht735, h⟩ := Option.bind_eq_some_iff.mp h
            refine RunAny.call 37 (d := some 71) (g := 34) (args := #[.int .u32 16909060]) (ready_of_cert hC30 (by kernel_rfl)) (by kernel_rfl) (words_PutLe32.calls k 16909060 t735 _ ht735) (by rintro _ _ ⟨_, _, _, rfl, hM_⟩; exact hS.below hM_.below) ?_
            rintro _ W734 ⟨A736, n737, c738, rfl, hM_⟩
            obtain rfl : t735.length = n737 := by have h_ := (hM_.rd 0 rfl).1; simpa [nums_length, bools_length, strs_length] using h_
            replace hS := hS.below hM_.below
            replace hM := hM.call hM_
            clear hM_ ht735
            refine RunAny.rebase hS ?_
            replace hS := Still.refl W734 []
            refine RunAny.y 38 (side_of_cert hC30 (by kernel_rfl)) (str_y (d := some 72) (A := A736) (m := t735.length) (c := c738) (k2 := [.inRegion (opsOf (pl Go.Proofs.Try.f13 [1, 1, 1, 1, 1, 1, 0])) []]) t735 (by kernel_rfl)) (fun _ hs => ((hM.rd 0 rfl).still hs (by simp))) hS ?_
            refine RunAny.y 39 (side_of_cert hC30 (by kernel_rfl)) (yl_pure (d := some 73) (v := .bool ((strOf t735).toList == (⟨#[4, 3, 2, 1]⟩ : ByteArray).toList)) (k2 := [.inRegion (opsOf (pl Go.Proofs.Try.f13 [1, 1, 1, 1, 1, 1, 0])) []]) fun w => by kernel_rfl) (fun _ _ => trivial) hS ?_
            refine RunAny.new 40 4 1 10 (bools [(t8.1 == 67305985), (t13.1 == 256), false, (t583 == 3), (t599 == 2147483648), (t667 == 105), ((strOf t690).toList == (⟨#[35, 65]⟩ : ByteArray).toList), ((strOf t723).toList == (⟨#[0, 2, 0]⟩ : ByteArray).toList), ((t729.length : Int) == 0), ((strOf t735).toList == (⟨#[4, 3, 2, 1]⟩ : ByteArray).toList)]) (d := some 74) (k2 := [.inRegion (opsOf (pl Go.Proofs.Try.f13 [1, 1, 1, 1, 1, 1, 0])) []]) (ready_of_cert hC30 (by kernel_rfl)) hM (by simp [nums, bools, strs]) (by kernel_rfl) (by kernel_rfl) hS ?_
            intro g740 W741 hS hM
            refine RunAny.rebase hS ?_
            replace hS := Still.refl W741 []
            refine RunAny.y 41 (side_of_cert hC30 (by kernel_rfl)) (yl_pure (d := some 11) (v := .slice (some ⟨g740, 0, none⟩) 10 10) (k2 := [.inRegion (opsOf (pl Go.Proofs.Try.f13 [1, 1, 1, 1, 1, 1, 0])) []]) fun w => by kernel_rfl) (fun _ _ => trivial) hS ?_
            refine RunAny.done (ready_of_cert hC30 (by kernel_rfl)) ?_
            clear hS
            refine RunF.go 6 [75, 76, 78] (k' := (pin Go.Proofs.Try.f13 [1, 1, 1, 1, 1, 1, 1, 0] 4)) (L' := [(75, .slice (some ⟨g740, 0, none⟩) 10 10), (76, .int .i64 a0), (78, .int .i64 10)]) (w' := W741) (by kernel_rfl) ?_
            obtain ⟨t744, ht744, h⟩ := Option.bind_eq_some_iff.mp h
            refine RunF.call (d := some 79) (g := 15) (args := #[.int .i64 a0, .int .i64 10]) (k2 := (pin Go.Proofs.Try.f13 [1, 1, 1, 1, 1, 1, 1, 0] 5)) (by kernel_rfl) (scrimlaw1_within.calls k a0 10 t744 _ ht744) ?_
            rintro _ W743 ⟨rfl, hM_⟩
            replace hM := hM.call hM_
            clear hM_ ht744
            rcases two (decide (0 ≤ t744)) with c746 | c746
            · replace h := of_true h c746
              rcases two (decide (t744 < (10 : Int))) with c747 | c747
              · replace h := of_true h c747
                obtain ⟨q745, hAq745, hcq745, hfq745, hlq745⟩ := hM.bool_at 0 rfl (i := t744) (of_decide_eq_true c746) (by have h_ := of_decide_eq_true c747; omega)
                refine RunF.y (idx_own (d := some 80) (A := (some ⟨g740, 0, none⟩)) (m := 10) (i := t744) (k2 := (pin Go.Proofs.Try.f13 [1, 1, 1, 1, 1, 1, 1, 0] 6)) (by kernel_rfl) (of_decide_eq_true c746) (by have h_ := of_decide_eq_true c747; omega) hAq745) trivial ?_
                refine RunF.y (ld_y (d := some 81) (p := ⟨q745, (t744 : Int).toNat, none⟩) (k2 := (pin Go.Proofs.Try.f13 [1, 1, 1, 1, 1, 1, 1, 0] 7)) (.bool (rdb ([(t8.1 == 67305985), (t13.1 == 256), false, (t583 == 3), (t599 == 2147483648), (t667 == 105), ((strOf t690).toList == (⟨#[35, 65]⟩ : ByteArray).toList), ((strOf t723).toList == (⟨#[0, 2, 0]⟩ : ByteArray).toList), ((t729.length : Int) == 0), ((strOf t735).toList == (⟨#[4, 3, 2, 1]⟩ : ByteArray).toList)] : List Bool) t744)) (by kernel_rfl)) hcq745 ?_
                refine RunF.go 2 [2] (k' := (pl Go.Proofs.Try.f13 [1, 1, 1, 1, 1, 1, 1, 1])) (L' := [(2, .bool (rdb ([(t8.1 == 67305985), (t13.1 == 256), false, (t583 == 3), (t599 == 2147483648), (t667 == 105), ((strOf t690).toList == (⟨#[35, 65]⟩ : ByteArray).toList), ((strOf t723).toList == (⟨#[0, 2, 0]⟩ : ByteArray).toList), ((t729.length : Int) == 0), ((strOf t735).toList == (⟨#[4, 3, 2, 1]⟩ : ByteArray).toList)] : List Bool) t744))]) (w' := W743) (by kernel_rfl) ?_
                obtain rfl := Option.some.inj h
                exact RunF.ret1 2 (.bool (rdb ([(t8.1 == 67305985), (t13.1 == 256), false, (t583 == 3), (t599 == 2147483648), (t667 == 105), ((strOf t690).toList == (⟨#[35, 65]⟩ : ByteArray).toList), ((strOf t723).toList == (⟨#[0, 2, 0]⟩ : ByteArray).toList), ((t729.length : Int) == 0), ((strOf t735).toList == (⟨#[4, 3, 2, 1]⟩ : ByteArray).toList)] : List Bool) t744)) (fn := Go.Proofs.Try.f13) Go.Proofs.Try.func13 (by kernel_rfl) (by kernel_rfl) (by kernel_rfl) ⟨_, rfl, rfl, (hM.pick [] rfl rfl)⟩
              · replace h := of_false h c747
                cases h
            · replace h := of_false h c746
              cases h
          · replace h := of_false h c718
            refine RunAny.know 62 (b := false) (by kernel_rfl) c718 ?_
            refine RunAny.off 29 (d := some 63) (side_of_cert hC30 (by kernel_rfl)) (by kernel_rfl) hS ?_
            refine RunAny.off 30 (d := some 64) (side_of_cert hC30 (by kernel_rfl)) (by kernel_rfl) hS ?_
            refine RunAny.off 31 (d := some 65) (side_of_cert hC30 (by kernel_rfl)) (by kernel_rfl) hS ?_
            refine RunAny.off 32 (d := some 66) (side_of_cert hC30 (by kernel_rfl)) (by kernel_rfl) hS ?_
            refine RunAny.y 33 (side_of_cert hC30 (by kernel_rfl)) (yl_pure (d := some 67) (v := .bool false) (k2 := [.inRegion (opsOf (pl Go.Proofs.Try.f13 [1, 1, 1, 1, 1, 1, 0])) []]) fun w => by kernel_rfl) (fun _ _ => trivial) hS ?_
            obtain ⟨t749, ht749, h⟩ := Option.bind_eq_some_iff.mp h
            refine RunAny.call 34 (d := some 68) (g := 16) (args := #[.slice none 0 0]) (ready_of_cert hC30 (by kernel_rfl)) (by kernel_rfl) (words_Inc.calls k none 0 0 ([] : List Int) t749 _ (Rd.nil _ .u8) ht749) (by rintro _ _ ⟨_, _, _, rfl, hM_⟩; exact hS.below hM_.below) ?_
            rintro _ W748 ⟨A750, n751, c752, rfl, hM_⟩
            obtain rfl : t749.length = n751 := by have h_ := (hM_.rd 0 rfl).1; simpa [nums_length, bools_length, strs_length] using h_
            replace hS := hS.below hM_.below
            replace hM := hM.call hM_
            clear hM_ ht749
            refine RunAny.rebase hS ?_
            replace hS := Still.refl W748 []
            refine RunAny.y 35 (side_of_cert hC30 (by kernel_rfl)) (yl_pure (d := some 69) (v := .int .i64 (t749.length : Int)) (k2 := [.inRegion (opsOf (pl Go.Proofs.Try.f13 [1, 1, 1, 1, 1, 1, 0])) []]) fun w => by kernel_rfl) (fun _ _ => trivial) hS ?_
            refine RunAny.y 36 (side_of_cert hC30 (by kernel_rfl)) (yl_pure (d := some 70) (v := .bool ((t749.length : Int) == 0)) (k2 := [.inRegion (opsOf (pl Go.Proofs.Try.f13 [1, 1, 1, 1, 1, 1, 0])) []]) fun w => by kernel_rfl) (fun _ _ => trivial) hS ?_
            obtain ⟨t755, ht755, h⟩ := Option.bind_eq_some_iff.mp h
            refine RunAny.call 37 (d := some 71) (g := 34) (args := #[.int .u32 16909060]) (ready_of_cert hC30 (by kernel_rfl)) (by kernel_rfl) (words_PutLe32.calls k 16909060 t755 _ ht755) (by rintro _ _ ⟨_, _, _, rfl, hM_⟩; exact hS.below hM_.below) ?_
            rintro _ W754 ⟨A756, n757, c758, rfl, hM_⟩
            obtain rfl : t755.length = n757 := by have h_ := (hM_.rd 0 rfl).1; simpa [nums_length, bools_length, strs_length] using h_
            replace hS := hS.below hM_.below
            replace hM := hM.call hM_
            clear hM_ ht755
            refine RunAny.rebase hS ?_
            replace hS := Still.refl W754 []
            refine RunAny.y 38 (side_of_cert hC30 (by kernel_rfl)) (str_y (d := some 72) (A := A756) (m := t755.length) (c := c758) (k2 := [.inRegion (opsOf (pl Go.Proofs.Try.f13 [1, 1, 1, 1, 1, 1, 0])) []]) t755 (by kernel_rfl)) (fun _ hs => ((hM.rd 0 rfl).still hs (by simp))) hS ?_
            refine RunAny.y 39 (side_of_cert hC30 (by kernel_rfl)) (yl_pure (d := some 73) (v := .bool ((strOf t755).toList == (⟨#[4, 3, 2, 1]⟩ : ByteArray).toList)) (k2 := [.inRegion (opsOf (pl Go.Proofs.Try.f13 [1, 1, 1, 1, 1, 1, 0])) []]) fun w => by kernel_rfl) (fun _ _ => trivial) hS ?_
            refine RunAny.new 40 4 1 10 (bools [(t8.1 == 67305985), (t13.1 == 256), false, (t583 == 3), (t599 == 2147483648), (t667 == 105), ((strOf t690).toList == (⟨#[35, 65]⟩ : ByteArray).toList), false, ((t749.length : Int) == 0), ((strOf t755).toList == (⟨#[4, 3, 2, 1]⟩ : ByteArray).toList)]) (d := some 74) (k2 := [.inRegion (opsOf (pl Go.Proofs.Try.f13 [1, 1, 1, 1, 1, 1, 0])) []]) (ready_of_cert hC30 (by kernel_rfl)) hM (by simp [nums, bools, strs]) (by kernel_rfl) (by kernel_rfl) hS ?_
            intro g760 W761 hS hM
            refine RunAny.rebase hS ?_
            replace hS := Still.refl W761 []
            refine RunAny.y 41 (side_of_cert hC30 (by kernel_rfl)) (yl_pure (d := some 11) (v := .slice (some ⟨g760, 0, none⟩) 10 10) (k2 := [.inRegion (opsOf (pl Go.Proofs.Try.f13 [1, 1, 1, 1, 1, 1, 0])) []]) fun w => by kernel_rfl) (fun _ _ => trivial) hS ?_
            refine RunAny.done (ready_of_cert hC30 (by kernel_rfl)) ?_
            clear hS
            refine RunF.go 6 [75, 76, 78] (k' := (pin Go.Proofs.Try.f13 [1, 1, 1, 1, 1, 1, 1, 0] 4)) (L' := [(75, .slice (some ⟨g760, 0, none⟩) 10 10), (76, .int .i64 a0), (78, .int .i64 10)]) (w' := W761) (by kernel_rfl) ?_
            obtain ⟨t764, ht764, h⟩ := Option.bind_eq_some_iff.mp h
            refine RunF.call (d := some 79) (g := 15) (args := #[.int .i64 a0, .int .i64 10]) (k2 := (pin Go.Proofs.Try.f13 [1, 1, 1, 1, 1, 1, 1, 0] 5)) (by kernel_rfl) (scrimlaw1_within.calls k a0 10 t764 _ ht764) ?_
            rintro _ W763 ⟨rfl, hM_⟩
            replace hM := hM.call hM_
            clear hM_ ht764
            rcases two (decide (0 ≤ t764)) with c766 | c766
            · replace h := of_true h c766
              rcases two (decide (t764 < (10 : Int))) with c767 | c767
              · replace h := of_true h c767
                obtain ⟨q765, hAq765, hcq765, hfq765, hlq765⟩ := hM.bool_at 0 rfl (i := t764) (of_decide_eq_true c766) (by have h_ := of_decide_eq_true c767; omega)
                refine RunF.y (idx_own (d := some 80) (A := (some ⟨g760, 0, none⟩)) (m := 10) (i := t764) (k2 := (pin Go.Proofs.Try.f13 [1, 1, 1, 1, 1, 1, 1, 0] 6)) (by kernel_rfl) (of_decide_eq_true c766) (by have h_ := of_decide_eq_true c767; omega) hAq765) trivial ?_
                refine RunF.y (ld_y (d := some 81) (p := ⟨q765, (t764 : Int).toNat, none⟩) (k2 := (pin Go.Proofs.Try.f13 [1, 1, 1, 1, 1, 1, 1, 0] 7)) (.bool (rdb ([(t8.1 == 67305985), (t13.1 == 256), false, (t583 == 3), (t599 == 2147483648), (t667 == 105), ((strOf t690).toList == (⟨#[35, 65]⟩ : ByteArray).toList), false, ((t749.length : Int) == 0), ((strOf t755).toList == (⟨#[4, 3, 2, 1]⟩ : ByteArray).toList)] : List Bool) t764)) (by kernel_rfl)) hcq765 ?_
                refine RunF.go 2 [2] (k' := (pl Go.Proofs.Try.f13 [1, 1, 1, 1, 1, 1, 1, 1])) (L' := [(2, .bool (rdb ([(t8.1 == 67305985), (t13.1 == 256), false, (t583 == 3), (t599 == 2147483648), (t667 == 105), ((strOf t690).toList == (⟨#[35, 65]⟩ : ByteArray).toList), false, ((t749.length : Int) == 0), ((strOf t755).toList == (⟨#[4, 3, 2, 1]⟩ : ByteArray).toList)] : List Bool) t764))]) (w' := W763) (by kernel_rfl) ?_
                obtain rfl := Option.some.inj h
                exact RunF.ret1 2 (.bool (rdb ([(t8.1 == 67305985), (t13.1 == 256), false, (t583 == 3), (t599 == 2147483648), (t667 == 105), ((strOf t690).toList == (⟨#[35, 65]⟩ : ByteArray).toList), false, ((t749.length : Int) == 0), ((strOf t755).toList == (⟨#[4, 3, 2, 1]⟩ : ByteArray).toList)] : List Bool) t764)) (fn := Go.Proofs.Try.f13) Go.Proofs.Try.func13 (by kernel_rfl) (by kernel_rfl) (by kernel_rfl) ⟨_, rfl, rfl, (hM.pick [] rfl rfl)⟩
              · replace h := of_false h c767
                cases h
            · replace h := of_false h c766
              cases h
        have J768 : ∀ (g620 : Nat) (A692 : Option Addr) (c694 : Nat) (W769 : World) (hS : Still W769 [] W769) (hM : Mem w W769 [⟨.slice (some ⟨g620, 0, none⟩) 2 2, 5, 1, nums .u8 [18, 52]⟩, ⟨.slice A692 t690.length c694, 5, 1, nums .u8 t690⟩, ⟨.slice A24 t23.1.length c26, 5, 1, nums .u8 t23.1⟩, ⟨.slice (some ⟨g19, 0, none⟩) 1 1, 5, 1, nums .u8 [1]⟩, ⟨.slice (some ⟨g14, 0, none⟩) 3 3, 5, 1, nums .u8 [1, 2, 3]⟩, ⟨.slice (some ⟨g9, 0, none⟩) 8 8, 5, 1, nums .u8 [0, 0, 0, 0, 0, 0, 1, 0]⟩, ⟨.slice (some ⟨g4, 0, none⟩) 4 4, 5, 1, nums .u8 [1, 2, 3, 4]⟩]) , RunAny Go.Proofs.Try.prog (Ret fun v w' => v = .bool r ∧ Mem w w' []) 13 (rest1 (pl Go.Proofs.Try.f13 [1, 1, 1, 1, 1, 1, 0])) 82 (opsOf (pl Go.Proofs.Try.f13 [1, 1, 1, 1, 1, 1, 0])) (Still W769 []) 18 [0, 1, 2, 3, 4, 5, 6, 7, 8, 9, 20, 10, 11, 12, 13, 14, 15, 16, 17, 18, 19, 21, 22, 23] [(0, .int .i64 a0), (3, .int .u32 t8.1), (5, .int .u64 t13.1), (8, .bool t18.2), (10, .bool t23.2), (35, .bool (t8.1 == 67305985)), (37, .bool (t13.1 == 256)), (43, .bool false), (45, .bool (t583 == 3)), (47, .bool (t599 == 2147483648)), (53, .bool (t667 == 105)), (57, .bool ((strOf t690).toList == (⟨#[35, 65]⟩ : ByteArray).toList))] W769 := by
          intro g620 A692 c694 W769 hS hM 
          refine RunAny.new 24 5 1 2 (nums .u8 [255, 255]) (d := some 58) (k2 := [.inRegion (opsOf (pl Go.Proofs.Try.f13 [1, 1, 1, 1, 1, 1, 0])) []]) (ready_of_cert hC30 (by kernel_rfl)) hM (by simp [nums, bools, strs]) (by kernel_rfl) (by kernel_rfl) hS ?_
          intro g770 W771 hS hM
          refine RunAny.rebase hS ?_
          replace hS := Still.refl W771 []
          exact RunAny.same [0, 1, 2, 3, 4, 5, 6, 7, 8, 9, 20, 24, 10, 11, 12, 13, 14, 15, 16, 17, 18, 19, 21, 22, 23] (lst_of_mask (by kernel_rfl)) [0, 3, 5, 8, 10, 35, 37, 43, 45, 47, 53, 57, 58] (by kernel_rfl) (J710 g620 A692 c694 g770 _ hS (hM.pick [1, 2, 0, 3, 4, 5, 6, 7] rfl rfl))
        have J773 : ∀ (g620 : Nat) (g627 : Nat) (W774 : World) (hS : Still W774 [] W774) (hM : Mem w W774 [⟨.slice (some ⟨g620, 0, none⟩) 2 2, 5, 1, nums .u8 [18, 52]⟩, ⟨.slice (some ⟨g627, 0, none⟩) 2 2, 5, 1, nums .u8 [255, 255]⟩, ⟨.slice A24 t23.1.length c26, 5, 1, nums .u8 t23.1⟩, ⟨.slice (some ⟨g19, 0, none⟩) 1 1, 5, 1, nums .u8 [1]⟩, ⟨.slice (some ⟨g14, 0, none⟩) 3 3, 5, 1, nums .u8 [1, 2, 3]⟩, ⟨.slice (some ⟨g9, 0, none⟩) 8 8, 5, 1, nums .u8 [0, 0, 0, 0, 0, 0, 1, 0]⟩, ⟨.slice (some ⟨g4, 0, none⟩) 4 4, 5, 1, nums .u8 [1, 2, 3, 4]⟩]) , RunAny Go.Proofs.Try.prog (Ret fun v w' => v = .bool r ∧ Mem w w' []) 13 (rest1 (pl Go.Proofs.Try.f13 [1, 1, 1, 1, 1, 1, 0])) 82 (opsOf (pl Go.Proofs.Try.f13 [1, 1, 1, 1, 1, 1, 0])) (Still W774 []) 20 [0, 1, 2, 3, 4, 5, 6, 7, 8, 9, 20, 24, 10, 11, 12, 13, 14, 15, 16, 17, 18, 19] [(0, .int .i64 a0), (3, .int .u32 t8.1), (5, .int .u64 t13.1), (8, .bool t18.2), (10, .bool t23.2), (35, .bool (t8.1 == 67305985)), (37, .bool (t13.1 == 256)), (43, .bool false), (45, .bool (t583 == 3)), (47, .bool (t599 == 2147483648)), (53, .bool (t667 == 105)), (54, .slice (some ⟨g620, 0, none⟩) 2 2), (58, .slice (some ⟨g627, 0, none⟩) 2 2)] W774 := by
          intro g620 g627 W774 hS hM 
          refine RunAny.call 21 (d := some 55) (g := 30) (args := #[.slice (some ⟨g620, 0, none⟩) 2 2, .int .i64 4]) (ready_of_cert hC30 (by kernel_rfl)) (by kernel_rfl) (words_Turn.calls k (some ⟨g620, 0, none⟩) 2 2 ([18, 52] : List Int) 4 t690 _ (hM.rd 0 rfl) ht690) (by rintro _ _ ⟨_, _, _, rfl, hM_⟩; exact hS.below hM_.below) ?_
          rintro _ W775 ⟨A776, n777, c778, rfl, hM_⟩
          obtain rfl : t690.length = n777 := by have h_ := (hM_.rd 0 rfl).1; simpa [nums_length, bools_length, strs_length] using h_
          replace hS := hS.below hM_.below
          replace hM := hM.call hM_
          clear hM_ ht690
          refine RunAny.rebase hS ?_
          replace hS := Still.refl W775 []
          refine RunAny.y 22 (side_of_cert hC30 (by kernel_rfl)) (str_y (d := some 56) (A := A776) (m := t690.length) (c := c778) (k2 := [.inRegion (opsOf (pl Go.Proofs.Try.f13 [1, 1, 1, 1, 1, 1, 0])) []]) t690 (by kernel_rfl)) (fun _ hs => ((hM.rd 0 rfl).still hs (by simp))) hS ?_
          refine RunAny.y 23 (side_of_cert hC30 (by kernel_rfl)) (yl_pure (d := some 57) (v := .bool ((strOf t690).toList == (⟨#[35, 65]⟩ : ByteArray).toList)) (k2 := [.inRegion (opsOf (pl Go.Proofs.Try.f13 [1, 1, 1, 1, 1, 1, 0])) []]) fun w => by kernel_rfl) (fun _ _ => trivial) hS ?_
          exact RunAny.same [0, 1, 2, 3, 4, 5, 6, 7, 8, 9, 20, 24, 10, 11, 12, 13, 14, 15, 16, 17, 18, 19, 21, 22, 23] (lst_of_mask (by kernel_rfl)) [0, 3, 5, 8, 10, 35, 37, 43, 45, 47, 53, 57, 58] (by kernel_rfl) (J710 g620 A776 c778 g627 _ hS (hM.pick [1, 0, 2, 3, 4, 5, 6, 7] rfl rfl))
        have J780 : ∀ (g623 : Nat) (W781 : World) (hS : Still W781 [] W781) (hM : Mem w W781 [⟨.slice (some ⟨g623, 0, none⟩) 2 2, 5, 1, nums .u8 [255, 255]⟩, ⟨.slice A24 t23.1.length c26, 5, 1, nums .u8 t23.1⟩, ⟨.slice (some ⟨g19, 0, none⟩) 1 1, 5, 1, nums .u8 [1]⟩, ⟨.slice (some ⟨g14, 0, none⟩) 3 3, 5, 1, nums .u8 [1, 2, 3]⟩, ⟨.slice (some ⟨g9, 0, none⟩) 8 8, 5, 1, nums .u8 [0, 0, 0, 0, 0, 0, 1, 0]⟩, ⟨.slice (some ⟨g4, 0, none⟩) 4 4, 5, 1, nums .u8 [1, 2, 3, 4]⟩]) , RunAny Go.Proofs.Try.prog (Ret fun v w' => v = .bool r ∧ Mem w w' []) 13 (rest1 (pl Go.Proofs.Try.f13 [1, 1, 1, 1, 1, 1, 0])) 82 (opsOf (pl Go.Proofs.Try.f13 [1, 1, 1, 1, 1, 1, 0])) (Still W781 []) 21 [0, 1, 2, 3, 4, 5, 6, 7, 8, 9, 24, 10, 11, 12, 13, 14, 15, 16, 17, 18, 19] [(0, .int .i64 a0), (3, .int .u32 t8.1), (5, .int .u64 t13.1), (8, .bool t18.2), (10, .bool t23.2), (35, .bool (t8.1 == 67305985)), (37, .bool (t13.1 == 256)), (43, .bool false), (45, .bool (t583 == 3)), (47, .bool (t599 == 2147483648)), (53, .bool (t667 == 105)), (58, .slice (some ⟨g623, 0, none⟩) 2 2)] W781 := by
          intro g623 W781 hS hM 
          refine RunAny.new 20 5 1 2 (nums .u8 [18, 52]) (d := some 54) (k2 := [.inRegion (opsOf (pl Go.Proofs.Try.f13 [1, 1, 1, 1, 1, 1, 0])) []]) (ready_of_cert hC30 (by kernel_rfl)) hM (by simp [nums, bools, strs]) (by kernel_rfl) (by kernel_rfl) hS ?_
          intro g782 W783 hS hM
          refine RunAny.rebase hS ?_
          replace hS := Still.refl W783 []
          exact RunAny.same [0, 1, 2, 3, 4, 5, 6, 7, 8, 9, 20, 24, 10, 11, 12, 13, 14, 15, 16, 17, 18, 19] (lst_of_mask (by kernel_rfl)) [0, 3, 5, 8, 10, 35, 37, 43, 45, 47, 53, 54, 58] (by kernel_rfl) (J773 g782 g623 _ hS (hM.pick [0, 1, 2, 3, 4, 5, 6] rfl rfl))
        have J785 : ∀ (g620 : Nat) (W786 : World) (hS : Still W786 [] W786) (hM : Mem w W786 [⟨.slice (some ⟨g620, 0, none⟩) 2 2, 5, 1, nums .u8 [18, 52]⟩, ⟨.slice A24 t23.1.length c26, 5, 1, nums .u8 t23.1⟩, ⟨.slice (some ⟨g19, 0, none⟩) 1 1, 5, 1, nums .u8 [1]⟩, ⟨.slice (some ⟨g14, 0, none⟩) 3 3, 5, 1, nums .u8 [1, 2, 3]⟩, ⟨.slice (some ⟨g9, 0, none⟩) 8 8, 5, 1, nums .u8 [0, 0, 0, 0, 0, 0, 1, 0]⟩, ⟨.slice (some ⟨g4, 0, none⟩) 4 4, 5, 1, nums .u8 [1, 2, 3, 4]⟩]) , RunAny Go.Proofs.Try.prog (Ret fun v w' => v = .bool r ∧ Mem w w' []) 13 (rest1 (pl Go.Proofs.Try.f13 [1, 1, 1, 1, 1, 1, 0])) 82 (opsOf (pl Go.Proofs.Try.f13 [1, 1, 1, 1, 1, 1, 0])) (Still W786 []) 21 [0, 1, 2, 3, 4, 5, 6, 7, 8, 9, 20, 10, 11, 12, 13, 14, 15, 16, 17, 18, 19] [(0, .int .i64 a0), (3, .int .u32 t8.1), (5, .int .u64 t13.1), (8, .bool t18.2), (10, .bool t23.2), (35, .bool (t8.1 == 67305985)), (37, .bool (t13.1 == 256)), (43, .bool false), (45, .bool (t583 == 3)), (47, .bool (t599 == 2147483648)), (53, .bool (t667 == 105)), (54, .slice (some ⟨g620, 0, none⟩) 2 2)] W786 := by
          intro g620 W786 hS hM 
          refine RunAny.all [21, 24] (ready_of_cert hC30 (by kernel_rfl)) (by simp) ?_
          refine ⟨?_, ?_, trivial⟩
          · refine Stepped.call 21 (d := some 55) (g := 30) (args := #[.slice (some ⟨g620, 0, none⟩) 2 2, .int .i64 4]) (by kernel_rfl) (words_Turn.calls k (some ⟨g620, 0, none⟩) 2 2 ([18, 52] : List Int) 4 t690 _ (hM.rd 0 rfl) ht690) (by rintro _ _ ⟨_, _, _, rfl, hM_⟩; exact hS.below hM_.below) ?_
            rintro _ W787 ⟨A788, n789, c790, rfl, hM_⟩
            obtain rfl : t690.length = n789 := by have h_ := (hM_.rd 0 rfl).1; simpa [nums_length, bools_length, strs_length] using h_
            replace hS := hS.below hM_.below
            replace hM := hM.call hM_
            clear hM_ ht690
            refine RunAny.rebase hS ?_
            replace hS := Still.refl W787 []
            refine RunAny.y 22 (side_of_cert hC30 (by kernel_rfl)) (str_y (d := some 56) (A := A788) (m := t690.length) (c := c790) (k2 := [.inRegion (opsOf (pl Go.Proofs.Try.f13 [1, 1, 1, 1, 1, 1, 0])) []]) t690 (by kernel_rfl)) (fun _ hs => ((hM.rd 0 rfl).still hs (by simp))) hS ?_
            refine RunAny.y 23 (side_of_cert hC30 (by kernel_rfl)) (yl_pure (d := some 57) (v := .bool ((strOf t690).toList == (⟨#[35, 65]⟩ : ByteArray).toList)) (k2 := [.inRegion (opsOf (pl Go.Proofs.Try.f13 [1, 1, 1, 1, 1, 1, 0])) []]) fun w => by kernel_rfl) (fun _ _ => trivial) hS ?_
            exact RunAny.same [0, 1, 2, 3, 4, 5, 6, 7, 8, 9, 20, 10, 11, 12, 13, 14, 15, 16, 17, 18, 19, 21, 22, 23] (lst_of_mask (by kernel_rfl)) [0, 3, 5, 8, 10, 35, 37, 43, 45, 47, 53, 57] (by kernel_rfl) (J768 g620 A788 c790 _ hS (hM.pick [1, 0, 2, 3, 4, 5, 6] rfl rfl))
          · refine Stepped.new 24 5 1 2 (nums .u8 [255, 255]) (d := some 58) (k2 := [.inRegion (opsOf (pl Go.Proofs.Try.f13 [1, 1, 1, 1, 1, 1, 0])) []]) hM (by simp [nums, bools, strs]) (by kernel_rfl) (by kernel_rfl) hS ?_
            intro g792 W793 hS hM
            refine RunAny.rebase hS ?_
            replace hS := Still.refl W793 []
            exact RunAny.same [0, 1, 2, 3, 4, 5, 6, 7, 8, 9, 20, 24, 10, 11, 12, 13, 14, 15, 16, 17, 18, 19] (lst_of_mask (by kernel_rfl)) [0, 3, 5, 8, 10, 35, 37, 43, 45, 47, 53, 54, 58] (by kernel_rfl) (J773 g620 g792 _ hS (hM.pick [1, 0, 2, 3, 4, 5, 6] rfl rfl))
        have J795 : ∀ (W796 : World) (hS : Still W796 [] W796) (hM : Mem w W796 [⟨.slice A24 t23.1.length c26, 5, 1, nums .u8 t23.1⟩, ⟨.slice (some ⟨g19, 0, none⟩) 1 1, 5, 1, nums .u8 [1]⟩, ⟨.slice (some ⟨g14, 0, none⟩) 3 3, 5, 1, nums .u8 [1, 2, 3]⟩, ⟨.slice (some ⟨g9, 0, none⟩) 8 8, 5, 1, nums .u8 [0, 0, 0, 0, 0, 0, 1, 0]⟩, ⟨.slice (some ⟨g4, 0, none⟩) 4 4, 5, 1, nums .u8 [1, 2, 3, 4]⟩]) , RunAny Go.Proofs.Try.prog (Ret fun v w' => v = .bool r ∧ Mem w w' []) 13 (rest1 (pl Go.Proofs.Try.f13 [1, 1, 1, 1, 1, 1, 0])) 82 (opsOf (pl Go.Proofs.Try.f13 [1, 1, 1, 1, 1, 1, 0])) (Still W796 []) 22 [0, 1, 2, 3, 4, 5, 6, 7, 8, 9, 10, 11, 12, 13, 14, 15, 16, 17, 18, 19] [(0, .int .i64 a0), (3, .int .u32 t8.1), (5, .int .u64 t13.1), (8, .bool t18.2), (10, .bool t23.2), (35, .bool (t8.1 == 67305985)), (37, .bool (t13.1 == 256)), (43, .bool false), (45, .bool (t583 == 3)), (47, .bool (t599 == 2147483648)), (53, .bool (t667 == 105))] W796 := by
          intro W796 hS hM 
          refine RunAny.all [20, 24] (ready_of_cert hC30 (by kernel_rfl)) (by simp) ?_
          refine ⟨?_, ?_, trivial⟩
          · refine Stepped.new 20 5 1 2 (nums .u8 [18, 52]) (d := some 54) (k2 := [.inRegion (opsOf (pl Go.Proofs.Try.f13 [1, 1, 1, 1, 1, 1, 0])) []]) hM (by simp [nums, bools, strs]) (by kernel_rfl) (by kernel_rfl) hS ?_
            intro g797 W798 hS hM
            refine RunAny.rebase hS ?_
            replace hS := Still.refl W798 []
            exact RunAny.same [0, 1, 2, 3, 4, 5, 6, 7, 8, 9, 20, 10, 11, 12, 13, 14, 15, 16, 17, 18, 19] (lst_of_mask (by kernel_rfl)) [0, 3, 5, 8, 10, 35, 37, 43, 45, 47, 53, 54] (by kernel_rfl) (J785 g797 _ hS (hM.pick [0, 1, 2, 3, 4, 5] rfl rfl))
          · refine Stepped.new 24 5 1 2 (nums .u8 [255, 255]) (d := some 58) (k2 := [.inRegion (opsOf (pl Go.Proofs.Try.f13 [1, 1, 1, 1, 1, 1, 0])) []]) hM (by simp [nums, bools, strs]) (by kernel_rfl) (by kernel_rfl) hS ?_
            intro g800 W801 hS hM
            refine RunAny.rebase hS ?_
            replace hS := Still.refl W801 []
            exact RunAny.same [0, 1, 2, 3, 4, 5, 6, 7, 8, 9, 24, 10, 11, 12, 13, 14, 15, 16, 17, 18, 19] (lst_of_mask (by kernel_rfl)) [0, 3, 5, 8, 10, 35, 37, 43, 45, 47, 53, 58] (by kernel_rfl) (J780 g800 _ hS (hM.pick [0, 1, 2, 3, 4, 5] rfl rfl))
        have J803 : ∀ (g620 : Nat) (g627 : Nat) (W804 : World) (hS : Still W804 [] W804) (hM : Mem w W804 [⟨.slice (some ⟨g620, 0, none⟩) 2 2, 5, 1, nums .u8 [18, 52]⟩, ⟨.slice (some ⟨g627, 0, none⟩) 2 2, 5, 1, nums .u8 [255, 255]⟩, ⟨.slice A24 t23.1.length c26, 5, 1, nums .u8 t23.1⟩, ⟨.slice (some ⟨g19, 0, none⟩) 1 1, 5, 1, nums .u8 [1]⟩, ⟨.slice (some ⟨g14, 0, none⟩) 3 3, 5, 1, nums .u8 [1, 2, 3]⟩, ⟨.slice (some ⟨g9, 0, none⟩) 8 8, 5, 1, nums .u8 [0, 0, 0, 0, 0, 0, 1, 0]⟩, ⟨.slice (some ⟨g4, 0, none⟩) 4 4, 5, 1, nums .u8 [1, 2, 3, 4]⟩]) , RunAny Go.Proofs.Try.prog (Ret fun v w' => v = .bool r ∧ Mem w w' []) 13 (rest1 (pl Go.Proofs.Try.f13 [1, 1, 1, 1, 1, 1, 0])) 82 (opsOf (pl Go.Proofs.Try.f13 [1, 1, 1, 1, 1, 1, 0])) (Still W804 []) 23 [0, 1, 2, 3, 4, 5, 6, 7, 8, 9, 20, 24, 10, 11, 12, 13, 14, 15, 16] [(0, .int .i64 a0), (3, .int .u32 t8.1), (5, .int .u64 t13.1), (8, .bool t18.2), (10, .bool t23.2), (35, .bool (t8.1 == 67305985)), (37, .bool (t13.1 == 256)), (43, .bool false), (45, .bool (t583 == 3)), (47, .bool (t599 == 2147483648)), (50, .bool true), (54, .slice (some ⟨g620, 0, none⟩) 2 2), (58, .slice (some ⟨g627, 0, none⟩) 2 2)] W804 := by
          intro g620 g627 W804 hS hM 
          refine RunAny.call 17 (d := some 51) (g := 28) (args := #[.int .u8 150, .int .i64 4]) (ready_of_cert hC30 (by kernel_rfl)) (by kernel_rfl) (words_Rol8.calls k 150 4 t667 _ ht667) (by rintro _ _ ⟨rfl, hM_⟩; exact hS.below hM_.below) ?_
          rintro _ W805 ⟨rfl, hM_⟩
          replace hS := hS.below hM_.below
          replace hM := hM.call hM_
          clear hM_ ht667
          refine RunAny.rebase hS ?_
          replace hS := Still.refl W805 []
          refine RunAny.y 18 (side_of_cert hC30 (by kernel_rfl)) (yl_pure (d := some 52) (v := .bool (t667 == 105)) (k2 := [.inRegion (opsOf (pl Go.Proofs.Try.f13 [1, 1, 1, 1, 1, 1, 0])) []]) fun w => by kernel_rfl) (fun _ _ => trivial) hS ?_
          refine RunAny.y 19 (side_of_cert hC30 (by kernel_rfl)) (yl_pure (d := some 53) (v := .bool (t667 == 105)) (k2 := [.inRegion (opsOf (pl Go.Proofs.Try.f13 [1, 1, 1, 1, 1, 1, 0])) []]) fun w => by kernel_rfl) (fun _ _ => trivial) hS ?_
          exact RunAny.same [0, 1, 2, 3, 4, 5, 6, 7, 8, 9, 20, 24, 10, 11, 12, 13, 14, 15, 16, 17, 18, 19] (lst_of_mask (by kernel_rfl)) [0, 3, 5, 8, 10, 35, 37, 43, 45, 47, 53, 54, 58] (by kernel_rfl) (J773 g620 g627 _ hS (hM.pick [0, 1, 2, 3, 4, 5, 6] rfl rfl))
        have J806 : ∀ (g623 : Nat) (W807 : World) (hS : Still W807 [] W807) (hM : Mem w W807 [⟨.slice (some ⟨g623, 0, none⟩) 2 2, 5, 1, nums .u8 [255, 255]⟩, ⟨.slice A24 t23.1.length c26, 5, 1, nums .u8 t23.1⟩, ⟨.slice (some ⟨g19, 0, none⟩) 1 1, 5, 1, nums .u8 [1]⟩, ⟨.slice (some ⟨g14, 0, none⟩) 3 3, 5, 1, nums .u8 [1, 2, 3]⟩, ⟨.slice (some ⟨g9, 0, none⟩) 8 8, 5, 1, nums .u8 [0, 0, 0, 0, 0, 0, 1, 0]⟩, ⟨.slice (some ⟨g4, 0, none⟩) 4 4, 5, 1, nums .u8 [1, 2, 3, 4]⟩]) , RunAny Go.Proofs.Try.prog (Ret fun v w' => v = .bool r ∧ Mem w w' []) 13 (rest1 (pl Go.Proofs.Try.f13 [1, 1, 1, 1, 1, 1, 0])) 82 (opsOf (pl Go.Proofs.Try.f13 [1, 1, 1, 1, 1, 1, 0])) (Still W807 []) 24 [0, 1, 2, 3, 4, 5, 6, 7, 8, 9, 24, 10, 11, 12, 13, 14, 15, 16] [(0, .int .i64 a0), (3, .int .u32 t8.1), (5, .int .u64 t13.1), (8, .bool t18.2), (10, .bool t23.2), (35, .bool (t8.1 == 67305985)), (37, .bool (t13.1 == 256)), (43, .bool false), (45, .bool (t583 == 3)), (47, .bool (t599 == 2147483648)), (50, .bool true), (58, .slice (some ⟨g623, 0, none⟩) 2 2)] W807 := by
          intro g623 W807 hS hM 
          refine RunAny.all [17, 20] (ready_of_cert hC30 (by kernel_rfl)) (by simp) ?_
          refine ⟨?_, ?_, trivial⟩
          · refine Stepped.call 17 (d := some 51) (g := 28) (args := #[.int .u8 150, .int .i64 4]) (by kernel_rfl) (words_Rol8.calls k 150 4 t667 _ ht667) (by rintro _ _ ⟨rfl, hM_⟩; exact hS.below hM_.below) ?_
            rintro _ W808 ⟨rfl, hM_⟩
            replace hS := hS.below hM_.below
            replace hM := hM.call hM_
            clear hM_ ht667
            refine RunAny.rebase hS ?_
            replace hS := Still.refl W808 []
            refine RunAny.y 18 (side_of_cert hC30 (by kernel_rfl)) (yl_pure (d := some 52) (v := .bool (t667 == 105)) (k2 := [.inRegion (opsOf (pl Go.Proofs.Try.f13 [1, 1, 1, 1, 1, 1, 0])) []]) fun w => by kernel_rfl) (fun _ _ => trivial) hS ?_
            refine RunAny.y 19 (side_of_cert hC30 (by kernel_rfl)) (yl_pure (d := some 53) (v := .bool (t667 == 105)) (k2 := [.inRegion (opsOf (pl Go.Proofs.Try.f13 [1, 1, 1, 1, 1, 1, 0])) []]) fun w => by kernel_rfl) (fun _ _ => trivial) hS ?_
            exact RunAny.same [0, 1, 2, 3, 4, 5, 6, 7, 8, 9, 24, 10, 11, 12, 13, 14, 15, 16, 17, 18, 19] (lst_of_mask (by kernel_rfl)) [0, 3, 5, 8, 10, 35, 37, 43, 45, 47, 53, 58] (by kernel_rfl) (J780 g623 _ hS (hM.pick [0, 1, 2, 3, 4, 5] rfl rfl))
          · refine Stepped.new 20 5 1 2 (nums .u8 [18, 52]) (d := some 54) (k2 := [.inRegion (opsOf (pl Go.Proofs.Try.f13 [1, 1, 1, 1, 1, 1, 0])) []]) hM (by simp [nums, bools, strs]) (by kernel_rfl) (by kernel_rfl) hS ?_
            intro g809 W810 hS hM
            refine RunAny.rebase hS ?_
            replace hS := Still.refl W810 []
            exact RunAny.same [0, 1, 2, 3, 4, 5, 6, 7, 8, 9, 20, 24, 10, 11, 12, 13, 14, 15, 16] (lst_of_mask (by kernel_rfl)) [0, 3, 5, 8, 10, 35, 37, 43, 45, 47, 50, 54, 58] (by kernel_rfl) (J803 g809 g623 _ hS (hM.pick [0, 1, 2, 3, 4, 5, 6] rfl rfl))
        have J812 : ∀ (g620 : Nat) (W813 : World) (hS : Still W813 [] W813) (hM : Mem w W813 [⟨.slice (some ⟨g620, 0, none⟩) 2 2, 5, 1, nums .u8 [18, 52]⟩, ⟨.slice A24 t23.1.length c26, 5, 1, nums .u8 t23.1⟩, ⟨.slice (some ⟨g19, 0, none⟩) 1 1, 5, 1, nums .u8 [1]⟩, ⟨.slice (some ⟨g14, 0, none⟩) 3 3, 5, 1, nums .u8 [1, 2, 3]⟩, ⟨.slice (some ⟨g9, 0, none⟩) 8 8, 5, 1, nums .u8 [0, 0, 0, 0, 0, 0, 1, 0]⟩, ⟨.slice (some ⟨g4, 0, none⟩) 4 4, 5, 1, nums .u8 [1, 2, 3, 4]⟩]) , RunAny Go.Proofs.Try.prog (Ret fun v w' => v = .bool r ∧ Mem w w' []) 13 (rest1 (pl Go.Proofs.Try.f13 [1, 1, 1, 1, 1, 1, 0])) 82 (opsOf (pl Go.Proofs.Try.f13 [1, 1, 1, 1, 1, 1, 0])) (Still W813 []) 24 [0, 1, 2, 3, 4, 5, 6, 7, 8, 9, 20, 10, 11, 12, 13, 14, 15, 16] [(0, .int .i64 a0), (3, .int .u32 t8.1), (5, .int .u64 t13.1), (8, .bool t18.2), (10, .bool t23.2), (35, .bool (t8.1 == 67305985)), (37, .bool (t13.1 == 256)), (43, .bool false), (45, .bool (t583 == 3)), (47, .bool (t599 == 2147483648)), (50, .bool true), (54, .slice (some ⟨g620, 0, none⟩) 2 2)] W813 := by
          intro g620 W813 hS hM 
          refine RunAny.all [17, 24] (ready_of_cert hC30 (by kernel_rfl)) (by simp) ?_
          refine ⟨?_, ?_, trivial⟩
          · refine Stepped.call 17 (d := some 51) (g := 28) (args := #[.int .u8 150, .int .i64 4]) (by kernel_rfl) (words_Rol8.calls k 150 4 t667 _ ht667) (by rintro _ _ ⟨rfl, hM_⟩; exact hS.below hM_.below) ?_
            rintro _ W814 ⟨rfl, hM_⟩
            replace hS := hS.below hM_.below
            replace hM := hM.call hM_
            clear hM_ ht667
            refine RunAny.rebase hS ?_
            replace hS := Still.refl W814 []
            refine RunAny.y 18 (side_of_cert hC30 (by kernel_rfl)) (yl_pure (d := some 52) (v := .bool (t667 == 105)) (k2 := [.inRegion (opsOf (pl Go.Proofs.Try.f13 [1, 1, 1, 1, 1, 1, 0])) []]) fun w => by kernel_rfl) (fun _ _ => trivial) hS ?_
            refine RunAny.y 19 (side_of_cert hC30 (by kernel_rfl)) (yl_pure (d := some 53) (v := .bool (t667 == 105)) (k2 := [.inRegion (opsOf (pl Go.Proofs.Try.f13 [1, 1, 1, 1, 1, 1, 0])) []]) fun w => by kernel_rfl) (fun _ _ => trivial) hS ?_
            exact RunAny.same [0, 1, 2, 3, 4, 5, 6, 7, 8, 9, 20, 10, 11, 12, 13, 14, 15, 16, 17, 18, 19] (lst_of_mask (by kernel_rfl)) [0, 3, 5, 8, 10, 35, 37, 43, 45, 47, 53, 54] (by kernel_rfl) (J785 g620 _ hS (hM.pick [0, 1, 2, 3, 4, 5] rfl rfl))
          · refine Stepped.new 24 5 1 2 (nums .u8 [255, 255]) (d := some 58) (k2 := [.inRegion (opsOf (pl Go.Proofs.Try.f13 [1, 1, 1, 1, 1, 1, 0])) []]) hM (by simp [nums, bools, strs]) (by kernel_rfl) (by kernel_rfl) hS ?_
            intro g815 W816 hS hM
            refine RunAny.rebase hS ?_
            replace hS := Still.refl W816 []
            exact RunAny.same [0, 1, 2, 3, 4, 5, 6, 7, 8, 9, 20, 24, 10, 11, 12, 13, 14, 15, 16] (lst_of_mask (by kernel_rfl)) [0, 3, 5, 8, 10, 35, 37, 43, 45, 47, 50, 54, 58] (by kernel_rfl) (J803 g620 g815 _ hS (hM.pick [1, 0, 2, 3, 4, 5, 6] rfl rfl))
        have J818 : ∀ (W819 : World) (hS : Still W819 [] W819) (hM : Mem w W819 [⟨.slice A24 t23.1.length c26, 5, 1, nums .u8 t23.1⟩, ⟨.slice (some ⟨g19, 0, none⟩) 1 1, 5, 1, nums .u8 [1]⟩, ⟨.slice (some ⟨g14, 0, none⟩) 3 3, 5, 1, nums .u8 [1, 2, 3]⟩, ⟨.slice (some ⟨g9, 0, none⟩) 8 8, 5, 1, nums .u8 [0, 0, 0, 0, 0, 0, 1, 0]⟩, ⟨.slice (some ⟨g4, 0, none⟩) 4 4, 5, 1, nums .u8 [1, 2, 3, 4]⟩]) , RunAny Go.Proofs.Try.prog (Ret fun v w' => v = .bool r ∧ Mem w w' []) 13 (rest1 (pl Go.Proofs.Try.f13 [1, 1, 1, 1, 1, 1, 0])) 82 (opsOf (pl Go.Proofs.Try.f13 [1, 1, 1, 1, 1, 1, 0])) (Still W819 []) 25 [0, 1, 2, 3, 4, 5, 6, 7, 8, 9, 10, 11, 12, 13, 14, 15, 16] [(0, .int .i64 a0), (3, .int .u32 t8.1), (5, .int .u64 t13.1), (8, .bool t18.2), (10, .bool t23.2), (35, .bool (t8.1 == 67305985)), (37, .bool (t13.1 == 256)), (43, .bool false), (45, .bool (t583 == 3)), (47, .bool (t599 == 2147483648)), (50, .bool true)] W819 := by
          intro W819 hS hM 
          refine RunAny.all [17, 20, 24] (ready_of_cert hC30 (by kernel_rfl)) (by simp) ?_
          refine ⟨?_, ?_, ?_, trivial⟩
          · refine Stepped.call 17 (d := some 51) (g := 28) (args := #[.int .u8 150, .int .i64 4]) (by kernel_rfl) (words_Rol8.calls k 150 4 t667 _ ht667) (by rintro _ _ ⟨rfl, hM_⟩; exact hS.below hM_.below) ?_
            rintro _ W820 ⟨rfl, hM_⟩
            replace hS := hS.below hM_.below
            replace hM := hM.call hM_
            clear hM_ ht667
            refine RunAny.rebase hS ?_
            replace hS := Still.refl W820 []
            refine RunAny.y 18 (side_of_cert hC30 (by kernel_rfl)) (yl_pure (d := some 52) (v := .bool (t667 == 105)) (k2 := [.inRegion (opsOf (pl Go.Proofs.Try.f13 [1, 1, 1, 1, 1, 1, 0])) []]) fun w => by kernel_rfl) (fun _ _ => trivial) hS ?_
            refine RunAny.y 19 (side_of_cert hC30 (by kernel_rfl)) (yl_pure (d := some 53) (v := .bool (t667 == 105)) (k2 := [.inRegion (opsOf (pl Go.Proofs.Try.f13 [1, 1, 1, 1, 1, 1, 0])) []]) fun w => by kernel_rfl) (fun _ _ => trivial) hS ?_
            exact RunAny.same [0, 1, 2, 3, 4, 5, 6, 7, 8, 9, 10, 11, 12, 13, 14, 15, 16, 17, 18, 19] (lst_of_mask (by kernel_rfl)) [0, 3, 5, 8, 10, 35, 37, 43, 45, 47, 53] (by kernel_rfl) (J795 _ hS (hM.pick [0, 1, 2, 3, 4] rfl rfl))
          · refine Stepped.new 20 5 1 2 (nums .u8 [18, 52]) (d := some 54) (k2 := [.inRegion (opsOf (pl Go.Proofs.Try.f13 [1, 1, 1, 1, 1, 1, 0])) []]) hM (by simp [nums, bools, strs]) (by kernel_rfl) (by kernel_rfl) hS ?_
            intro g821 W822 hS hM
            refine RunAny.rebase hS ?_
            replace hS := Still.refl W822 []
            exact RunAny.same [0, 1, 2, 3, 4, 5, 6, 7, 8, 9, 20, 10, 11, 12, 13, 14, 15, 16] (lst_of_mask (by kernel_rfl)) [0, 3, 5, 8, 10, 35, 37, 43, 45, 47, 50, 54] (by kernel_rfl) (J812 g821 _ hS (hM.pick [0, 1, 2, 3, 4, 5] rfl rfl))
          · refine Stepped.new 24 5 1 2 (nums .u8 [255, 255]) (d := some 58) (k2 := [.inRegion (opsOf (pl Go.Proofs.Try.f13 [1, 1, 1, 1, 1, 1, 0])) []]) hM (by simp [nums, bools, strs]) (by kernel_rfl) (by kernel_rfl) hS ?_
            intro g824 W825 hS hM
            refine RunAny.rebase hS ?_
            replace hS := Still.refl W825 []
            exact RunAny.same [0, 1, 2, 3, 4, 5, 6, 7, 8, 9, 24, 10, 11, 12, 13, 14, 15, 16] (lst_of_mask (by kernel_rfl)) [0, 3, 5, 8, 10, 35, 37, 43, 45, 47, 50, 58] (by kernel_rfl) (J806 g824 _ hS (hM.pick [0, 1, 2, 3, 4, 5] rfl rfl))
        have J827 : ∀ (g620 : Nat) (g627 : Nat) (W828 : World) (hS : Still W828 [] W828) (hM : Mem w W828 [⟨.slice (some ⟨g620, 0, none⟩) 2 2, 5, 1, nums .u8 [18, 52]⟩, ⟨.slice (some ⟨g627, 0, none⟩) 2 2, 5, 1, nums .u8 [255, 255]⟩, ⟨.slice A24 t23.1.length c26, 5, 1, nums .u8 t23.1⟩, ⟨.slice (some ⟨g19, 0, none⟩) 1 1, 5, 1, nums .u8 [1]⟩, ⟨.slice (some ⟨g14, 0, none⟩) 3 3, 5, 1, nums .u8 [1, 2, 3]⟩, ⟨.slice (some ⟨g9, 0, none⟩) 8 8, 5, 1, nums .u8 [0, 0, 0, 0, 0, 0, 1, 0]⟩, ⟨.slice (some ⟨g4, 0, none⟩) 4 4, 5, 1, nums .u8 [1, 2, 3, 4]⟩]) , RunAny Go.Proofs.Try.prog (Ret fun v w' => v = .bool r ∧ Mem w w' []) 13 (rest1 (pl Go.Proofs.Try.f13 [1, 1, 1, 1, 1, 1, 0])) 82 (opsOf (pl Go.Proofs.Try.f13 [1, 1, 1, 1, 1, 1, 0])) (Still W828 []) 26 [0, 1, 2, 3, 4, 5, 6, 7, 8, 9, 20, 24, 10, 11, 12, 13] [(0, .int .i64 a0), (3, .int .u32 t8.1), (5, .int .u64 t13.1), (8, .bool t18.2), (10, .bool t23.2), (35, .bool (t8.1 == 67305985)), (37, .bool (t13.1 == 256)), (43, .bool false), (45, .bool (t583 == 3)), (47, .bool (t599 == 2147483648)), (54, .slice (some ⟨g620, 0, none⟩) 2 2), (58, .slice (some ⟨g627, 0, none⟩) 2 2)] W828 := by
          intro g620 g627 W828 hS hM 
          refine RunAny.call 14 (d := some 48) (g := 28) (args := #[.int .u8 1, .int .i64 7]) (ready_of_cert hC30 (by kernel_rfl)) (by kernel_rfl) (words_Rol8.calls k 1 7 t616 _ ht616) (by rintro _ _ ⟨rfl, hM_⟩; exact hS.below hM_.below) ?_
          rintro _ W829 ⟨rfl, hM_⟩
          replace hS := hS.below hM_.below
          replace hM := hM.call hM_
          clear hM_ ht616
          refine RunAny.rebase hS ?_
          replace hS := Still.refl W829 []
          refine RunAny.y 15 (side_of_cert hC30 (by kernel_rfl)) (yl_pure (d := some 49) (v := .bool (t616 == 128)) (k2 := [.inRegion (opsOf (pl Go.Proofs.Try.f13 [1, 1, 1, 1, 1, 1, 0])) []]) fun w => by kernel_rfl) (fun _ _ => trivial) hS ?_
          refine RunAny.y 16 (side_of_cert hC30 (by kernel_rfl)) (yl_pure (d := some 50) (v := .bool (t616 == 128)) (k2 := [.inRegion (opsOf (pl Go.Proofs.Try.f13 [1, 1, 1, 1, 1, 1, 0])) []]) fun w => by kernel_rfl) (fun _ _ => trivial) hS ?_
          refine RunAny.know 50 (b := true) (by kernel_rfl) c618 ?_
          exact RunAny.same [0, 1, 2, 3, 4, 5, 6, 7, 8, 9, 20, 24, 10, 11, 12, 13, 14, 15, 16] (lst_of_mask (by kernel_rfl)) [0, 3, 5, 8, 10, 35, 37, 43, 45, 47, 50, 54, 58] (by kernel_rfl) (J803 g620 g627 _ hS (hM.pick [0, 1, 2, 3, 4, 5, 6] rfl rfl))
        have J830 : ∀ (g623 : Nat) (W831 : World) (hS : Still W831 [] W831) (hM : Mem w W831 [⟨.slice (some ⟨g623, 0, none⟩) 2 2, 5, 1, nums .u8 [255, 255]⟩, ⟨.slice A24 t23.1.length c26, 5, 1, nums .u8 t23.1⟩, ⟨.slice (some ⟨g19, 0, none⟩) 1 1, 5, 1, nums .u8 [1]⟩, ⟨.slice (some ⟨g14, 0, none⟩) 3 3, 5, 1, nums .u8 [1, 2, 3]⟩, ⟨.slice (some ⟨g9, 0, none⟩) 8 8, 5, 1, nums .u8 [0, 0, 0, 0, 0, 0, 1, 0]⟩, ⟨.slice (some ⟨g4, 0, none⟩) 4 4, 5, 1, nums .u8 [1, 2, 3, 4]⟩]) , RunAny Go.Proofs.Try.prog (Ret fun v w' => v = .bool r ∧ Mem w w' []) 13 (rest1 (pl Go.Proofs.Try.f13 [1, 1, 1, 1, 1, 1, 0])) 82 (opsOf (pl Go.Proofs.Try.f13 [1, 1, 1, 1, 1, 1, 0])) (Still W831 []) 27 [0, 1, 2, 3, 4, 5, 6, 7, 8, 9, 24, 10, 11, 12, 13] [(0, .int .i64 a0), (3, .int .u32 t8.1), (5, .int .u64 t13.1), (8, .bool t18.2), (10, .bool t23.2), (35, .bool (t8.1 == 67305985)), (37, .bool (t13.1 == 256)), (43, .bool false), (45, .bool (t583 == 3)), (47, .bool (t599 == 2147483648)), (58, .slice (some ⟨g623, 0, none⟩) 2 2)] W831 := by
          intro g623 W831 hS hM 
          refine RunAny.all [14, 20] (ready_of_cert hC30 (by kernel_rfl)) (by simp) ?_
          refine ⟨?_, ?_, trivial⟩
          · refine Stepped.call 14 (d := some 48) (g := 28) (args := #[.int .u8 1, .int .i64 7]) (by kernel_rfl) (words_Rol8.calls k 1 7 t616 _ ht616) (by rintro _ _ ⟨rfl, hM_⟩; exact hS.below hM_.below) ?_
            rintro _ W832 ⟨rfl, hM_⟩
            replace hS := hS.below hM_.below
            replace hM := hM.call hM_
            clear hM_ ht616
            refine RunAny.rebase hS ?_
            replace hS := Still.refl W832 []
            refine RunAny.y 15 (side_of_cert hC30 (by kernel_rfl)) (yl_pure (d := some 49) (v := .bool (t616 == 128)) (k2 := [.inRegion (opsOf (pl Go.Proofs.Try.f13 [1, 1, 1, 1, 1, 1, 0])) []]) fun w => by kernel_rfl) (fun _ _ => trivial) hS ?_
            refine RunAny.y 16 (side_of_cert hC30 (by kernel_rfl)) (yl_pure (d := some 50) (v := .bool (t616 == 128)) (k2 := [.inRegion (opsOf (pl Go.Proofs.Try.f13 [1, 1, 1, 1, 1, 1, 0])) []]) fun w => by kernel_rfl) (fun _ _ => trivial) hS ?_
            refine RunAny.know 50 (b := true) (by kernel_rfl) c618 ?_
            exact RunAny.same [0, 1, 2, 3, 4, 5, 6, 7, 8, 9, 24, 10, 11, 12, 13, 14, 15, 16] (lst_of_mask (by kernel_rfl)) [0, 3, 5, 8, 10, 35, 37, 43, 45, 47, 50, 58] (by kernel_rfl) (J806 g623 _ hS (hM.pick [0, 1, 2, 3, 4, 5] rfl rfl))
          · refine Stepped.new 20 5 1 2 (nums .u8 [18, 52]) (d := some 54) (k2 := [.inRegion (opsOf (pl Go.Proofs.Try.f13 [1, 1, 1, 1, 1, 1, 0])) []]) hM (by simp [nums, bools, strs]) (by kernel_rfl) (by kernel_rfl) hS ?_
            intro g833 W834 hS hM
            refine RunAny.rebase hS ?_
            replace hS := Still.refl W834 []
            exact RunAny.same [0, 1, 2, 3, 4, 5, 6, 7, 8, 9, 20, 24, 10, 11, 12, 13] (lst_of_mask (by kernel_rfl)) [0, 3, 5, 8, 10, 35, 37, 43, 45, 47, 54, 58] (by kernel_rfl) (J827 g833 g623 _ hS (hM.pick [0, 1, 2, 3, 4, 5, 6] rfl rfl))
        have J836 : ∀ (g620 : Nat) (W837 : World) (hS : Still W837 [] W837) (hM : Mem w W837 [⟨.slice (some ⟨g620, 0, none⟩) 2 2, 5, 1, nums .u8 [18, 52]⟩, ⟨.slice A24 t23.1.length c26, 5, 1, nums .u8 t23.1⟩, ⟨.slice (some ⟨g19, 0, none⟩) 1 1, 5, 1, nums .u8 [1]⟩, ⟨.slice (some ⟨g14, 0, none⟩) 3 3, 5, 1, nums .u8 [1, 2, 3]⟩, ⟨.slice (some ⟨g9, 0, none⟩) 8 8, 5, 1, nums .u8 [0, 0, 0, 0, 0, 0, 1, 0]⟩, ⟨.slice (some ⟨g4, 0, none⟩) 4 4, 5, 1, nums .u8 [1, 2, 3, 4]⟩]) , RunAny Go.Proofs.Try.prog (Ret fun v w' => v = .bool r ∧ Mem w w' []) 13 (rest1 (pl Go.Proofs.Try.f13 [1, 1, 1, 1, 1, 1, 0])) 82 (opsOf (pl Go.Proofs.Try.f13 [1, 1, 1, 1, 1, 1, 0])) (Still W837 []) 27 [0, 1, 2, 3, 4, 5, 6, 7, 8, 9, 20, 10, 11, 12, 13] [(0, .int .i64 a0), (3, .int .u32 t8.1), (5, .int .u64 t13.1), (8, .bool t18.2), (10, .bool t23.2), (35, .bool (t8.1 == 67305985)), (37, .bool (t13.1 == 256)), (43, .bool false), (45, .bool (t583 == 3)), (47, .bool (t599 == 2147483648)), (54, .slice (some ⟨g620, 0, none⟩) 2 2)] W837 := by
          intro g620 W837 hS hM 
          refine RunAny.all [14, 24] (ready_of_cert hC30 (by kernel_rfl)) (by simp) ?_
          refine ⟨?_, ?_, trivial⟩
          · refine Stepped.call 14 (d := some 48) (g := 28) (args := #[.int .u8 1, .int .i64 7]) (by kernel_rfl) (words_Rol8.calls k 1 7 t616 _ ht616) (by rintro _ _ ⟨rfl, hM_⟩; exact hS.below hM_.below) ?_
            rintro _ W838 ⟨rfl, hM_⟩
            replace hS := hS.below hM_.below
            replace hM := hM.call hM_
            clear hM_ ht616
            refine RunAny.rebase hS ?_
            replace hS := Still.refl W838 []
            refine RunAny.y 15 (side_of_cert hC30 (by kernel_rfl)) (yl_pure (d := some 49) (v := .bool (t616 == 128)) (k2 := [.inRegion (opsOf (pl Go.Proofs.Try.f13 [1, 1, 1, 1, 1, 1, 0])) []]) fun w => by kernel_rfl) (fun _ _ => trivial) hS ?_
            refine RunAny.y 16 (side_of_cert hC30 (by kernel_rfl)) (yl_pure (d := some 50) (v := .bool (t616 == 128)) (k2 := [.inRegion (opsOf (pl Go.Proofs.Try.f13 [1, 1, 1, 1, 1, 1, 0])) []]) fun w => by kernel_rfl) (fun _ _ => trivial) hS ?_
            refine RunAny.know 50 (b := true) (by kernel_rfl) c618 ?_
            exact RunAny.same [0, 1, 2, 3, 4, 5, 6, 7, 8, 9, 20, 10, 11, 12, 13, 14, 15, 16] (lst_of_mask (by kernel_rfl)) [0, 3, 5, 8, 10, 35, 37, 43, 45, 47, 50, 54] (by kernel_rfl) (J812 g620 _ hS (hM.pick [0, 1, 2, 3, 4, 5] rfl rfl))
          · refine Stepped.new 24 5 1 2 (nums .u8 [255, 255]) (d := some 58) (k2 := [.inRegion (opsOf (pl Go.Proofs.Try.f13 [1, 1, 1, 1, 1, 1, 0])) []]) hM (by simp [nums, bools, strs]) (by kernel_rfl) (by kernel_rfl) hS ?_
            intro g839 W840 hS hM
            refine RunAny.rebase hS ?_
            replace hS := Still.refl W840 []
            exact RunAny.same [0, 1, 2, 3, 4, 5, 6, 7, 8, 9, 20, 24, 10, 11, 12, 13] (lst_of_mask (by kernel_rfl)) [0, 3, 5, 8, 10, 35, 37, 43, 45, 47, 54, 58] (by kernel_rfl) (J827 g620 g839 _ hS (hM.pick [1, 0, 2, 3, 4, 5, 6] rfl rfl))
        have J842 : ∀ (g620 : Nat) (g627 : Nat) (W843 : World) (hS : Still W843 [] W843) (hM : Mem w W843 [⟨.slice (some ⟨g620, 0, none⟩) 2 2, 5, 1, nums .u8 [18, 52]⟩, ⟨.slice (some ⟨g627, 0, none⟩) 2 2, 5, 1, nums .u8 [255, 255]⟩, ⟨.slice A24 t23.1.length c26, 5, 1, nums .u8 t23.1⟩, ⟨.slice (some ⟨g19, 0, none⟩) 1 1, 5, 1, nums .u8 [1]⟩, ⟨.slice (some ⟨g14, 0, none⟩) 3 3, 5, 1, nums .u8 [1, 2, 3]⟩, ⟨.slice (some ⟨g9, 0, none⟩) 8 8, 5, 1, nums .u8 [0, 0, 0, 0, 0, 0, 1, 0]⟩, ⟨.slice (some ⟨g4, 0, none⟩) 4 4, 5, 1, nums .u8 [1, 2, 3, 4]⟩]) , RunAny Go.Proofs.Try.prog (Ret fun v w' => v = .bool r ∧ Mem w w' []) 13 (rest1 (pl Go.Proofs.Try.f13 [1, 1, 1, 1, 1, 1, 0])) 82 (opsOf (pl Go.Proofs.Try.f13 [1, 1, 1, 1, 1, 1, 0])) (Still W843 []) 28 [0, 1, 2, 3, 4, 5, 6, 7, 8, 9, 20, 24, 10, 11] [(0, .int .i64 a0), (3, .int .u32 t8.1), (5, .int .u64 t13.1), (8, .bool t18.2), (10, .bool t23.2), (35, .bool (t8.1 == 67305985)), (37, .bool (t13.1 == 256)), (43, .bool false), (45, .bool (t583 == 3)), (54, .slice (some ⟨g620, 0, none⟩) 2 2), (58, .slice (some ⟨g627, 0, none⟩) 2 2)] W843 := by
          intro g620 g627 W843 hS hM 
          refine RunAny.call 12 (d := some 46) (g := 26) (args := #[.int .u32 1, .int .i64 (-1)]) (ready_of_cert hC30 (by kernel_rfl)) (by kernel_rfl) (words_Rol32.calls k 1 (-1) t599 _ ht599) (by rintro _ _ ⟨rfl, hM_⟩; exact hS.below hM_.below) ?_
          rintro _ W844 ⟨rfl, hM_⟩
          replace hS := hS.below hM_.below
          replace hM := hM.call hM_
          clear hM_ ht599
          refine RunAny.rebase hS ?_
          replace hS := Still.refl W844 []
          refine RunAny.y 13 (side_of_cert hC30 (by kernel_rfl)) (yl_pure (d := some 47) (v := .bool (t599 == 2147483648)) (k2 := [.inRegion (opsOf (pl Go.Proofs.Try.f13 [1, 1, 1, 1, 1, 1, 0])) []]) fun w => by kernel_rfl) (fun _ _ => trivial) hS ?_
          exact RunAny.same [0, 1, 2, 3, 4, 5, 6, 7, 8, 9, 20, 24, 10, 11, 12, 13] (lst_of_mask (by kernel_rfl)) [0, 3, 5, 8, 10, 35, 37, 43, 45, 47, 54, 58] (by kernel_rfl) (J827 g620 g627 _ hS (hM.pick [0, 1, 2, 3, 4, 5, 6] rfl rfl))
        have J845 : ∀ (W846 : World) (hS : Still W846 [] W846) (hM : Mem w W846 [⟨.slice A24 t23.1.length c26, 5, 1, nums .u8 t23.1⟩, ⟨.slice (some ⟨g19, 0, none⟩) 1 1, 5, 1, nums .u8 [1]⟩, ⟨.slice (some ⟨g14, 0, none⟩) 3 3, 5, 1, nums .u8 [1, 2, 3]⟩, ⟨.slice (some ⟨g9, 0, none⟩) 8 8, 5, 1, nums .u8 [0, 0, 0, 0, 0, 0, 1, 0]⟩, ⟨.slice (some ⟨g4, 0, none⟩) 4 4, 5, 1, nums .u8 [1, 2, 3, 4]⟩]) , RunAny Go.Proofs.Try.prog (Ret fun v w' => v = .bool r ∧ Mem w w' []) 13 (rest1 (pl Go.Proofs.Try.f13 [1, 1, 1, 1, 1, 1, 0])) 82 (opsOf (pl Go.Proofs.Try.f13 [1, 1, 1, 1, 1, 1, 0])) (Still W846 []) 28 [0, 1, 2, 3, 4, 5, 6, 7, 8, 9, 10, 11, 12, 13] [(0, .int .i64 a0), (3, .int .u32 t8.1), (5, .int .u64 t13.1), (8, .bool t18.2), (10, .bool t23.2), (35, .bool (t8.1 == 67305985)), (37, .bool (t13.1 == 256)), (43, .bool false), (45, .bool (t583 == 3)), (47, .bool (t599 == 2147483648))] W846 := by
          intro W846 hS hM 
          refine RunAny.all [14, 20, 24] (ready_of_cert hC30 (by kernel_rfl)) (by simp) ?_
          refine ⟨?_, ?_, ?_, trivial⟩
          · refine Stepped.call 14 (d := some 48) (g := 28) (args := #[.int .u8 1, .int .i64 7]) (by kernel_rfl) (words_Rol8.calls k 1 7 t616 _ ht616) (by rintro _ _ ⟨rfl, hM_⟩; exact hS.below hM_.below) ?_
            rintro _ W847 ⟨rfl, hM_⟩
            replace hS := hS.below hM_.below
            replace hM := hM.call hM_
            clear hM_ ht616
            refine RunAny.rebase hS ?_
            replace hS := Still.refl W847 []
            refine RunAny.y 15 (side_of_cert hC30 (by kernel_rfl)) (yl_pure (d := some 49) (v := .bool (t616 == 128)) (k2 := [.inRegion (opsOf (pl Go.Proofs.Try.f13 [1, 1, 1, 1, 1, 1, 0])) []]) fun w => by kernel_rfl) (fun _ _ => trivial) hS ?_
            refine RunAny.y 16 (side_of_cert hC30 (by kernel_rfl)) (yl_pure (d := some 50) (v := .bool (t616 == 128)) (k2 := [.inRegion (opsOf (pl Go.Proofs.Try.f13 [1, 1, 1, 1, 1, 1, 0])) []]) fun w => by kernel_rfl) (fun _ _ => trivial) hS ?_
            refine RunAny.know 50 (b := true) (by kernel_rfl) c618 ?_
            exact RunAny.same [0, 1, 2, 3, 4, 5, 6, 7, 8, 9, 10, 11, 12, 13, 14, 15, 16] (lst_of_mask (by kernel_rfl)) [0, 3, 5, 8, 10, 35, 37, 43, 45, 47, 50] (by kernel_rfl) (J818 _ hS (hM.pick [0, 1, 2, 3, 4] rfl rfl))
          · refine Stepped.new 20 5 1 2 (nums .u8 [18, 52]) (d := some 54) (k2 := [.inRegion (opsOf (pl Go.Proofs.Try.f13 [1, 1, 1, 1, 1, 1, 0])) []]) hM (by simp [nums, bools, strs]) (by kernel_rfl) (by kernel_rfl) hS ?_
            intro g848 W849 hS hM
            refine RunAny.rebase hS ?_
            replace hS := Still.refl W849 []
            exact RunAny.same [0, 1, 2, 3, 4, 5, 6, 7, 8, 9, 20, 10, 11, 12, 13] (lst_of_mask (by kernel_rfl)) [0, 3, 5, 8, 10, 35, 37, 43, 45, 47, 54] (by kernel_rfl) (J836 g848 _ hS (hM.pick [0, 1, 2, 3, 4, 5] rfl rfl))
          · refine Stepped.new 24 5 1 2 (nums .u8 [255, 255]) (d := some 58) (k2 := [.inRegion (opsOf (pl Go.Proofs.Try.f13 [1, 1, 1, 1, 1, 1, 0])) []]) hM (by simp [nums, bools, strs]) (by kernel_rfl) (by kernel_rfl) hS ?_
            intro g851 W852 hS hM
            refine RunAny.rebase hS ?_
            replace hS := Still.refl W852 []
            exact RunAny.same [0, 1, 2, 3, 4, 5, 6, 7, 8, 9, 24, 10, 11, 12, 13] (lst_of_mask (by kernel_rfl)) [0, 3, 5, 8, 10, 35, 37, 43, 45, 47, 58] (by kernel_rfl) (J830 g851 _ hS (hM.pick [0, 1, 2, 3, 4, 5] rfl rfl))
        have J854 : ∀ (g623 : Nat) (W855 : World) (hS : Still W855 [] W855) (hM : Mem w W855 [⟨.slice (some ⟨g623, 0, none⟩) 2 2, 5, 1, nums .u8 [255, 255]⟩, ⟨.slice A24 t23.1.length c26, 5, 1, nums .u8 t23.1⟩, ⟨.slice (some ⟨g19, 0, none⟩) 1 1, 5, 1, nums .u8 [1]⟩, ⟨.slice (some ⟨g14, 0, none⟩) 3 3, 5, 1, nums .u8 [1, 2, 3]⟩, ⟨.slice (some ⟨g9, 0, none⟩) 8 8, 5, 1, nums .u8 [0, 0, 0, 0, 0, 0, 1, 0]⟩, ⟨.slice (some ⟨g4, 0, none⟩) 4 4, 5, 1, nums .u8 [1, 2, 3, 4]⟩]) , RunAny Go.Proofs.Try.prog (Ret fun v w' => v = .bool r ∧ Mem w w' []) 13 (rest1 (pl Go.Proofs.Try.f13 [1, 1, 1, 1, 1, 1, 0])) 82 (opsOf (pl Go.Proofs.Try.f13 [1, 1, 1, 1, 1, 1, 0])) (Still W855 []) 29 [0, 1, 2, 3, 4, 5, 6, 7, 8, 9, 24, 10, 11] [(0, .int .i64 a0), (3, .int .u32 t8.1), (5, .int .u64 t13.1), (8, .bool t18.2), (10, .bool t23.2), (35, .bool (t8.1 == 67305985)), (37, .bool (t13.1 == 256)), (43, .bool false), (45, .bool (t583 == 3)), (58, .slice (some ⟨g623, 0, none⟩) 2 2)] W855 := by
          intro g623 W855 hS hM 
          refine RunAny.all [12, 20] (ready_of_cert hC30 (by kernel_rfl)) (by simp) ?_
          refine ⟨?_, ?_, trivial⟩
          · refine Stepped.call 12 (d := some 46) (g := 26) (args := #[.int .u32 1, .int .i64 (-1)]) (by kernel_rfl) (words_Rol32.calls k 1 (-1) t599 _ ht599) (by rintro _ _ ⟨rfl, hM_⟩; exact hS.below hM_.below) ?_
            rintro _ W856 ⟨rfl, hM_⟩
            replace hS := hS.below hM_.below
            replace hM := hM.call hM_
            clear hM_ ht599
            refine RunAny.rebase hS ?_
            replace hS := Still.refl W856 []
            refine RunAny.y 13 (side_of_cert hC30 (by kernel_rfl)) (yl_pure (d := some 47) (v := .bool (t599 == 2147483648)) (k2 := [.inRegion (opsOf (pl Go.Proofs.Try.f13 [1, 1, 1, 1, 1, 1, 0])) []]) fun w => by kernel_rfl) (fun _ _ => trivial) hS ?_
            exact RunAny.same [0, 1, 2, 3, 4, 5, 6, 7, 8, 9, 24, 10, 11, 12, 13] (lst_of_mask (by kernel_rfl)) [0, 3, 5, 8, 10, 35, 37, 43, 45, 47, 58] (by kernel_rfl) (J830 g623 _ hS (hM.pick [0, 1, 2, 3, 4, 5] rfl rfl))
          · refine Stepped.new 20 5 1 2 (nums .u8 [18, 52]) (d := some 54) (k2 := [.inRegion (opsOf (pl Go.Proofs.Try.f13 [1, 1, 1, 1, 1, 1, 0])) []]) hM (by simp [nums, bools, strs]) (by kernel_rfl) (by kernel_rfl) hS ?_
            intro g857 W858 hS hM
            refine RunAny.rebase hS ?_
            replace hS := Still.refl W858 []
            exact RunAny.same [0, 1, 2, 3, 4, 5, 6, 7, 8, 9, 20, 24, 10, 11] (lst_of_mask (by kernel_rfl)) [0, 3, 5, 8, 10, 35, 37, 43, 45, 54, 58] (by kernel_rfl) (J842 g857 g623 _ hS (hM.pick [0, 1, 2, 3, 4, 5, 6] rfl rfl))
        have J860 : ∀ (g620 : Nat) (W861 : World) (hS : Still W861 [] W861) (hM : Mem w W861 [⟨.slice (some ⟨g620, 0, none⟩) 2 2, 5, 1, nums .u8 [18, 52]⟩, ⟨.slice A24 t23.1.length c26, 5, 1, nums .u8 t23.1⟩, ⟨.slice (some ⟨g19, 0, none⟩) 1 1, 5, 1, nums .u8 [1]⟩, ⟨.slice (some ⟨g14, 0, none⟩) 3 3, 5, 1, nums .u8 [1, 2, 3]⟩, ⟨.slice (some ⟨g9, 0, none⟩) 8 8, 5, 1, nums .u8 [0, 0, 0, 0, 0, 0, 1, 0]⟩, ⟨.slice (some ⟨g4, 0, none⟩) 4 4, 5, 1, nums .u8 [1, 2, 3, 4]⟩]) , RunAny Go.Proofs.Try.prog (Ret fun v w' => v = .bool r ∧ Mem w w' []) 13 (rest1 (pl Go.Proofs.Try.f13 [1, 1, 1, 1, 1, 1, 0])) 82 (opsOf (pl Go.Proofs.Try.f13 [1, 1, 1, 1, 1, 1, 0])) (Still W861 []) 29 [0, 1, 2, 3, 4, 5, 6, 7, 8, 9, 20, 10, 11] [(0, .int .i64 a0), (3, .int .u32 t8.1), (5, .int .u64 t13.1), (8, .bool t18.2), (10, .bool t23.2), (35, .bool (t8.1 == 67305985)), (37, .bool (t13.1 == 256)), (43, .bool false), (45, .bool (t583 == 3)), (54, .slice (some ⟨g620, 0, none⟩) 2 2)] W861 := by
          intro g620 W861 hS hM 
          refine RunAny.all [12, 24] (ready_of_cert hC30 (by kernel_rfl)) (by simp) ?_
          refine ⟨?_, ?_, trivial⟩
          · refine Stepped.call 12 (d := some 46) (g := 26) (args := #[.int .u32 1, .int .i64 (-1)]) (by kernel_rfl) (words_Rol32.calls k 1 (-1) t599 _ ht599) (by rintro _ _ ⟨rfl, hM_⟩; exact hS.below hM_.below) ?_
            rintro _ W862 ⟨rfl, hM_⟩
            replace hS := hS.below hM_.below
            replace hM := hM.call hM_
            clear hM_ ht599
            refine RunAny.rebase hS ?_
            replace hS := Still.refl W862 []
            refine RunAny.y 13 (side_of_cert hC30 (by kernel_rfl)) (yl_pure (d := some 47) (v := .bool (t599 == 2147483648)) (k2 := [.inRegion (opsOf (pl Go.Proofs.Try.f13 [1, 1, 1, 1, 1, 1, 0])) []]) fun w => by kernel_rfl) (fun _ _ => trivial) hS ?_
            exact RunAny.same [0, 1, 2, 3, 4, 5, 6, 7, 8, 9, 20, 10, 11, 12, 13] (lst_of_mask (by kernel_rfl)) [0, 3, 5, 8, 10, 35, 37, 43, 45, 47, 54] (by kernel_rfl) (J836 g620 _ hS (hM.pick [0, 1, 2, 3, 4, 5] rfl rfl))
          · refine Stepped.new 24 5 1 2 (nums .u8 [255, 255]) (d := some 58) (k2 := [.inRegion (opsOf (pl Go.Proofs.Try.f13 [1, 1, 1, 1, 1, 1, 0])) []]) hM (by simp [nums, bools, strs]) (by kernel_rfl) (by kernel_rfl) hS ?_
            intro g863 W864 hS hM
            refine RunAny.rebase hS ?_
            replace hS := Still.refl W864 []
            exact RunAny.same [0, 1, 2, 3, 4, 5, 6, 7, 8, 9, 20, 24, 10, 11] (lst_of_mask (by kernel_rfl)) [0, 3, 5, 8, 10, 35, 37, 43, 45, 54, 58] (by kernel_rfl) (J842 g620 g863 _ hS (hM.pick [1, 0, 2, 3, 4, 5, 6] rfl rfl))
        have J866 : ∀ (g620 : Nat) (g627 : Nat) (W867 : World) (hS : Still W867 [] W867) (hM : Mem w W867 [⟨.slice (some ⟨g620, 0, none⟩) 2 2, 5, 1, nums .u8 [18, 52]⟩, ⟨.slice (some ⟨g627, 0, none⟩) 2 2, 5, 1, nums .u8 [255, 255]⟩, ⟨.slice A24 t23.1.length c26, 5, 1, nums .u8 t23.1⟩, ⟨.slice (some ⟨g19, 0, none⟩) 1 1, 5, 1, nums .u8 [1]⟩, ⟨.slice (some ⟨g14, 0, none⟩) 3 3, 5, 1, nums .u8 [1, 2, 3]⟩, ⟨.slice (some ⟨g9, 0, none⟩) 8 8, 5, 1, nums .u8 [0, 0, 0, 0, 0, 0, 1, 0]⟩, ⟨.slice (some ⟨g4, 0, none⟩) 4 4, 5, 1, nums .u8 [1, 2, 3, 4]⟩]) , RunAny Go.Proofs.Try.prog (Ret fun v w' => v = .bool r ∧ Mem w w' []) 13 (rest1 (pl Go.Proofs.Try.f13 [1, 1, 1, 1, 1, 1, 0])) 82 (opsOf (pl Go.Proofs.Try.f13 [1, 1, 1, 1, 1, 1, 0])) (Still W867 []) 30 [0, 1, 2, 3, 4, 5, 6, 7, 8, 9, 20, 24] [(0, .int .i64 a0), (3, .int .u32 t8.1), (5, .int .u64 t13.1), (8, .bool t18.2), (10, .bool t23.2), (35, .bool (t8.1 == 67305985)), (37, .bool (t13.1 == 256)), (43, .bool false), (54, .slice (some ⟨g620, 0, none⟩) 2 2), (58, .slice (some ⟨g627, 0, none⟩) 2 2)] W867 := by
          intro g620 g627 W867 hS hM 
          refine RunAny.call 10 (d := some 44) (g := 26) (args := #[.int .u32 2147483649, .int .i64 1]) (ready_of_cert hC30 (by kernel_rfl)) (by kernel_rfl) (words_Rol32.calls k 2147483649 1 t583 _ ht583) (by rintro _ _ ⟨rfl, hM_⟩; exact hS.below hM_.below) ?_
          rintro _ W868 ⟨rfl, hM_⟩
          replace hS := hS.below hM_.below
          replace hM := hM.call hM_
          clear hM_ ht583
          refine RunAny.rebase hS ?_
          replace hS := Still.refl W868 []
          refine RunAny.y 11 (side_of_cert hC30 (by kernel_rfl)) (yl_pure (d := some 45) (v := .bool (t583 == 3)) (k2 := [.inRegion (opsOf (pl Go.Proofs.Try.f13 [1, 1, 1, 1, 1, 1, 0])) []]) fun w => by kernel_rfl) (fun _ _ => trivial) hS ?_
          exact RunAny.same [0, 1, 2, 3, 4, 5, 6, 7, 8, 9, 20, 24, 10, 11] (lst_of_mask (by kernel_rfl)) [0, 3, 5, 8, 10, 35, 37, 43, 45, 54, 58] (by kernel_rfl) (J842 g620 g627 _ hS (hM.pick [0, 1, 2, 3, 4, 5, 6] rfl rfl))
        have J869 : ∀ (W870 : World) (hS : Still W870 [] W870) (hM : Mem w W870 [⟨.slice A24 t23.1.length c26, 5, 1, nums .u8 t23.1⟩, ⟨.slice (some ⟨g19, 0, none⟩) 1 1, 5, 1, nums .u8 [1]⟩, ⟨.slice (some ⟨g14, 0, none⟩) 3 3, 5, 1, nums .u8 [1, 2, 3]⟩, ⟨.slice (some ⟨g9, 0, none⟩) 8 8, 5, 1, nums .u8 [0, 0, 0, 0, 0, 0, 1, 0]⟩, ⟨.slice (some ⟨g4, 0, none⟩) 4 4, 5, 1, nums .u8 [1, 2, 3, 4]⟩]) , RunAny Go.Proofs.Try.prog (Ret fun v w' => v = .bool r ∧ Mem w w' []) 13 (rest1 (pl Go.Proofs.Try.f13 [1, 1, 1, 1, 1, 1, 0])) 82 (opsOf (pl Go.Proofs.Try.f13 [1, 1, 1, 1, 1, 1, 0])) (Still W870 []) 30 [0, 1, 2, 3, 4, 5, 6, 7, 8, 9, 10, 11] [(0, .int .i64 a0), (3, .int .u32 t8.1), (5, .int .u64 t13.1), (8, .bool t18.2), (10, .bool t23.2), (35, .bool (t8.1 == 67305985)), (37, .bool (t13.1 == 256)), (43, .bool false), (45, .bool (t583 == 3))] W870 := by
          intro W870 hS hM 
          refine RunAny.all [12, 20, 24] (ready_of_cert hC30 (by kernel_rfl)) (by simp) ?_
          refine ⟨?_, ?_, ?_, trivial⟩
          · refine Stepped.call 12 (d := some 46) (g := 26) (args := #[.int .u32 1, .int .i64 (-1)]) (by kernel_rfl) (words_Rol32.calls k 1 (-1) t599 _ ht599) (by rintro _ _ ⟨rfl, hM_⟩; exact hS.below hM_.below) ?_
            rintro _ W871 ⟨rfl, hM_⟩
            replace hS := hS.below hM_.below
            replace hM := hM.call hM_
            clear hM_ ht599
            refine RunAny.rebase hS ?_
            replace hS := Still.refl W871 []
            refine RunAny.y 13 (side_of_cert hC30 (by kernel_rfl)) (yl_pure (d := some 47) (v := .bool (t599 == 2147483648)) (k2 := [.inRegion (opsOf (pl Go.Proofs.Try.f13 [1, 1, 1, 1, 1, 1, 0])) []]) fun w => by kernel_rfl) (fun _ _ => trivial) hS ?_
            exact RunAny.same [0, 1, 2, 3, 4, 5, 6, 7, 8, 9, 10, 11, 12, 13] (lst_of_mask (by kernel_rfl)) [0, 3, 5, 8, 10, 35, 37, 43, 45, 47] (by kernel_rfl) (J845 _ hS (hM.pick [0, 1, 2, 3, 4] rfl rfl))
          · refine Stepped.new 20 5 1 2 (nums .u8 [18, 52]) (d := some 54) (k2 := [.inRegion (opsOf (pl Go.Proofs.Try.f13 [1, 1, 1, 1, 1, 1, 0])) []]) hM (by simp [nums, bools, strs]) (by kernel_rfl) (by kernel_rfl) hS ?_
            intro g872 W873 hS hM
            refine RunAny.rebase hS ?_
            replace hS := Still.refl W873 []
            exact RunAny.same [0, 1, 2, 3, 4, 5, 6, 7, 8, 9, 20, 10, 11] (lst_of_mask (by kernel_rfl)) [0, 3, 5, 8, 10, 35, 37, 43, 45, 54] (by kernel_rfl) (J860 g872 _ hS (hM.pick [0, 1, 2, 3, 4, 5] rfl rfl))
          · refine Stepped.new 24 5 1 2 (nums .u8 [255, 255]) (d := some 58) (k2 := [.inRegion (opsOf (pl Go.Proofs.Try.f13 [1, 1, 1, 1, 1, 1, 0])) []]) hM (by simp [nums, bools, strs]) (by kernel_rfl) (by kernel_rfl) hS ?_
            intro g875 W876 hS hM
            refine RunAny.rebase hS ?_
            replace hS := Still.refl W876 []
            exact RunAny.same [0, 1, 2, 3, 4, 5, 6, 7, 8, 9, 24, 10, 11] (lst_of_mask (by kernel_rfl)) [0, 3, 5, 8, 10, 35, 37, 43, 45, 58] (by kernel_rfl) (J854 g875 _ hS (hM.pick [0, 1, 2, 3, 4, 5] rfl rfl))
        have J878 : ∀ (g623 : Nat) (W879 : World) (hS : Still W879 [] W879) (hM : Mem w W879 [⟨.slice (some ⟨g623, 0, none⟩) 2 2, 5, 1, nums .u8 [255, 255]⟩, ⟨.slice A24 t23.1.length c26, 5, 1, nums .u8 t23.1⟩, ⟨.slice (some ⟨g19, 0, none⟩) 1 1, 5, 1, nums .u8 [1]⟩, ⟨.slice (some ⟨g14, 0, none⟩) 3 3, 5, 1, nums .u8 [1, 2, 3]⟩, ⟨.slice (some ⟨g9, 0, none⟩) 8 8, 5, 1, nums .u8 [0, 0, 0, 0, 0, 0, 1, 0]⟩, ⟨.slice (some ⟨g4, 0, none⟩) 4 4, 5, 1, nums .u8 [1, 2, 3, 4]⟩]) , RunAny Go.Proofs.Try.prog (Ret fun v w' => v = .bool r ∧ Mem w w' []) 13 (rest1 (pl Go.Proofs.Try.f13 [1, 1, 1, 1, 1, 1, 0])) 82 (opsOf (pl Go.Proofs.Try.f13 [1, 1, 1, 1, 1, 1, 0])) (Still W879 []) 31 [0, 1, 2, 3, 4, 5, 6, 7, 8, 9, 24] [(0, .int .i64 a0), (3, .int .u32 t8.1), (5, .int .u64 t13.1), (8, .bool t18.2), (10, .bool t23.2), (35, .bool (t8.1 == 67305985)), (37, .bool (t13.1 == 256)), (43, .bool false), (58, .slice (some ⟨g623, 0, none⟩) 2 2)] W879 := by
          intro g623 W879 hS hM 
          refine RunAny.all [10, 20] (ready_of_cert hC30 (by kernel_rfl)) (by simp) ?_
          refine ⟨?_, ?_, trivial⟩
          · refine Stepped.call 10 (d := some 44) (g := 26) (args := #[.int .u32 2147483649, .int .i64 1]) (by kernel_rfl) (words_Rol32.calls k 2147483649 1 t583 _ ht583) (by rintro _ _ ⟨rfl, hM_⟩; exact hS.below hM_.below) ?_
            rintro _ W880 ⟨rfl, hM_⟩
            replace hS := hS.below hM_.below
            replace hM := hM.call hM_
            clear hM_ ht583
            refine RunAny.rebase hS ?_
            replace hS := Still.refl W880 []
            refine RunAny.y 11 (side_of_cert hC30 (by kernel_rfl)) (yl_pure (d := some 45) (v := .bool (t583 == 3)) (k2 := [.inRegion (opsOf (pl Go.Proofs.Try.f13 [1, 1, 1, 1, 1, 1, 0])) []]) fun w => by kernel_rfl) (fun _ _ => trivial) hS ?_
            exact RunAny.same [0, 1, 2, 3, 4, 5, 6, 7, 8, 9, 24, 10, 11] (lst_of_mask (by kernel_rfl)) [0, 3, 5, 8, 10, 35, 37, 43, 45, 58] (by kernel_rfl) (J854 g623 _ hS (hM.pick [0, 1, 2, 3, 4, 5] rfl rfl))
          · refine Stepped.new 20 5 1 2 (nums .u8 [18, 52]) (d := some 54) (k2 := [.inRegion (opsOf (pl Go.Proofs.Try.f13 [1, 1, 1, 1, 1, 1, 0])) []]) hM (by simp [nums, bools, strs]) (by kernel_rfl) (by kernel_rfl) hS ?_
            intro g881 W882 hS hM
            refine RunAny.rebase hS ?_
            replace hS := Still.refl W882 []
            exact RunAny.same [0, 1, 2, 3, 4, 5, 6, 7, 8, 9, 20, 24] (lst_of_mask (by kernel_rfl)) [0, 3, 5, 8, 10, 35, 37, 43, 54, 58] (by kernel_rfl) (J866 g881 g623 _ hS (hM.pick [0, 1, 2, 3, 4, 5, 6] rfl rfl))
        have J884 : ∀ (g620 : Nat) (W885 : World) (hS : Still W885 [] W885) (hM : Mem w W885 [⟨.slice (some ⟨g620, 0, none⟩) 2 2, 5, 1, nums .u8 [18, 52]⟩, ⟨.slice A24 t23.1.length c26, 5, 1, nums .u8 t23.1⟩, ⟨.slice (some ⟨g19, 0, none⟩) 1 1, 5, 1, nums .u8 [1]⟩, ⟨.slice (some ⟨g14, 0, none⟩) 3 3, 5, 1, nums .u8 [1, 2, 3]⟩, ⟨.slice (some ⟨g9, 0, none⟩) 8 8, 5, 1, nums .u8 [0, 0, 0, 0, 0, 0, 1, 0]⟩, ⟨.slice (some ⟨g4, 0, none⟩) 4 4, 5, 1, nums .u8 [1, 2, 3, 4]⟩]) , RunAny Go.Proofs.Try.prog (Ret fun v w' => v = .bool r ∧ Mem w w' []) 13 (rest1 (pl Go.Proofs.Try.f13 [1, 1, 1, 1, 1, 1, 0])) 82 (opsOf (pl Go.Proofs.Try.f13 [1, 1, 1, 1, 1, 1, 0])) (Still W885 []) 31 [0, 1, 2, 3, 4, 5, 6, 7, 8, 9, 20] [(0, .int .i64 a0), (3, .int .u32 t8.1), (5, .int .u64 t13.1), (8, .bool t18.2), (10, .bool t23.2), (35, .bool (t8.1 == 67305985)), (37, .bool (t13.1 == 256)), (43, .bool false), (54, .slice (some ⟨g620, 0, none⟩) 2 2)] W885 := by
          intro g620 W885 hS hM 
          refine RunAny.all [10, 24] (ready_of_cert hC30 (by kernel_rfl)) (by simp) ?_
          refine ⟨?_, ?_, trivial⟩
          · refine Stepped.call 10 (d := some 44) (g := 26) (args := #[.int .u32 2147483649, .int .i64 1]) (by kernel_rfl) (words_Rol32.calls k 2147483649 1 t583 _ ht583) (by rintro _ _ ⟨rfl, hM_⟩; exact hS.below hM_.below) ?_
            rintro _ W886 ⟨rfl, hM_⟩
            replace hS := hS.below hM_.below
            replace hM := hM.call hM_
            clear hM_ ht583
            refine RunAny.rebase hS ?_
            replace hS := Still.refl W886 []
            refine RunAny.y 11 (side_of_cert hC30 (by kernel_rfl)) (yl_pure (d := some 45) (v := .bool (t583 == 3)) (k2 := [.inRegion (opsOf (pl Go.Proofs.Try.f13 [1, 1, 1, 1, 1, 1, 0])) []]) fun w => by kernel_rfl) (fun _ _ => trivial) hS ?_
            exact RunAny.same [0, 1, 2, 3, 4, 5, 6, 7, 8, 9, 20, 10, 11] (lst_of_mask (by kernel_rfl)) [0, 3, 5, 8, 10, 35, 37, 43, 45, 54] (by kernel_rfl) (J860 g620 _ hS (hM.pick [0, 1, 2, 3, 4, 5] rfl rfl))
          · refine Stepped.new 24 5 1 2 (nums .u8 [255, 255]) (d := some 58) (k2 := [.inRegion (opsOf (pl Go.Proofs.Try.f13 [1, 1, 1, 1, 1, 1, 0])) []]) hM (by simp [nums, bools, strs]) (by kernel_rfl) (by kernel_rfl) hS ?_
            intro g887 W888 hS hM
            refine RunAny.rebase hS ?_
            replace hS := Still.refl W888 []
            exact RunAny.same [0, 1, 2, 3, 4, 5, 6, 7, 8, 9, 20, 24] (lst_of_mask (by kernel_rfl)) [0, 3, 5, 8, 10, 35, 37, 43, 54, 58] (by kernel_rfl) (J866 g620 g887 _ hS (hM.pick [1, 0, 2, 3, 4, 5, 6] rfl rfl))
        refine RunAny.all [10, 20, 24] (ready_of_cert hC30 (by kernel_rfl)) (by simp) ?_
        refine ⟨?_, ?_, ?_, trivial⟩
        · refine Stepped.call 10 (d := some 44) (g := 26) (args := #[.int .u32 2147483649, .int .i64 1]) (by kernel_rfl) (words_Rol32.calls k 2147483649 1 t583 _ ht583) (by rintro _ _ ⟨rfl, hM_⟩; exact hS.below hM_.below) ?_
          rintro _ W890 ⟨rfl, hM_⟩
          replace hS := hS.below hM_.below
          replace hM := hM.call hM_
          clear hM_ ht583
          refine RunAny.rebase hS ?_
          replace hS := Still.refl W890 []
          refine RunAny.y 11 (side_of_cert hC30 (by kernel_rfl)) (yl_pure (d := some 45) (v := .bool (t583 == 3)) (k2 := [.inRegion (opsOf (pl Go.Proofs.Try.f13 [1, 1, 1, 1, 1, 1, 0])) []]) fun w => by kernel_rfl) (fun _ _ => trivial) hS ?_
          exact RunAny.same [0, 1, 2, 3, 4, 5, 6, 7, 8, 9, 10, 11] (lst_of_mask (by kernel_rfl)) [0, 3, 5, 8, 10, 35, 37, 43, 45] (by kernel_rfl) (J869 _ hS (hM.pick [0, 1, 2, 3, 4] rfl rfl))
        · refine Stepped.new 20 5 1 2 (nums .u8 [18, 52]) (d := some 54) (k2 := [.inRegion (opsOf (pl Go.Proofs.Try.f13 [1, 1, 1, 1, 1, 1, 0])) []]) hM (by simp [nums, bools, strs]) (by kernel_rfl) (by kernel_rfl) hS ?_
          intro g891 W892 hS hM
          refine RunAny.rebase hS ?_
          replace hS := Still.refl W892 []
          exact RunAny.same [0, 1, 2, 3, 4, 5, 6, 7, 8, 9, 20] (lst_of_mask (by kernel_rfl)) [0, 3, 5, 8, 10, 35, 37, 43, 54] (by kernel_rfl) (J884 g891 _ hS (hM.pick [0, 1, 2, 3, 4, 5] rfl rfl))
        · refine Stepped.new 24 5 1 2 (nums .u8 [255, 255]) (d := some 58) (k2 := [.inRegion (opsOf (pl Go.Proofs.Try.f13 [1, 1, 1, 1, 1, 1, 0])) []]) hM (by simp [nums, bools, strs]) (by kernel_rfl) (by kernel_rfl) hS ?_
          intro g894 W895 hS hM
          refine RunAny.rebase hS ?_
          replace hS := Still.refl W895 []
          exact RunAny.same [0, 1, 2, 3, 4, 5, 6, 7, 8, 9, 24] (lst_of_mask (by kernel_rfl)) [0, 3, 5, 8, 10, 35, 37, 43, 58] (by kernel_rfl) (J878 g894 _ hS (hM.pick [0, 1, 2, 3, 4, 5] rfl rfl))
      · replace h := of_false h c618
        obtain ⟨t951, ht951, h⟩ := Option.bind_eq_some_iff.mp h
        have J971 : ∀ (g898 : Nat) (A964 : Option Addr) (c966 : Nat) (g905 : Nat) (W972 : World) (hS : Still W972 [] W972) (hM : Mem w W972 [⟨.slice (some ⟨g898, 0, none⟩) 2 2, 5, 1, nums .u8 [18, 52]⟩, ⟨.slice A964 t951.length c966, 5, 1, nums .u8 t951⟩, ⟨.slice (some ⟨g905, 0, none⟩) 2 2, 5, 1, nums .u8 [255, 255]⟩, ⟨.slice A24 t23.1.length c26, 5, 1, nums .u8 t23.1⟩, ⟨.slice (some ⟨g19, 0, none⟩) 1 1, 5, 1, nums .u8 [1]⟩, ⟨.slice (some ⟨g14, 0, none⟩) 3 3, 5, 1, nums .u8 [1, 2, 3]⟩, ⟨.slice (some ⟨g9, 0, none⟩) 8 8, 5, 1, nums .u8 [0, 0, 0, 0, 0, 0, 1, 0]⟩, ⟨.slice (some ⟨g4, 0, none⟩) 4 4, 5, 1, nums .u8 [1, 2, 3, 4]⟩]) , RunAny Go.Proofs.Try.prog (Ret fun v w' => v = .bool r ∧ Mem w w' []) 13 (rest1 (pl Go.Proofs.Try.f13 [1, 1, 1, 1, 1, 1, 0])) 82 (opsOf (pl Go.Proofs.Try.f13 [1, 1, 1, 1, 1, 1, 0])) (Still W972 []) 17 [0, 1, 2, 3, 4, 5, 6, 7, 8, 9, 20, 24, 10, 11, 12, 13, 14, 15, 16, 17, 18, 19, 21, 22, 23] [(0, .int .i64 a0), (3, .int .u32 t8.1), (5, .int .u64 t13.1), (8, .bool t18.2), (10, .bool t23.2), (35, .bool (t8.1 == 67305985)), (37, .bool (t13.1 == 256)), (43, .bool false), (45, .bool (t583 == 3)), (47, .bool (t599 == 2147483648)), (53, .bool false), (57, .bool ((strOf t951).toList == (⟨#[35, 65]⟩ : ByteArray).toList)), (58, .slice (some ⟨g905, 0, none⟩) 2 2)] W972 := by
          intro g898 A964 c966 g905 W972 hS hM 
          obtain ⟨t974, ht974, h⟩ := Option.bind_eq_some_iff.mp h
          refine RunAny.call 25 (d := some 59) (g := 16) (args := #[.slice (some ⟨g905, 0, none⟩) 2 2]) (ready_of_cert hC30 (by kernel_rfl)) (by kernel_rfl) (words_Inc.calls k (some ⟨g905, 0, none⟩) 2 2 ([255, 255] : List Int) t974 _ (hM.rd 2 rfl) ht974) (by rintro _ _ ⟨_, _, _, rfl, hM_⟩; exact hS.below hM_.below) ?_
          rintro _ W973 ⟨A975, n976, c977, rfl, hM_⟩
          obtain rfl : t974.length = n976 := by have h_ := (hM_.rd 0 rfl).1; simpa [nums_length, bools_length, strs_length] using h_
          replace hS := hS.below hM_.below
          replace hM := hM.call hM_
          clear hM_ ht974
          refine RunAny.rebase hS ?_
          replace hS := Still.refl W973 []
          refine RunAny.y 26 (side_of_cert hC30 (by kernel_rfl)) (str_y (d := some 60) (A := A975) (m := t974.length) (c := c977) (k2 := [.inRegion (opsOf (pl Go.Proofs.Try.f13 [1, 1, 1, 1, 1, 1, 0])) []]) t974 (by kernel_rfl)) (fun _ hs => ((hM.rd 0 rfl).still hs (by simp))) hS ?_
          refine RunAny.y 27 (side_of_cert hC30 (by kernel_rfl)) (yl_pure (d := some 61) (v := .bool ((strOf t974).toList == (⟨#[0, 0]⟩ : ByteArray).toList)) (k2 := [.inRegion (opsOf (pl Go.Proofs.Try.f13 [1, 1, 1, 1, 1, 1, 0])) []]) fun w => by kernel_rfl) (fun _ _ => trivial) hS ?_
          refine RunAny.y 28 (side_of_cert hC30 (by kernel_rfl)) (yl_pure (d := some 62) (v := .bool ((strOf t974).toList == (⟨#[0, 0]⟩ : ByteArray).toList)) (k2 := [.inRegion (opsOf (pl Go.Proofs.Try.f13 [1, 1, 1, 1, 1, 1, 0])) []]) fun w => by kernel_rfl) (fun _ _ => trivial) hS ?_
          rcases two (((strOf t974).toList == (⟨#[0, 0]⟩ : ByteArray).toList)) with c979 | c979
          · replace h := of_true h c979
            refine RunAny.know 62 (b := true) (by kernel_rfl) c979 ?_
            refine RunAny.new 29 5 1 3 (nums .u8 [0, 1, 255]) (d := some 63) (k2 := [.inRegion (opsOf (pl Go.Proofs.Try.f13 [1, 1, 1, 1, 1, 1, 0])) []]) (ready_of_cert hC30 (by kernel_rfl)) hM (by simp [nums, bools, strs]) (by kernel_rfl) (by kernel_rfl) hS ?_
            intro g980 W981 hS hM
            refine RunAny.rebase hS ?_
            replace hS := Still.refl W981 []
            obtain ⟨t984, ht984, h⟩ := Option.bind_eq_some_iff.mp h
            refine RunAny.call 30 (d := some 64) (g := 16) (args := #[.slice (some ⟨g980, 0, none⟩) 3 3]) (ready_of_cert hC30 (by kernel_rfl)) (by kernel_rfl) (words_Inc.calls k (some ⟨g980, 0, none⟩) 3 3 ([0, 1, 255] : List Int) t984 _ (hM.rd 0 rfl) ht984) (by rintro _ _ ⟨_, _, _, rfl, hM_⟩; exact hS.below hM_.below) ?_
            rintro _ W983 ⟨A985, n986, c987, rfl, hM_⟩
            obtain rfl : t984.length = n986 := by have h_ := (hM_.rd 0 rfl).1; simpa [nums_length, bools_length, strs_length] using h_
            replace hS := hS.below hM_.below
            replace hM := hM.call hM_
            clear hM_ ht984
            refine RunAny.rebase hS ?_
            replace hS := Still.refl W983 []
            refine RunAny.y 31 (side_of_cert hC30 (by kernel_rfl)) (str_y (d := some 65) (A := A985) (m := t984.length) (c := c987) (k2 := [.inRegion (opsOf (pl Go.Proofs.Try.f13 [1, 1, 1, 1, 1, 1, 0])) []]) t984 (by kernel_rfl)) (fun _ hs => ((hM.rd 0 rfl).still hs (by simp))) hS ?_
            refine RunAny.y 32 (side_of_cert hC30 (by kernel_rfl)) (yl_pure (d := some 66) (v := .bool ((strOf t984).toList == (⟨#[0, 2, 0]⟩ : ByteArray).toList)) (k2 := [.inRegion (opsOf (pl Go.Proofs.Try.f13 [1, 1, 1, 1, 1, 1, 0])) []]) fun w => by kernel_rfl) (fun _ _ => trivial) hS ?_
            refine RunAny.y 33 (side_of_cert hC30 (by kernel_rfl)) (yl_pure (d := some 67) (v := .bool ((strOf t984).toList == (⟨#[0, 2, 0]⟩ : ByteArray).toList)) (k2 := [.inRegion (opsOf (pl Go.Proofs.Try.f13 [1, 1, 1, 1, 1, 1, 0])) []]) fun w => by kernel_rfl) (fun _ _ => trivial) hS ?_
            obtain ⟨t990, ht990, h⟩ := Option.bind_eq_some_iff.mp h
            refine RunAny.call 34 (d := some 68) (g := 16) (args := #[.slice none 0 0]) (ready_of_cert hC30 (by kernel_rfl)) (by kernel_rfl) (words_Inc.calls k none 0 0 ([] : List Int) t990 _ (Rd.nil _ .u8) ht990) (by rintro _ _ ⟨_, _, _, rfl, hM_⟩; exact hS.below hM_.below) ?_
            rintro _ W989 ⟨A991, n992, c993, rfl, hM_⟩
            obtain rfl : t990.length = n992 := by have h_ := (hM_.rd 0 rfl).1; simpa [nums_length, bools_length, strs_length] using h_
            replace hS := hS.below hM_.below
            replace hM := hM.call hM_
            clear hM_ ht990
            refine RunAny.rebase hS ?_
            replace hS := Still.refl W989 []
            refine RunAny.y 35 (side_of_cert hC30 (by kernel_rfl)) (yl_pure (d := some 69) (v := .int .i64 (t990.length : Int)) (k2 := [.inRegion (opsOf (pl Go.Proofs.Try.f13 [1, 1, 1, 1, 1, 1, 0])) []]) fun w => by kernel_rfl) (fun _ _ => trivial) hS ?_
            refine RunAny.y 36 (side_of_cert hC30 (by kernel_rfl)) (yl_pure (d := some 70) (v := .bool ((t990.length : Int) == 0)) (k2 := [.inRegion (opsOf (pl Go.Proofs.Try.f13 [1, 1, 1, 1, 1, 1, 0])) []]) fun w => by kernel_rfl) (fun _ _ => trivial) hS ?_
            obtain ⟨t996, ht996, h⟩ := Option.bind_eq_some_iff.mp h
            refine RunAny.call 37 (d := some 71) (g := 34) (args := #[.int .u32 16909060]) (ready_of_cert hC30 (by kernel_rfl)) (by kernel_rfl) (words_PutLe32.calls k 16909060 t996 _ ht996) (by rintro _ _ ⟨_, _, _, rfl, hM_⟩; exact hS.below hM_.below) ?_
            rintro _ W995 ⟨A997, n998, c999, rfl, hM_⟩
            obtain rfl : t996.length = n998 := by have h_ := (hM_.rd 0 rfl).1; simpa [nums_length, bools_length, strs_length] using h_
            replace hS := hS.below hM_.below
            replace hM := hM.call hM_
            clear hM_ ht996
            refine RunAny.rebase hS ?_
            replace hS := Still.refl W995 []
            refine RunAny.y 38 (side_of_cert hC30 (by kernel_rfl)) (str_y (d := some 72) (A := A997) (m := t996.length) (c := c999) (k2 := [.inRegion (opsOf (pl Go.Proofs.Try.f13 [1, 1, 1, 1, 1, 1, 0])) []]) t996 (by kernel_rfl)) (fun _ hs => ((hM.rd 0 rfl).still hs (by simp))) hS ?_
            refine RunAny.y 39 (side_of_cert hC30 (by kernel_rfl)) (yl_pure (d := some 73) (v := .bool ((strOf t996).toList == (⟨#[4, 3, 2, 1]⟩ : ByteArray).toList)) (k2 := [.inRegion (opsOf (pl Go.Proofs.Try.f13 [1, 1, 1, 1, 1, 1, 0])) []]) fun w => by kernel_rfl) (fun _ _ => trivial) hS ?_
            refine RunAny.new 40 4 1 10 (bools [(t8.1 == 67305985), (t13.1 == 256), false, (t583 == 3), (t599 == 2147483648), false, ((strOf t951).toList == (⟨#[35, 65]⟩ : ByteArray).toList), ((strOf t984).toList == (⟨#[0, 2, 0]⟩ : ByteArray).toList), ((t990.length : Int) == 0), ((strOf t996).toList == (⟨#[4, 3, 2, 1]⟩ : ByteArray).toList)]) (d := some 74) (k2 := [.inRegion (opsOf (pl Go.Proofs.Try.f13 [1, 1, 1, 1, 1, 1, 0])) []]) (ready_of_cert hC30 (by kernel_rfl)) hM (by simp [nums, bools, strs]) (by kernel_rfl) (by kernel_rfl) hS ?_
            intro g1001 W1002 hS hM
            refine RunAny.rebase hS ?_
            replace hS := Still.refl W1002 []
            refine RunAny.y 41 (side_of_cert hC30 (by kernel_rfl)) (yl_pure (d := some 11) (v := .slice (some ⟨g1001, 0, none⟩) 10 10) (k2 := [.inRegion (opsOf (pl Go.Proofs.Try.f13 [1, 1, 1, 1, 1, 1, 0])) []]) fun w => by kernel_rfl) (fun _ _ => trivial) hS ?_
            refine RunAny.done (ready_of_cert hC30 (by kernel_rfl)) ?_
            clear hS
            refine RunF.go 6 [75, 76, 78] (k' := (pin Go.Proofs.Try.f13 [1, 1, 1, 1, 1, 1, 1, 0] 4)) (L' := [(75, .slice (some ⟨g1001, 0, none⟩) 10 10), (76, .int .i64 a0), (78, .int .i64 10)]) (w' := W1002) (by kernel_rfl) ?_
            obtain ⟨t1005, ht1005, h⟩ := Option.bind_eq_some_iff.mp h
            refine RunF.call (d := some 79) (g := 15) (args := #[.int .i64 a0, .int .i64 10]) (k2 := (pin Go.Proofs.Try.f13 [1, 1, 1, 1, 1, 1, 1, 0] 5)) (by kernel_rfl) (scrimlaw1_within.calls k a0 10 t1005 _ ht1005) ?_
            rintro _ W1004 ⟨rfl, hM_⟩
            replace hM := hM.call hM_
            clear hM_ ht1005
            rcases two (decide (0 ≤ t1005)) with c1007 | c1007
            · replace h := of_true h c1007
              rcases two (decide (t1005 < (10 : Int))) with c1008 | c1008
              · replace h := of_true h c1008
                obtain ⟨q1006, hAq1006, hcq1006, hfq1006, hlq1006⟩ := hM.bool_at 0 rfl (i := t1005) (of_decide_eq_true c1007) (by have h_ := of_decide_eq_true c1008; omega)
                refine RunF.y (idx_own (d := some 80) (A := (some ⟨g1001, 0, none⟩)) (m := 10) (i := t1005) (k2 := (pin Go.Proofs.Try.f13 [1, 1, 1, 1, 1, 1, 1, 0] 6)) (by kernel_rfl) (of_decide_eq_true c1007) (by have h_ := of_decide_eq_true c1008; omega) hAq1006) trivial ?_
                refine RunF.y (ld_y (d := some 81) (p := ⟨q1006, (t1005 : Int).toNat, none⟩) (k2 := (pin Go.Proofs.Try.f13 [1, 1, 1, 1, 1, 1, 1, 0] 7)) (.bool (rdb ([(t8.1 == 67305985), (t13.1 == 256), false, (t583 == 3), (t599 == 2147483648), false, ((strOf t951).toList == (⟨#[35, 65]⟩ : ByteArray).toList), ((strOf t984).toList == (⟨#[0, 2, 0]⟩ : ByteArray).toList), ((t990.length : Int) == 0), ((strOf t996).toList == (⟨#[4, 3, 2, 1]⟩ : ByteArray).toList)] : List Bool) t1005)) (by kernel_rfl)) hcq1006 ?_
                refine RunF.go 2 [2] (k' := (pl Go.Proofs.Try.f13 [1, 1, 1, 1, 1, 1, 1, 1])) (L' := [(2, .bool (rdb ([(t8.1 == 67305985), (t13.1 == 256), false, (t583 == 3), (t599 == 2147483648), false, ((strOf t951).toList == (⟨#[35, 65]⟩ : ByteArray).toList), ((strOf t984).toList == (⟨#[0, 2, 0]⟩ : ByteArray).toList), ((t990.length : Int) == 0), ((strOf t996).toList == (⟨#[4, 3, 2, 1]⟩ : ByteArray).toList)] : List Bool) t1005))]) (w' := W1004) (by kernel_rfl) ?_
                obtain rfl := Option.some.inj h
                exact RunF.ret1 2 (.bool (rdb ([(t8.1 == 67305985), (t13.1 == 256), false, (t583 == 3), (t599 == 2147483648), false, ((strOf t951).toList == (⟨#[35, 65]⟩ : ByteArray).toList), ((strOf t984).toList == (⟨#[0, 2, 0]⟩ : ByteArray).toList), ((t990.length : Int) == 0), ((strOf t996).toList == (⟨#[4, 3, 2, 1]⟩ : ByteArray).toList)] : List Bool) t1005)) (fn := Go.Proofs.Try.f13) Go.Proofs.Try.func13 (by kernel_rfl) (by kernel_rfl) (by kernel_rfl) ⟨_, rfl, rfl, (hM.pick [] rfl rfl)⟩
              · replace h := of_false h c1008
                cases h
            · replace h := of_false h c1007
              cases h
          · replace h := of_false h c979
            refine RunAny.know 62 (b := false) (by kernel_rfl) c979 ?_
            refine RunAny.off 29 (d := some 63) (side_of_cert hC30 (by kernel_rfl)) (by kernel_rfl) hS ?_
            refine RunAny.off 30 (d := some 64) (side_of_cert hC30 (by kernel_rfl)) (by kernel_rfl) hS ?_
            refine RunAny.off 31 (d := some 65) (side_of_cert hC30 (by kernel_rfl)) (by kernel_rfl) hS ?_
            refine RunAny.off 32 (d := some 66) (side_of_cert hC30 (by kernel_rfl)) (by kernel_rfl) hS ?_
            refine RunAny.y 33 (side_of_cert hC30 (by kernel_rfl)) (yl_pure (d := some 67) (v := .bool false) (k2 := [.inRegion (opsOf (pl Go.Proofs.Try.f13 [1, 1, 1, 1, 1, 1, 0])) []]) fun w => by kernel_rfl) (fun _ _ => trivial) hS ?_
            obtain ⟨t1010, ht1010, h⟩ := Option.bind_eq_some_iff.mp h
            refine RunAny.call 34 (d := some 68) (g := 16) (args := #[.slice none 0 0]) (ready_of_cert hC30 (by kernel_rfl)) (by kernel_rfl) (words_Inc.calls k none 0 0 ([] : List Int) t1010 _ (Rd.nil _ .u8) ht1010) (by rintro _ _ ⟨_, _, _, rfl, hM_⟩; exact hS.below hM_.below) ?_
            rintro _ W1009 ⟨A1011, n1012, c1013, rfl, hM_⟩
            obtain rfl : t1010.length = n1012 := by have h_ := (hM_.rd 0 rfl).1; simpa [nums_length, bools_length, strs_length] using h_
            replace hS := hS.below hM_.below
            replace hM := hM.call hM_
            clear hM_ ht1010
            refine RunAny.rebase hS ?_
            replace hS := Still.refl W1009 []
            refine RunAny.y 35 (side_of_cert hC30 (by kernel_rfl)) (yl_pure (d := some 69) (v := .int .i64 (t1010.length : Int)) (k2 := [.inRegion (opsOf (pl Go.Proofs.Try.f13 [1, 1, 1, 1, 1, 1, 0])) []]) fun w => by kernel_rfl) (fun _ _ => trivial) hS ?_
            refine RunAny.y 36 (side_of_cert hC30 (by kernel_rfl)) (yl_pure (d := some 70) (v := .bool ((t1010.length : Int) == 0)) (k2 := [.inRegion (opsOf (pl Go.Proofs.Try.f13 [1, 1, 1, 1, 1, 1, 0])) []]) fun w => by kernel_rfl) (fun _ _ => trivial) hS ?_
            obtain ⟨t1016, ht1016, h⟩ := Option.bind_eq_some_iff.mp h
            refine RunAny.call 37 (d := some 71) (g := 34) (args := #[.int .u32 16909060]) (ready_of_cert hC30 (by kernel_rfl)) (by kernel_rfl) (words_PutLe32.calls k 16909060 t1016 _ ht1016) (by rintro _ _ ⟨_, _, _, rfl, hM_⟩; exact hS.below hM_.below) ?_
            rintro _ W1015 ⟨A1017, n1018, c1019, rfl, hM_⟩
            obtain rfl : t1016.length = n1018 := by have h_ := (hM_.rd 0 rfl).1; simpa [nums_length, bools_length, strs_length] using h_
            replace hS := hS.below hM_.below
            replace hM := hM.call hM_
            clear hM_ ht1016
            refine RunAny.rebase hS ?_
            replace hS := Still.refl W1015 []
            refine RunAny.y 38 (side_of_cert hC30 (by kernel_rfl)) (str_y (d := some 72) (A := A1017) (m := t1016.length) (c := c1019) (k2 := [.inRegion (opsOf (pl Go.Proofs.Try.f13 [1, 1, 1, 1, 1, 1, 0])) []]) t1016 (by kernel_rfl)) (fun _ hs => ((hM.rd 0 rfl).still hs (by simp))) hS ?_
            refine RunAny.y 39 (side_of_cert hC30 (by kernel_rfl)) (yl_pure (d := some 73) (v := .bool ((strOf t1016).toList == (⟨#[4, 3, 2, 1]⟩ : ByteArray).toList)) (k2 := [.inRegion (opsOf (pl Go.Proofs.Try.f13 [1, 1, 1, 1, 1, 1, 0])) []]) fun w => by kernel_rfl) (fun _ _ => trivial) hS ?_
            refine RunAny.new 40 4 1 10 (bools [(t8.1 == 67305985), (t13.1 == 256), false, (t583 == 3), (t599 == 2147483648), false, ((strOf t951).toList == (⟨#[35, 65]⟩ : ByteArray).toList), false, ((t1010.length : Int) == 0), ((strOf t1016).toList == (⟨#[4, 3, 2, 1]⟩ : ByteArray).toList)]) (d := some 74) (k2 := [.inRegion (opsOf (pl Go.Proofs.Try.f13 [1, 1, 1, 1, 1, 1, 0])) []]) (ready_of_cert hC30 (by kernel_rfl)) hM (by simp [nums, bools, strs]) (by kernel_rfl) (by kernel_rfl) hS ?_
            intro g1021 W1022 hS hM
            refine RunAny.rebase hS ?_
            replace hS := Still.refl W1022 []
            refine RunAny.y 41 (side_of_cert hC30 (by kernel_rfl)) (yl_pure (d := some 11) (v := .slice (some ⟨g1021, 0, none⟩) 10 10) (k2 := [.inRegion (opsOf (pl Go.Proofs.Try.f13 [1, 1, 1, 1, 1, 1, 0])) []]) fun w => by kernel_rfl) (fun _ _ => trivial) hS ?_
            refine RunAny.done (ready_of_cert hC30 (by kernel_rfl)) ?_
            clear hS
            refine RunF.go 6 [75, 76, 78] (k' := (pin Go.Proofs.Try.f13 [1, 1, 1, 1, 1, 1, 1, 0] 4)) (L' := [(75, .slice (some ⟨g1021, 0, none⟩) 10 10), (76, .int .i64 a0), (78, .int .i64 10)]) (w' := W1022) (by kernel_rfl) ?_
            obtain ⟨t1025, ht1025, h⟩ := Option.bind_eq_some_iff.mp h
            refine RunF.call (d := some 79) (g := 15) (args := #[.int .i64 a0, .int .i64 10]) (k2 := (pin Go.Proofs.Try.f13 [1, 1, 1, 1, 1, 1, 1, 0] 5)) (by kernel_rfl) (scrimlaw1_within.calls k a0 10 t1025 _ ht1025) ?_
            rintro _ W1024 ⟨rfl, hM_⟩
            replace hM := hM.call hM_
            clear hM_ ht1025
            rcases two (decide (0 ≤ t1025)) with c1027 | c1027
            · replace h := of_true h c1027
              rcases two (decide (t1025 < (10 : Int))) with c1028 | c1028
              · replace h := of_true h c1028
                obtain ⟨q1026, hAq1026, hcq1026, hfq1026, hlq1026⟩ := hM.bool_at 0 rfl (i := t1025) (of_decide_eq_true c1027) (by have h_ := of_decide_eq_true c1028; omega)
                refine RunF.y (idx_own (d := some 80) (A := (some ⟨g1021, 0, none⟩)) (m := 10) (i := t1025) (k2 := (pin Go.Proofs.Try.f13 [1, 1, 1, 1, 1, 1, 1, 0] 6)) (by kernel_rfl) (of_decide_eq_true c1027) (by have h_ := of_decide_eq_true c1028; omega) hAq1026) trivial ?_
                refine RunF.y (ld_y (d := some 81) (p := ⟨q1026, (t1025 : Int).toNat, none⟩) (k2 := (pin Go.Proofs.Try.f13 [1, 1, 1, 1, 1, 1, 1, 0] 7)) (.bool (rdb ([(t8.1 == 67305985), (t13.1 == 256), false, (t583 == 3), (t599 == 2147483648), false, ((strOf t951).toList == (⟨#[35, 65]⟩ : ByteArray).toList), false, ((t1010.length : Int) == 0), ((strOf t1016).toList == (⟨#[4, 3, 2, 1]⟩ : ByteArray).toList)] : List Bool) t1025)) (by kernel_rfl)) hcq1026 ?_
                refine RunF.go 2 [2] (k' := (pl Go.Proofs.Try.f13 [1, 1, 1, 1, 1, 1, 1, 1])) (L' := [(2, .bool (rdb ([(t8.1 == 67305985), (t13.1 == 256), false, (t583 == 3), (t599 == 2147483648), false, ((strOf t951).toList == (⟨#[35, 65]⟩ : ByteArray).toList), false, ((t1010.length : Int) == 0), ((strOf t1016).toList == (⟨#[4, 3, 2, 1]⟩ : ByteArray).toList)] : List Bool) t1025))]) (w' := W1024) (by kernel_rfl) ?_
                obtain rfl := Option.some.inj h
                exact RunF.ret1 2 (.bool (rdb ([(t8.1 == 67305985), (t13.1 == 256), false, (t583 == 3), (t599 == 2147483648), false, ((strOf t951).toList == (⟨#[35, 65]⟩ : ByteArray).toList), false, ((t1010.length : Int) == 0), ((strOf t1016).toList == (⟨#[4, 3, 2, 1]⟩ : ByteArray).toList)] : List Bool) t1025)) (fn := Go.Proofs.Try.f13) Go.Proofs.Try.func13 (by kernel_rfl) (by kernel_rfl) (by kernel_rfl) ⟨_, rfl, rfl, (hM.pick [] rfl rfl)⟩
              · replace h := of_false h c1028
                cases h
            · replace h := of_false h c1027
              cases h
        have J1029 : ∀ (g898 : Nat) (A953 : Option Addr) (c955 : Nat) (W1030 : World) (hS : Still W1030 [] W1030) (hM : Mem w W1030 [⟨.slice (some ⟨g898, 0, none⟩) 2 2, 5, 1, nums .u8 [18, 52]⟩, ⟨.slice A953 t951.length c955, 5, 1, nums .u8 t951⟩, ⟨.slice A24 t23.1.length c26, 5, 1, nums .u8 t23.1⟩, ⟨.slice (some ⟨g19, 0, none⟩) 1 1, 5, 1, nums .u8 [1]⟩, ⟨.slice (some ⟨g14, 0, none⟩) 3 3, 5, 1, nums .u8 [1, 2, 3]⟩, ⟨.slice (some ⟨g9, 0, none⟩) 8 8, 5, 1, nums .u8 [0, 0, 0, 0, 0, 0, 1, 0]⟩, ⟨.slice (some ⟨g4, 0, none⟩) 4 4, 5, 1, nums .u8 [1, 2, 3, 4]⟩]) , RunAny Go.Proofs.Try.prog (Ret fun v w' => v = .bool r ∧ Mem w w' []) 13 (rest1 (pl Go.Proofs.Try.f13 [1, 1, 1, 1, 1, 1, 0])) 82 (opsOf (pl Go.Proofs.Try.f13 [1, 1, 1, 1, 1, 1, 0])) (Still W1030 []) 18 [0, 1, 2, 3, 4, 5, 6, 7, 8, 9, 20, 10, 11, 12, 13, 14, 15, 16, 17, 18, 19, 21, 22, 23] [(0, .int .i64 a0), (3, .int .u32 t8.1), (5, .int .u64 t13.1), (8, .bool t18.2), (10, .bool t23.2), (35, .bool (t8.1 == 67305985)), (37, .bool (t13.1 == 256)), (43, .bool false), (45, .bool (t583 == 3)), (47, .bool (t599 == 2147483648)), (53, .bool false), (57, .bool ((strOf t951).toList == (⟨#[35, 65]⟩ : ByteArray).toList))] W1030 := by
          intro g898 A953 c955 W1030 hS hM 
          refine RunAny.new 24 5 1 2 (nums .u8 [255, 255]) (d := some 58) (k2 := [.inRegion (opsOf (pl Go.Proofs.Try.f13 [1, 1, 1, 1, 1, 1, 0])) []]) (ready_of_cert hC30 (by kernel_rfl)) hM (by simp [nums, bools, strs]) (by kernel_rfl) (by kernel_rfl) hS ?_
          intro g1031 W1032 hS hM
          refine RunAny.rebase hS ?_
          replace hS := Still.refl W1032 []
          exact RunAny.same [0, 1, 2, 3, 4, 5, 6, 7, 8, 9, 20, 24, 10, 11, 12, 13, 14, 15, 16, 17, 18, 19, 21, 22, 23] (lst_of_mask (by kernel_rfl)) [0, 3, 5, 8, 10, 35, 37, 43, 45, 47, 53, 57, 58] (by kernel_rfl) (J971 g898 A953 c955 g1031 _ hS (hM.pick [1, 2, 0, 3, 4, 5, 6, 7] rfl rfl))
        have J1034 : ∀ (g898 : Nat) (g905 : Nat) (W1035 : World) (hS : Still W1035 [] W1035) (hM : Mem w W1035 [⟨.slice (some ⟨g898, 0, none⟩) 2 2, 5, 1, nums .u8 [18, 52]⟩, ⟨.slice (some ⟨g905, 0, none⟩) 2 2, 5, 1, nums .u8 [255, 255]⟩, ⟨.slice A24 t23.1.length c26, 5, 1, nums .u8 t23.1⟩, ⟨.slice (some ⟨g19, 0, none⟩) 1 1, 5, 1, nums .u8 [1]⟩, ⟨.slice (some ⟨g14, 0, none⟩) 3 3, 5, 1, nums .u8 [1, 2, 3]⟩, ⟨.slice (some ⟨g9, 0, none⟩) 8 8, 5, 1, nums .u8 [0, 0, 0, 0, 0, 0, 1, 0]⟩, ⟨.slice (some ⟨g4, 0, none⟩) 4 4, 5, 1, nums .u8 [1, 2, 3, 4]⟩]) , RunAny Go.Proofs.Try.prog (Ret fun v w' => v = .bool r ∧ Mem w w' []) 13 (rest1 (pl Go.Proofs.Try.f13 [1, 1, 1, 1, 1, 1, 0])) 82 (opsOf (pl Go.Proofs.Try.f13 [1, 1, 1, 1, 1, 1, 0])) (Still W1035 []) 20 [0, 1, 2, 3, 4, 5, 6, 7, 8, 9, 20, 24, 10, 11, 12, 13, 14, 15, 16, 17, 18, 19] [(0, .int .i64 a0), (3, .int .u32 t8.1), (5, .int .u64 t13.1), (8, .bool t18.2), (10, .bool t23.2), (35, .bool (t8.1 == 67305985)), (37, .bool (t13.1 == 256)), (43, .bool false), (45, .bool (t583 == 3)), (47, .bool (t599 == 2147483648)), (53, .bool false), (54, .slice (some ⟨g898, 0, none⟩) 2 2), (58, .slice (some ⟨g905, 0, none⟩) 2 2)] W1035 := by
          intro g898 g905 W1035 hS hM 
          refine RunAny.call 21 (d := some 55) (g := 30) (args := #[.slice (some ⟨g898, 0, none⟩) 2 2, .int .i64 4]) (ready_of_cert hC30 (by kernel_rfl)) (by kernel_rfl) (words_Turn.calls k (some ⟨g898, 0, none⟩) 2 2 ([18, 52] : List Int) 4 t951 _ (hM.rd 0 rfl) ht951) (by rintro _ _ ⟨_, _, _, rfl, hM_⟩; exact hS.below hM_.below) ?_
          rintro _ W1036 ⟨A1037, n1038, c1039, rfl, hM_⟩
          obtain rfl : t951.length = n1038 := by have h_ := (hM_.rd 0 rfl).1; simpa [nums_length, bools_length, strs_length] using h_
          replace hS := hS.below hM_.below
          replace hM := hM.call hM_
          clear hM_ ht951
          refine RunAny.rebase hS ?_
          replace hS := Still.refl W1036 []
          refine RunAny.y 22 (side_of_cert hC30 (by kernel_rfl)) (str_y (d := some 56) (A := A1037) (m := t951.length) (c := c1039) (k2 := [.inRegion (opsOf (pl Go.Proofs.Try.f13 [1, 1, 1, 1, 1, 1, 0])) []]) t951 (by kernel_rfl)) (fun _ hs => ((hM.rd 0 rfl).still hs (by simp))) hS ?_
          refine RunAny.y 23 (side_of_cert hC30 (by kernel_rfl)) (yl_pure (d := some 57) (v := .bool ((strOf t951).toList == (⟨#[35, 65]⟩ : ByteArray).toList)) (k2 := [.inRegion (opsOf (pl Go.Proofs.Try.f13 [1, 1, 1, 1, 1, 1, 0])) []]) fun w => by kernel_rfl) (fun _ _ => trivial) hS ?_
          exact RunAny.same [0, 1, 2, 3, 4, 5, 6, 7, 8, 9, 20, 24, 10, 11, 12, 13, 14, 15, 16, 17, 18, 19, 21, 22, 23] (lst_of_mask (by kernel_rfl)) [0, 3, 5, 8, 10, 35, 37, 43, 45, 47, 53, 57, 58] (by kernel_rfl) (J971 g898 A1037 c1039 g905 _ hS (hM.pick [1, 0, 2, 3, 4, 5, 6, 7] rfl rfl))
        have J1041 : ∀ (g901 : Nat) (W1042 : World) (hS : Still W1042 [] W1042) (hM : Mem w W1042 [⟨.slice (some ⟨g901, 0, none⟩) 2 2, 5, 1, nums .u8 [255, 255]⟩, ⟨.slice A24 t23.1.length c26, 5, 1, nums .u8 t23.1⟩, ⟨.slice (some ⟨g19, 0, none⟩) 1 1, 5, 1, nums .u8 [1]⟩, ⟨.slice (some ⟨g14, 0, none⟩) 3 3, 5, 1, nums .u8 [1, 2, 3]⟩, ⟨.slice (some ⟨g9, 0, none⟩) 8 8, 5, 1, nums .u8 [0, 0, 0, 0, 0, 0, 1, 0]⟩, ⟨.slice (some ⟨g4, 0, none⟩) 4 4, 5, 1, nums .u8 [1, 2, 3, 4]⟩]) , RunAny Go.Proofs.Try.prog (Ret fun v w' => v = .bool r ∧ Mem w w' []) 13 (rest1 (pl Go.Proofs.Try.f13 [1, 1, 1, 1, 1, 1, 0])) 82 (opsOf (pl Go.Proofs.Try.f13 [1, 1, 1, 1, 1, 1, 0])) (Still W1042 []) 21 [0, 1, 2, 3, 4, 5, 6, 7, 8, 9, 24, 10, 11, 12, 13, 14, 15, 16, 17, 18, 19] [(0, .int .i64 a0), (3, .int .u32 t8.1), (5, .int .u64 t13.1), (8, .bool t18.2), (10, .bool t23.2), (35, .bool (t8.1 == 67305985)), (37, .bool (t13.1 == 256)), (43, .bool false), (45, .bool (t583 == 3)), (47, .bool (t599 == 2147483648)), (53, .bool false), (58, .slice (some ⟨g901, 0, none⟩) 2 2)] W1042 := by
          intro g901 W1042 hS hM 
          refine RunAny.new 20 5 1 2 (nums .u8 [18, 52]) (d := some 54) (k2 := [.inRegion (opsOf (pl Go.Proofs.Try.f13 [1, 1, 1, 1, 1, 1, 0])) []]) (ready_of_cert hC30 (by kernel_rfl)) hM (by simp [nums, bools, strs]) (by kernel_rfl) (by kernel_rfl) hS ?_
          intro g1043 W1044 hS hM
          refine RunAny.rebase hS ?_
          replace hS := Still.refl W1044 []
          exact RunAny.same [0, 1, 2, 3, 4, 5, 6, 7, 8, 9, 20, 24, 10, 11, 12, 13, 14, 15, 16, 17, 18, 19] (lst_of_mask (by kernel_rfl)) [0, 3, 5, 8, 10, 35, 37, 43, 45, 47, 53, 54, 58] (by kernel_rfl) (J1034 g1043 g901 _ hS (hM.pick [0, 1, 2, 3, 4, 5, 6] rfl rfl))
        have J1046 : ∀ (g898 : Nat) (W1047 : World) (hS : Still W1047 [] W1047) (hM : Mem w W1047 [⟨.slice (some ⟨g898, 0, none⟩) 2 2, 5, 1, nums .u8 [18, 52]⟩, ⟨.slice A24 t23.1.length c26, 5, 1, nums .u8 t23.1⟩, ⟨.slice (some ⟨g19, 0, none⟩) 1 1, 5, 1, nums .u8 [1]⟩, ⟨.slice (some ⟨g14, 0, none⟩) 3 3, 5, 1, nums .u8 [1, 2, 3]⟩, ⟨.slice (some ⟨g9, 0, none⟩) 8 8, 5, 1, nums .u8 [0, 0, 0, 0, 0, 0, 1, 0]⟩, ⟨.slice (some ⟨g4, 0, none⟩) 4 4, 5, 1, nums .u8 [1, 2, 3, 4]⟩]) , RunAny Go.Proofs.Try.prog (Ret fun v w' => v = .bool r ∧ Mem w w' []) 13 (rest1 (pl Go.Proofs.Try.f13 [1, 1, 1, 1, 1, 1, 0])) 82 (opsOf (pl Go.Proofs.Try.f13 [1, 1, 1, 1, 1, 1, 0])) (Still W1047 []) 21 [0, 1, 2, 3, 4, 5, 6, 7, 8, 9, 20, 10, 11, 12, 13, 14, 15, 16, 17, 18, 19] [(0, .int .i64 a0), (3, .int .u32 t8.1), (5, .int .u64 t13.1), (8, .bool t18.2), (10, .bool t23.2), (35, .bool (t8.1 == 67305985)), (37, .bool (t13.1 == 256)), (43, .bool false), (45, .bool (t583 == 3)), (47, .bool (t599 == 2147483648)), (53, .bool false), (54, .slice (some ⟨g898, 0, none⟩) 2 2)] W1047 := by
          intro g898 W1047 hS hM 
          refine RunAny.all [21, 24] (ready_of_cert hC30 (by kernel_rfl)) (by simp) ?_
          refine ⟨?_, ?_, trivial⟩
          · refine Stepped.call 21 (d := some 55) (g := 30) (args := #[.slice (some ⟨g898, 0, none⟩) 2 2, .int .i64 4]) (by kernel_rfl) (words_Turn.calls k (some ⟨g898, 0, none⟩) 2 2 ([18, 52] : List Int) 4 t951 _ (hM.rd 0 rfl) ht951) (by rintro _ _ ⟨_, _, _, rfl, hM_⟩; exact hS.below hM_.below) ?_
            rintro _ W1048 ⟨A1049, n1050, c1051, rfl, hM_⟩
            obtain rfl : t951.length = n1050 := by have h_ := (hM_.rd 0 rfl).1; simpa [nums_length, bools_length, strs_length] using h_
            replace hS := hS.below hM_.below
            replace hM := hM.call hM_
            clear hM_ ht951
            refine RunAny.rebase hS ?_
            replace hS := Still.refl W1048 []
            refine RunAny.y 22 (side_of_cert hC30 (by kernel_rfl)) (str_y (d := some 56) (A := A1049) (m := t951.length) (c := c1051) (k2 := [.inRegion (opsOf (pl Go.Proofs.Try.f13 [1, 1, 1, 1, 1, 1, 0])) []]) t951 (by kernel_rfl)) (fun _ hs => ((hM.rd 0 rfl).still hs (by simp))) hS ?_
            refine RunAny.y 23 (side_of_cert hC30 (by kernel_rfl)) (yl_pure (d := some 57) (v := .bool ((strOf t951).toList == (⟨#[35, 65]⟩ : ByteArray).toList)) (k2 := [.inRegion (opsOf (pl Go.Proofs.Try.f13 [1, 1, 1, 1, 1, 1, 0])) []]) fun w => by kernel_rfl) (fun _ _ => trivial) hS ?_
            exact RunAny.same [0, 1, 2, 3, 4, 5, 6, 7, 8, 9, 20, 10, 11, 12, 13, 14, 15, 16, 17, 18, 19, 21, 22, 23] (lst_of_mask (by kernel_rfl)) [0, 3, 5, 8, 10, 35, 37, 43, 45, 47, 53, 57] (by kernel_rfl) (J1029 g898 A1049 c1051 _ hS (hM.pick [1, 0, 2, 3, 4, 5, 6] rfl rfl))
          · refine Stepped.new 24 5 1 2 (nums .u8 [255, 255]) (d := some 58) (k2 := [.inRegion (opsOf (pl Go.Proofs.Try.f13 [1, 1, 1, 1, 1, 1, 0])) []]) hM (by simp [nums, bools, strs]) (by kernel_rfl) (by kernel_rfl) hS ?_
            intro g1053 W1054 hS hM
            refine RunAny.rebase hS ?_
            replace hS := Still.refl W1054 []
            exact RunAny.same [0, 1, 2, 3, 4, 5, 6, 7, 8, 9, 20, 24, 10, 11, 12, 13, 14, 15, 16, 17, 18, 19] (lst_of_mask (by kernel_rfl)) [0, 3, 5, 8, 10, 35, 37, 43, 45, 47, 53, 54, 58] (by kernel_rfl) (J1034 g898 g1053 _ hS (hM.pick [1, 0, 2, 3, 4, 5, 6] rfl rfl))
        have J1056 : ∀ (W1057 : World) (hS : Still W1057 [] W1057) (hM : Mem w W1057 [⟨.slice A24 t23.1.length c26, 5, 1, nums .u8 t23.1⟩, ⟨.slice (some ⟨g19, 0, none⟩) 1 1, 5, 1, nums .u8 [1]⟩, ⟨.slice (some ⟨g14, 0, none⟩) 3 3, 5, 1, nums .u8 [1, 2, 3]⟩, ⟨.slice (some ⟨g9, 0, none⟩) 8 8, 5, 1, nums .u8 [0, 0, 0, 0, 0, 0, 1, 0]⟩, ⟨.slice (some ⟨g4, 0, none⟩) 4 4, 5, 1, nums .u8 [1, 2, 3, 4]⟩]) , RunAny Go.Proofs.Try.prog (Ret fun v w' => v = .bool r ∧ Mem w w' []) 13 (rest1 (pl Go.Proofs.Try.f13 [1, 1, 1, 1, 1, 1, 0])) 82 (opsOf (pl Go.Proofs.Try.f13 [1, 1, 1, 1, 1, 1, 0])) (Still W1057 []) 22 [0, 1, 2, 3, 4, 5, 6, 7, 8, 9, 10, 11, 12, 13, 14, 15, 16, 17, 18, 19] [(0, .int .i64 a0), (3, .int .u32 t8.1), (5, .int .u64 t13.1), (8, .bool t18.2), (10, .bool t23.2), (35, .bool (t8.1 == 67305985)), (37, .bool (t13.1 == 256)), (43, .bool false), (45, .bool (t583 == 3)), (47, .bool (t599 == 2147483648)), (53, .bool false)] W1057 := by
          intro W1057 hS hM 
          refine RunAny.all [20, 24] (ready_of_cert hC30 (by kernel_rfl)) (by simp) ?_
          refine ⟨?_, ?_, trivial⟩
          · refine Stepped.new 20 5 1 2 (nums .u8 [18, 52]) (d := some 54) (k2 := [.inRegion (opsOf (pl Go.Proofs.Try.f13 [1, 1, 1, 1, 1, 1, 0])) []]) hM (by simp [nums, bools, strs]) (by kernel_rfl) (by kernel_rfl) hS ?_
            intro g1058 W1059 hS hM
            refine RunAny.rebase hS ?_
            replace hS := Still.refl W1059 []
            exact RunAny.same [0, 1, 2, 3, 4, 5, 6, 7, 8, 9, 20, 10, 11, 12, 13, 14, 15, 16, 17, 18, 19] (lst_of_mask (by kernel_rfl)) [0, 3, 5, 8, 10, 35, 37, 43, 45, 47, 53, 54] (by kernel_rfl) (J1046 g1058 _ hS (hM.pick [0, 1, 2, 3, 4, 5] rfl rfl))
          · refine Stepped.new 24 5 1 2 (nums .u8 [255, 255]) (d := some 58) (k2 := [.inRegion (opsOf (pl Go.Proofs.Try.f13 [1, 1, 1, 1, 1, 1, 0])) []]) hM (by simp [nums, bools, strs]) (by kernel_rfl) (by kernel_rfl) hS ?_
            intro g1061 W1062 hS hM
            refine RunAny.rebase hS ?_
            replace hS := Still.refl W1062 []
            exact RunAny.same [0, 1, 2, 3, 4, 5, 6, 7, 8, 9, 24, 10, 11, 12, 13, 14, 15, 16, 17, 18, 19] (lst_of_mask (by kernel_rfl)) [0, 3, 5, 8, 10, 35, 37, 43, 45, 47, 53, 58] (by kernel_rfl) (J1041 g1061 _ hS (hM.pick [0, 1, 2, 3, 4, 5] rfl rfl))
        have J1064 : ∀ (g898 : Nat) (g905 : Nat) (W1065 : World) (hS : Still W1065 [] W1065) (hM : Mem w W1065 [⟨.slice (some ⟨g898, 0, none⟩) 2 2, 5, 1, nums .u8 [18, 52]⟩, ⟨.slice (some ⟨g905, 0, none⟩) 2 2, 5, 1, nums .u8 [255, 255]⟩, ⟨.slice A24 t23.1.length c26, 5, 1, nums .u8 t23.1⟩, ⟨.slice (some ⟨g19, 0, none⟩) 1 1, 5, 1, nums .u8 [1]⟩, ⟨.slice (some ⟨g14, 0, none⟩) 3 3, 5, 1, nums .u8 [1, 2, 3]⟩, ⟨.slice (some ⟨g9, 0, none⟩) 8 8, 5, 1, nums .u8 [0, 0, 0, 0, 0, 0, 1, 0]⟩, ⟨.slice (some ⟨g4, 0, none⟩) 4 4, 5, 1, nums .u8 [1, 2, 3, 4]⟩]) , RunAny Go.Proofs.Try.prog (Ret fun v w' => v = .bool r ∧ Mem w w' []) 13 (rest1 (pl Go.Proofs.Try.f13 [1, 1, 1, 1, 1, 1, 0])) 82 (opsOf (pl Go.Proofs.Try.f13 [1, 1, 1, 1, 1, 1, 0])) (Still W1065 []) 26 [0, 1, 2, 3, 4, 5, 6, 7, 8, 9, 20, 24, 10, 11, 12, 13] [(0, .int .i64 a0), (3, .int .u32 t8.1), (5, .int .u64 t13.1), (8, .bool t18.2), (10, .bool t23.2), (35, .bool (t8.1 == 67305985)), (37, .bool (t13.1 == 256)), (43, .bool false), (45, .bool (t583 == 3)), (47, .bool (t599 == 2147483648)), (54, .slice (some ⟨g898, 0, none⟩) 2 2), (58, .slice (some ⟨g905, 0, none⟩) 2 2)] W1065 := by
          intro g898 g905 W1065 hS hM 
          refine RunAny.call 14 (d := some 48) (g := 28) (args := #[.int .u8 1, .int .i64 7]) (ready_of_cert hC30 (by kernel_rfl)) (by kernel_rfl) (words_Rol8.calls k 1 7 t616 _ ht616) (by rintro _ _ ⟨rfl, hM_⟩; exact hS.below hM_.below) ?_
          rintro _ W1066 ⟨rfl, hM_⟩
          replace hS := hS.below hM_.below
          replace hM := hM.call hM_
          clear hM_ ht616
          refine RunAny.rebase hS ?_
          replace hS := Still.refl W1066 []
          refine RunAny.y 15 (side_of_cert hC30 (by kernel_rfl)) (yl_pure (d := some 49) (v := .bool (t616 == 128)) (k2 := [.inRegion (opsOf (pl Go.Proofs.Try.f13 [1, 1, 1, 1, 1, 1, 0])) []]) fun w => by kernel_rfl) (fun _ _ => trivial) hS ?_
          refine RunAny.y 16 (side_of_cert hC30 (by kernel_rfl)) (yl_pure (d := some 50) (v := .bool (t616 == 128)) (k2 := [.inRegion (opsOf (pl Go.Proofs.Try.f13 [1, 1, 1, 1, 1, 1, 0])) []]) fun w => by kernel_rfl) (fun _ _ => trivial) hS ?_
          refine RunAny.know 50 (b := false) (by kernel_rfl) c618 ?_
          refine RunAny.off 17 (d := some 51) (side_of_cert hC30 (by kernel_rfl)) (by kernel_rfl) hS ?_
          refine RunAny.off 18 (d := some 52) (side_of_cert hC30 (by kernel_rfl)) (by kernel_rfl) hS ?_
          refine RunAny.y 19 (side_of_cert hC30 (by kernel_rfl)) (yl_pure (d := some 53) (v := .bool false) (k2 := [.inRegion (opsOf (pl Go.Proofs.Try.f13 [1, 1, 1, 1, 1, 1, 0])) []]) fun w => by kernel_rfl) (fun _ _ => trivial) hS ?_
          exact RunAny.same [0, 1, 2, 3, 4, 5, 6, 7, 8, 9, 20, 24, 10, 11, 12, 13, 14, 15, 16, 17, 18, 19] (lst_of_mask (by kernel_rfl)) [0, 3, 5, 8, 10, 35, 37, 43, 45, 47, 53, 54, 58] (by kernel_rfl) (J1034 g898 g905 _ hS (hM.pick [0, 1, 2, 3, 4, 5, 6] rfl rfl))
        have J1067 : ∀ (g901 : Nat) (W1068 : World) (hS : Still W1068 [] W1068) (hM : Mem w W1068 [⟨.slice (some ⟨g901, 0, none⟩) 2 2, 5, 1, nums .u8 [255, 255]⟩, ⟨.slice A24 t23.1.length c26, 5, 1, nums .u8 t23.1⟩, ⟨.slice (some ⟨g19, 0, none⟩) 1 1, 5, 1, nums .u8 [1]⟩, ⟨.slice (some ⟨g14, 0, none⟩) 3 3, 5, 1, nums .u8 [1, 2, 3]⟩, ⟨.slice (some ⟨g9, 0, none⟩) 8 8, 5, 1, nums .u8 [0, 0, 0, 0, 0, 0, 1, 0]⟩, ⟨.slice (some ⟨g4, 0, none⟩) 4 4, 5, 1, nums .u8 [1, 2, 3, 4]⟩]) , RunAny Go.Proofs.Try.prog (Ret fun v w' => v = .bool r ∧ Mem w w' []) 13 (rest1 (pl Go.Proofs.Try.f13 [1, 1, 1, 1, 1, 1, 0])) 82 (opsOf (pl Go.Proofs.Try.f13 [1, 1, 1, 1, 1, 1, 0])) (Still W1068 []) 27 [0, 1, 2, 3, 4, 5, 6, 7, 8, 9, 24, 10, 11, 12, 13] [(0, .int .i64 a0), (3, .int .u32 t8.1), (5, .int .u64 t13.1), (8, .bool t18.2), (10, .bool t23.2), (35, .bool (t8.1 == 67305985)), (37, .bool (t13.1 == 256)), (43, .bool false), (45, .bool (t583 == 3)), (47, .bool (t599 == 2147483648)), (58, .slice (some ⟨g901, 0, none⟩) 2 2)] W1068 := by
          intro g901 W1068 hS hM 
          refine RunAny.all [14, 20] (ready_of_cert hC30 (by kernel_rfl)) (by simp) ?_
          refine ⟨?_, ?_, trivial⟩
          · refine Stepped.call 14 (d := some 48) (g := 28) (args := #[.int .u8 1, .int .i64 7]) (by kernel_rfl) (words_Rol8.calls k 1 7 t616 _ ht616) (by rintro _ _ ⟨rfl, hM_⟩; exact hS.below hM_.below) ?_
            rintro _ W1069 ⟨rfl, hM_⟩
            replace hS := hS.below hM_.below
            replace hM := hM.call hM_
            clear hM_ ht616
            refine RunAny.rebase hS ?_
            replace hS := Still.refl W1069 []
            refine RunAny.y 15 (side_of_cert hC30 (by kernel_rfl)) (yl_pure (d := some 49) (v := .bool (t616 == 128)) (k2 := [.inRegion (opsOf (pl Go.Proofs.Try.f13 [1, 1, 1, 1, 1, 1, 0])) []]) fun w => by kernel_rfl) (fun _ _ => trivial) hS ?_
            refine RunAny.y 16 (side_of_cert hC30 (by kernel_rfl)) (yl_pure (d := some 50) (v := .bool (t616 == 128)) (k2 := [.inRegion (opsOf (pl Go.Proofs.Try.f13 [1, 1, 1, 1, 1, 1, 0])) []]) fun w => by kernel_rfl) (fun _ _ => trivial) hS ?_
            refine RunAny.know 50 (b := false) (by kernel_rfl) c618 ?_
            refine RunAny.off 17 (d := some 51) (side_of_cert hC30 (by kernel_rfl)) (by kernel_rfl) hS ?_
            refine RunAny.off 18 (d := some 52) (side_of_cert hC30 (by kernel_rfl)) (by kernel_rfl) hS ?_
            refine RunAny.y 19 (side_of_cert hC30 (by kernel_rfl)) (yl_pure (d := some 53) (v := .bool false) (k2 := [.inRegion (opsOf (pl Go.Proofs.Try.f13 [1, 1, 1, 1, 1, 1, 0])) []]) fun w => by kernel_rfl) (fun _ _ => trivial) hS ?_
            exact RunAny.same [0, 1, 2, 3, 4, 5, 6, 7, 8, 9, 24, 10, 11, 12, 13, 14, 15, 16, 17, 18, 19] (lst_of_mask (by kernel_rfl)) [0, 3, 5, 8, 10, 35, 37, 43, 45, 47, 53, 58] (by kernel_rfl) (J1041 g901 _ hS (hM.pick [0, 1, 2, 3, 4, 5] rfl rfl))
          · refine Stepped.new 20 5 1 2 (nums .u8 [18, 52]) (d := some 54) (k2 := [.inRegion (opsOf (pl Go.Proofs.Try.f13 [1, 1, 1, 1, 1, 1, 0])) []]) hM (by simp [nums, bools, strs]) (by kernel_rfl) (by kernel_rfl) hS ?_
            intro g1070 W1071 hS hM
            refine RunAny.rebase hS ?_
            replace hS := Still.refl W1071 []
            exact RunAny.same [0, 1, 2, 3, 4, 5, 6, 7, 8, 9, 20, 24, 10, 11, 12, 13] (lst_of_mask (by kernel_rfl)) [0, 3, 5, 8, 10, 35, 37, 43, 45, 47, 54, 58] (by kernel_rfl) (J1064 g1070 g901 _ hS (hM.pick [0, 1, 2, 3, 4, 5, 6] rfl rfl))
        have J1073 : ∀ (g898 : Nat) (W1074 : World) (hS : Still W1074 [] W1074) (hM : Mem w W1074 [⟨.slice (some ⟨g898, 0, none⟩) 2 2, 5, 1, nums .u8 [18, 52]⟩, ⟨.slice A24 t23.1.length c26, 5, 1, nums .u8 t23.1⟩, ⟨.slice (some ⟨g19, 0, none⟩) 1 1, 5, 1, nums .u8 [1]⟩, ⟨.slice (some ⟨g14, 0, none⟩) 3 3, 5, 1, nums .u8 [1, 2, 3]⟩, ⟨.slice (some ⟨g9, 0, none⟩) 8 8, 5, 1, nums .u8 [0, 0, 0, 0, 0, 0, 1, 0]⟩, ⟨.slice (some ⟨g4, 0, none⟩) 4 4, 5, 1, nums .u8 [1, 2, 3, 4]⟩]) , RunAny Go.Proofs.Try.prog (Ret fun v w' => v = .bool r ∧ Mem w w' []) 13 (rest1 (pl Go.Proofs.Try.f13 [1, 1, 1, 1, 1, 1, 0])) 82 (opsOf (pl Go.Proofs.Try.f13 [1, 1, 1, 1, 1, 1, 0])) (Still W1074 []) 27 [0, 1, 2, 3, 4, 5, 6, 7, 8, 9, 20, 10, 11, 12, 13] [(0, .int .i64 a0), (3, .int .u32 t8.1), (5, .int .u64 t13.1), (8, .bool t18.2), (10, .bool t23.2), (35, .bool (t8.1 == 67305985)), (37, .bool (t13.1 == 256)), (43, .bool false), (45, .bool (t583 == 3)), (47, .bool (t599 == 2147483648)), (54, .slice (some ⟨g898, 0, none⟩) 2 2)] W1074 := by
          intro g898 W1074 hS hM 
          refine RunAny.all [14, 24] (ready_of_cert hC30 (by kernel_rfl)) (by simp) ?_
          refine ⟨?_, ?_, trivial⟩
          · refine Stepped.call 14 (d := some 48) (g := 28) (args := #[.int .u8 1, .int .i64 7]) (by kernel_rfl) (words_Rol8.calls k 1 7 t616 _ ht616) (by rintro _ _ ⟨rfl, hM_⟩; exact hS.below hM_.below) ?_
            rintro _ W1075 ⟨rfl, hM_⟩
            replace hS := hS.below hM_.below
            replace hM := hM.call hM_
            clear hM_ ht616
            refine RunAny.rebase hS ?_
            replace hS := Still.refl W1075 []
            refine RunAny.y 15 (side_of_cert hC30 (by kernel_rfl)) (yl_pure (d := some 49) (v := .bool (t616 == 128)) (k2 := [.inRegion (opsOf (pl Go.Proofs.Try.f13 [1, 1, 1, 1, 1, 1, 0])) []]) fun w => by kernel_rfl) (fun _ _ => trivial) hS ?_
            refine RunAny.y 16 (side_of_cert hC30 (by kernel_rfl)) (yl_pure (d := some 50) (v := .bool (t616 == 128)) (k2 := [.inRegion (opsOf (pl Go.Proofs.Try.f13 [1, 1, 1, 1, 1, 1, 0])) []]) fun w => by kernel_rfl) (fun _ _ => trivial) hS ?_
            refine RunAny.know 50 (b := false) (by kernel_rfl) c618 ?_
            refine RunAny.off 17 (d := some 51) (side_of_cert hC30 (by kernel_rfl)) (by kernel_rfl) hS ?_
            refine RunAny.off 18 (d := some 52) (side_of_cert hC30 (by kernel_rfl)) (by kernel_rfl) hS ?_
            refine RunAny.y 19 (side_of_cert hC30 (by kernel_rfl)) (yl_pure (d := some 53) (v := .bool false) (k2 := [.inRegion (opsOf (pl Go.Proofs.Try.f13 [1, 1, 1, 1, 1, 1, 0])) []]) fun w => by kernel_rfl) (fun _ _ => trivial) hS ?_
            exact RunAny.same [0, 1, 2, 3, 4, 5, 6, 7, 8, 9, 20, 10, 11, 12, 13, 14, 15, 16, 17, 18, 19] (lst_of_mask (by kernel_rfl)) [0, 3, 5, 8, 10, 35, 37, 43, 45, 47, 53, 54] (by kernel_rfl) (J1046 g898 _ hS (hM.pick [0, 1, 2, 3, 4, 5] rfl rfl))
          · refine Stepped.new 24 5 1 2 (nums .u8 [255, 255]) (d := some 58) (k2 := [.inRegion (opsOf (pl Go.Proofs.Try.f13 [1, 1, 1, 1, 1, 1, 0])) []]) hM (by simp [nums, bools, strs]) (by kernel_rfl) (by kernel_rfl) hS ?_
            intro g1076 W1077 hS hM
            refine RunAny.rebase hS ?_
            replace hS := Still.refl W1077 []
            exact RunAny.same [0, 1, 2, 3, 4, 5, 6, 7, 8, 9, 20, 24, 10, 11, 12, 13] (lst_of_mask (by kernel_rfl)) [0, 3, 5, 8, 10, 35, 37, 43, 45, 47, 54, 58] (by kernel_rfl) (J1064 g898 g1076 _ hS (hM.pick [1, 0, 2, 3, 4, 5, 6] rfl rfl))
        have J1079 : ∀ (g898 : Nat) (g905 : Nat) (W1080 : World) (hS : Still W1080 [] W1080) (hM : Mem w W1080 [⟨.slice (some ⟨g898, 0, none⟩) 2 2, 5, 1, nums .u8 [18, 52]⟩, ⟨.slice (some ⟨g905, 0, none⟩) 2 2, 5, 1, nums .u8 [255, 255]⟩, ⟨.slice A24 t23.1.length c26, 5, 1, nums .u8 t23.1⟩, ⟨.slice (some ⟨g19, 0, none⟩) 1 1, 5, 1, nums .u8 [1]⟩, ⟨.slice (some ⟨g14, 0, none⟩) 3 3, 5, 1, nums .u8 [1, 2, 3]⟩, ⟨.slice (some ⟨g9, 0, none⟩) 8 8, 5, 1, nums .u8 [0, 0, 0, 0, 0, 0, 1, 0]⟩, ⟨.slice (some ⟨g4, 0, none⟩) 4 4, 5, 1, nums .u8 [1, 2, 3, 4]⟩]) , RunAny Go.Proofs.Try.prog (Ret fun v w' => v = .bool r ∧ Mem w w' []) 13 (rest1 (pl Go.Proofs.Try.f13 [1, 1, 1, 1, 1, 1, 0])) 82 (opsOf (pl Go.Proofs.Try.f13 [1, 1, 1, 1, 1, 1, 0])) (Still W1080 []) 28 [0, 1, 2, 3, 4, 5, 6, 7, 8, 9, 20, 24, 10, 11] [(0, .int .i64 a0), (3, .int .u32 t8.1), (5, .int .u64 t13.1), (8, .bool t18.2), (10, .bool t23.2), (35, .bool (t8.1 == 67305985)), (37, .bool (t13.1 == 256)), (43, .bool false), (45, .bool (t583 == 3)), (54, .slice (some ⟨g898, 0, none⟩) 2 2), (58, .slice (some ⟨g905, 0, none⟩) 2 2)] W1080 := by
          intro g898 g905 W1080 hS hM 
          refine RunAny.call 12 (d := some 46) (g := 26) (args := #[.int .u32 1, .int .i64 (-1)]) (ready_of_cert hC30 (by kernel_rfl)) (by kernel_rfl) (words_Rol32.calls k 1 (-1) t599 _ ht599) (by rintro _ _ ⟨rfl, hM_⟩; exact hS.below hM_.below) ?_
          rintro _ W1081 ⟨rfl, hM_⟩
          replace hS := hS.below hM_.below
          replace hM := hM.call hM_
          clear hM_ ht599
          refine RunAny.rebase hS ?_
          replace hS := Still.refl W1081 []
          refine RunAny.y 13 (side_of_cert hC30 (by kernel_rfl)) (yl_pure (d := some 47) (v := .bool (t599 == 2147483648)) (k2 := [.inRegion (opsOf (pl Go.Proofs.Try.f13 [1, 1, 1, 1, 1, 1, 0])) []]) fun w => by kernel_rfl) (fun _ _ => trivial) hS ?_
          exact RunAny.same [0, 1, 2, 3, 4, 5, 6, 7, 8, 9, 20, 24, 10, 11, 12, 13] (lst_of_mask (by kernel_rfl)) [0, 3, 5, 8, 10, 35, 37, 43, 45, 47, 54, 58] (by kernel_rfl) (J1064 g898 g905 _ hS (hM.pick [0, 1, 2, 3, 4, 5, 6] rfl rfl))
        have J1082 : ∀ (W1083 : World) (hS : Still W1083 [] W1083) (hM : Mem w W1083 [⟨.slice A24 t23.1.length c26, 5, 1, nums .u8 t23.1⟩, ⟨.slice (some ⟨g19, 0, none⟩) 1 1, 5, 1, nums .u8 [1]⟩, ⟨.slice (some ⟨g14, 0, none⟩) 3 3, 5, 1, nums .u8 [1, 2, 3]⟩, ⟨.slice (some ⟨g9, 0, none⟩) 8 8, 5, 1, nums .u8 [0, 0, 0, 0, 0, 0, 1, 0]⟩, ⟨.slice (some ⟨g4, 0, none⟩) 4 4, 5, 1, nums .u8 [1, 2, 3, 4]⟩]) , RunAny Go.Proofs.Try.prog (Ret fun v w' => v = .bool r ∧ Mem w w' []) 13 (rest1 (pl Go.Proofs.Try.f13 [1, 1, 1, 1, 1, 1, 0])) 82 (opsOf (pl Go.Proofs.Try.f13 [1, 1, 1, 1, 1, 1, 0])) (Still W1083 []) 28 [0, 1, 2, 3, 4, 5, 6, 7, 8, 9, 10, 11, 12, 13] [(0, .int .i64 a0), (3, .int .u32 t8.1), (5, .int .u64 t13.1), (8, .bool t18.2), (10, .bool t23.2), (35, .bool (t8.1 == 67305985)), (37, .bool (t13.1 == 256)), (43, .bool false), (45, .bool (t583 == 3)), (47, .bool (t599 == 2147483648))] W1083 := by
          intro W1083 hS hM 
          refine RunAny.all [14, 20, 24] (ready_of_cert hC30 (by kernel_rfl)) (by simp) ?_
          refine ⟨?_, ?_, ?_, trivial⟩
          · refine Stepped.call 14 (d := some 48) (g := 28) (args := #[.int .u8 1, .int .i64 7]) (by kernel_rfl) (words_Rol8.calls k 1 7 t616 _ ht616) (by rintro _ _ ⟨rfl, hM_⟩; exact hS.below hM_.below) ?_
            rintro _ W1084 ⟨rfl, hM_⟩
            replace hS := hS.below hM_.below
            replace hM := hM.call hM_
            clear hM_ ht616
            refine RunAny.rebase hS ?_
            replace hS := Still.refl W1084 []
            refine RunAny.y 15 (side_of_cert hC30 (by kernel_rfl)) (yl_pure (d := some 49) (v := .bool (t616 == 128)) (k2 := [.inRegion (opsOf (pl Go.Proofs.Try.f13 [1, 1, 1, 1, 1, 1, 0])) []]) fun w => by kernel_rfl) (fun _ _ => trivial) hS ?_
            refine RunAny.y 16 (side_of_cert hC30 (by kernel_rfl)) (yl_pure (d := some 50) (v := .bool (t616 == 128)) (k2 := [.inRegion (opsOf (pl Go.Proofs.Try.f13 [1, 1, 1, 1, 1, 1, 0])) []]) fun w => by kernel_rfl) (fun _ _ => trivial) hS ?_
            refine RunAny.know 50 (b := false) (by kernel_rfl) c618 ?_
            refine RunAny.off 17 (d := some 51) (side_of_cert hC30 (by kernel_rfl)) (by kernel_rfl) hS ?_
            refine RunAny.off 18 (d := some 52) (side_of_cert hC30 (by kernel_rfl)) (by kernel_rfl) hS ?_
            refine RunAny.y 19 (side_of_cert hC30 (by kernel_rfl)) (yl_pure (d := some 53) (v := .bool false) (k2 := [.inRegion (opsOf (pl Go.Proofs.Try.f13 [1, 1, 1, 1, 1, 1, 0])) []]) fun w => by kernel_rfl) (fun _ _ => trivial) hS ?_
            exact RunAny.same [0, 1, 2, 3, 4, 5, 6, 7, 8, 9, 10, 11, 12, 13, 14, 15, 16, 17, 18, 19] (lst_of_mask (by kernel_rfl)) [0, 3, 5, 8, 10, 35, 37, 43, 45, 47, 53] (by kernel_rfl) (J1056 _ hS (hM.pick [0, 1, 2, 3, 4] rfl rfl))
          · refine Stepped.new 20 5 1 2 (nums .u8 [18, 52]) (d := some 54) (k2 := [.inRegion (opsOf (pl Go.Proofs.Try.f13 [1, 1, 1, 1, 1, 1, 0])) []]) hM (by simp [nums, bools, strs]) (by kernel_rfl) (by kernel_rfl) hS ?_
            intro g1085 W1086 hS hM
            refine RunAny.rebase hS ?_
            replace hS := Still.refl W1086 []
            exact RunAny.same [0, 1, 2, 3, 4, 5, 6, 7, 8, 9, 20, 10, 11, 12, 13] (lst_of_mask (by kernel_rfl)) [0, 3, 5, 8, 10, 35, 37, 43, 45, 47, 54] (by kernel_rfl) (J1073 g1085 _ hS (hM.pick [0, 1, 2, 3, 4, 5] rfl rfl))
          · refine Stepped.new 24 5 1 2 (nums .u8 [255, 255]) (d := some 58) (k2 := [.inRegion (opsOf (pl Go.Proofs.Try.f13 [1, 1, 1, 1, 1, 1, 0])) []]) hM (by simp [nums, bools, strs]) (by kernel_rfl) (by kernel_rfl) hS ?_
            intro g1088 W1089 hS hM
            refine RunAny.rebase hS ?_
            replace hS := Still.refl W1089 []
            exact RunAny.same [0, 1, 2, 3, 4, 5, 6, 7, 8, 9, 24, 10, 11, 12, 13] (lst_of_mask (by kernel_rfl)) [0, 3, 5, 8, 10, 35, 37, 43, 45, 47, 58] (by kernel_rfl) (J1067 g1088 _ hS (hM.pick [0, 1, 2, 3, 4, 5] rfl rfl))
        have J1091 : ∀ (g901 : Nat) (W1092 : World) (hS : Still W1092 [] W1092) (hM : Mem w W1092 [⟨.slice (some ⟨g901, 0, none⟩) 2 2, 5, 1, nums .u8 [255, 255]⟩, ⟨.slice A24 t23.1.length c26, 5, 1, nums .u8 t23.1⟩, ⟨.slice (some ⟨g19, 0, none⟩) 1 1, 5, 1, nums .u8 [1]⟩, ⟨.slice (some ⟨g14, 0, none⟩) 3 3, 5, 1, nums .u8 [1, 2, 3]⟩, ⟨.slice (some ⟨g9, 0, none⟩) 8 8, 5, 1, nums .u8 [0, 0, 0, 0, 0, 0, 1, 0]⟩, ⟨.slice (some ⟨g4, 0, none⟩) 4 4, 5, 1, nums .u8 [1, 2, 3, 4]⟩]) , RunAny Go.Proofs.Try.prog (Ret fun v w' => v = .bool r ∧ Mem w w' []) 13 (rest1 (pl Go.Proofs.Try.f13 [1, 1, 1, 1, 1, 1, 0])) 82 (opsOf (pl Go.Proofs.Try.f13 [1, 1, 1, 1, 1, 1, 0])) (Still W1092 []) 29 [0, 1, 2, 3, 4, 5, 6, 7, 8, 9, 24, 10, 11] [(0, .int .i64 a0), (3, .int .u32 t8.1), (5, .int .u64 t13.1), (8, .bool t18.2), (10, .bool t23.2), (35, .bool (t8.1 == 67305985)), (37, .bool (t13.1 == 256)), (43, .bool false), (45, .bool (t583 == 3)), (58, .slice (some ⟨g901, 0, none⟩) 2 2)] W1092 := by
          intro g901 W1092 hS hM 
          refine RunAny.all [12, 20] (ready_of_cert hC30 (by kernel_rfl)) (by simp) ?_
          refine ⟨?_, ?_, trivial⟩
          · refine Stepped.call 12 (d := some 46) (g := 26) (args := #[.int .u32 1, .int .i64 (-1)]) (by kernel_rfl) (words_Rol32.calls k 1 (-1) t599 _ ht599) (by rintro _ _ ⟨rfl, hM_⟩; exact hS.below hM_.below) ?_
            rintro _ W1093 ⟨rfl, hM_⟩
            replace hS := hS.below hM_.below
            replace hM := hM.call hM_
            clear hM_ ht599
            refine RunAny.rebase hS ?_
            replace hS := Still.refl W1093 []
            refine RunAny.y 13 (side_of_cert hC30 (by kernel_rfl)) (yl_pure (d := some 47) (v := .bool (t599 == 2147483648)) (k2 := [.inRegion (opsOf (pl Go.Proofs.Try.f13 [1, 1, 1, 1, 1, 1, 0])) []]) fun w => by kernel_rfl) (fun _ _ => trivial) hS ?_
            exact RunAny.same [0, 1, 2, 3, 4, 5, 6, 7, 8, 9, 24, 10, 11, 12, 13] (lst_of_mask (by kernel_rfl)) [0, 3, 5, 8, 10, 35, 37, 43, 45, 47, 58] (by kernel_rfl) (J1067 g901 _ hS (hM.pick [0, 1, 2, 3, 4, 5] rfl rfl))
          · refine Stepped.new 20 5 1 2 (nums .u8 [18, 52]) (d := some 54) (k2 := [.inRegion (opsOf (pl Go.Proofs.Try.f13 [1, 1, 1, 1, 1, 1, 0])) []]) hM (by simp [nums, bools, strs]) (by kernel_rfl) (by kernel_rfl) hS ?_
            intro g1094 W1095 hS hM
            refine RunAny.rebase hS ?_
            replace hS := Still.refl W1095 []
            exact RunAny.same [0, 1, 2, 3, 4, 5, 6, 7, 8, 9, 20, 24, 10, 11] (lst_of_mask (by kernel_rfl)) [0, 3, 5, 8, 10, 35, 37, 43, 45, 54, 58] (by kernel_rfl) (J1079 g1094 g901 _ hS (hM.pick [0, 1, 2, 3, 4, 5, 6] rfl rfl))
        have J1097 : ∀ (g898 : Nat) (W1098 : World) (hS : Still W1098 [] W1098) (hM : Mem w W1098 [⟨.slice (some ⟨g898, 0, none⟩) 2 2, 5, 1, nums .u8 [18, 52]⟩, ⟨.slice A24 t23.1.length c26, 5, 1, nums .u8 t23.1⟩, ⟨.slice (some ⟨g19, 0, none⟩) 1 1, 5, 1, nums .u8 [1]⟩, ⟨.slice (some ⟨g14, 0, none⟩) 3 3, 5, 1, nums .u8 [1, 2, 3]⟩, ⟨.slice (some ⟨g9, 0, none⟩) 8 8, 5, 1, nums .u8 [0, 0, 0, 0, 0, 0, 1, 0]⟩, ⟨.slice (some ⟨g4, 0, none⟩) 4 4, 5, 1, nums .u8 [1, 2, 3, 4]⟩]) , RunAny Go.Proofs.Try.prog (Ret fun v w' => v = .bool r ∧ Mem w w' []) 13 (rest1 (pl Go.Proofs.Try.f13 [1, 1, 1, 1, 1, 1, 0])) 82 (opsOf (pl Go.Proofs.Try.f13 [1, 1, 1, 1, 1, 1, 0])) (Still W1098 []) 29 [0, 1, 2, 3, 4, 5, 6, 7, 8, 9, 20, 10, 11] [(0, .int .i64 a0), (3, .int .u32 t8.1), (5, .int .u64 t13.1), (8, .bool t18.2), (10, .bool t23.2), (35, .bool (t8.1 == 67305985)), (37, .bool (t13.1 == 256)), (43, .bool false), (45, .bool (t583 == 3)), (54, .slice (some ⟨g898, 0, none⟩) 2 2)] W1098 := by
          intro g898 W1098 hS hM 
          refine RunAny.all [12, 24] (ready_of_cert hC30 (by kernel_rfl)) (by simp) ?_
          refine ⟨?_, ?_, trivial⟩
          · refine Stepped.call 12 (d := some 46) (g := 26) (args := #[.int .u32 1, .int .i64 (-1)]) (by kernel_rfl) (words_Rol32.calls k 1 (-1) t599 _ ht599) (by rintro _ _ ⟨rfl, hM_⟩; exact hS.below hM_.below) ?_
            rintro _ W1099 ⟨rfl, hM_⟩
            replace hS := hS.below hM_.below
            replace hM := hM.call hM_
            clear hM_ ht599
            refine RunAny.rebase hS ?_
            replace hS := Still.refl W1099 []
            refine RunAny.y 13 (side_of_cert hC30 (by kernel_rfl)) (yl_pure (d := some 47) (v := .bool (t599 == 2147483648)) (k2 := [.inRegion (opsOf (pl Go.Proofs.Try.f13 [1, 1, 1, 1, 1, 1, 0])) []]) fun w => by kernel_rfl) (fun _ _ => trivial) hS ?_
            exact RunAny.same [0, 1, 2, 3, 4, 5, 6, 7, 8, 9, 20, 10, 11, 12, 13] (lst_of_mask (by kernel_rfl)) [0, 3, 5, 8, 10, 35, 37, 43, 45, 47, 54] (by kernel_rfl) (J1073 g898 _ hS (hM.pick [0, 1, 2, 3, 4, 5] rfl rfl))
          · refine Stepped.new 24 5 1 2 (nums .u8 [255, 255]) (d := some 58) (k2 := [.inRegion (opsOf (pl Go.Proofs.Try.f13 [1, 1, 1, 1, 1, 1, 0])) []]) hM (by simp [nums, bools, strs]) (by kernel_rfl) (by kernel_rfl) hS ?_
            intro g1100 W1101 hS hM
            refine RunAny.rebase hS ?_
            replace hS := Still.refl W1101 []
            exact RunAny.same [0, 1, 2, 3, 4, 5, 6, 7, 8, 9, 20, 24, 10, 11] (lst_of_mask (by kernel_rfl)) [0, 3, 5, 8, 10, 35, 37, 43, 45, 54, 58] (by kernel_rfl) (J1079 g898 g1100 _ hS (hM.pick [1, 0, 2, 3, 4, 5, 6] rfl rfl))
        have J1103 : ∀ (g898 : Nat) (g905 : Nat) (W1104 : World) (hS : Still W1104 [] W1104) (hM : Mem w W1104 [⟨.slice (some ⟨g898, 0, none⟩) 2 2, 5, 1, nums .u8 [18, 52]⟩, ⟨.slice (some ⟨g905, 0, none⟩) 2 2, 5, 1, nums .u8 [255, 255]⟩, ⟨.slice A24 t23.1.length c26, 5, 1, nums .u8 t23.1⟩, ⟨.slice (some ⟨g19, 0, none⟩) 1 1, 5, 1, nums .u8 [1]⟩, ⟨.slice (some ⟨g14, 0, none⟩) 3 3, 5, 1, nums .u8 [1, 2, 3]⟩, ⟨.slice (some ⟨g9, 0, none⟩) 8 8, 5, 1, nums .u8 [0, 0, 0, 0, 0, 0, 1, 0]⟩, ⟨.slice (some ⟨g4, 0, none⟩) 4 4, 5, 1, nums .u8 [1, 2, 3, 4]⟩]) , RunAny Go.Proofs.Try.prog (Ret fun v w' => v = .bool r ∧ Mem w w' []) 13 (rest1 (pl Go.Proofs.Try.f13 [1, 1, 1, 1, 1, 1, 0])) 82 (opsOf (pl Go.Proofs.Try.f13 [1, 1, 1, 1, 1, 1, 0])) (Still W1104 []) 30 [0, 1, 2, 3, 4, 5, 6, 7, 8, 9, 20, 24] [(0, .int .i64 a0), (3, .int .u32 t8.1), (5, .int .u64 t13.1), (8, .bool t18.2), (10, .bool t23.2), (35, .bool (t8.1 == 67305985)), (37, .bool (t13.1 == 256)), (43, .bool false), (54, .slice (some ⟨g898, 0, none⟩) 2 2), (58, .slice (some ⟨g905, 0, none⟩) 2 2)] W1104 := by
          intro g898 g905 W1104 hS hM 
          refine RunAny.call 10 (d := some 44) (g := 26) (args := #[.int .u32 2147483649, .int .i64 1]) (ready_of_cert hC30 (by kernel_rfl)) (by kernel_rfl) (words_Rol32.calls k 2147483649 1 t583 _ ht583) (by rintro _ _ ⟨rfl, hM_⟩; exact hS.below hM_.below) ?_
          rintro _ W1105 ⟨rfl, hM_⟩
          replace hS := hS.below hM_.below
          replace hM := hM.call hM_
          clear hM_ ht583
          refine RunAny.rebase hS ?_
          replace hS := Still.refl W1105 []
          refine RunAny.y 11 (side_of_cert hC30 (by kernel_rfl)) (yl_pure (d := some 45) (v := .bool (t583 == 3)) (k2 := [.inRegion (opsOf (pl Go.Proofs.Try.f13 [1, 1, 1, 1, 1, 1, 0])) []]) fun w => by kernel_rfl) (fun _ _ => trivial) hS ?_
          exact RunAny.same [0, 1, 2, 3, 4, 5, 6, 7, 8, 9, 20, 24, 10, 11] (lst_of_mask (by kernel_rfl)) [0, 3, 5, 8, 10, 35, 37, 43, 45, 54, 58] (by kernel_rfl) (J1079 g898 g905 _ hS (hM.pick [0, 1, 2, 3, 4, 5, 6] rfl rfl))
        have J1106 : ∀ (W1107 : World) (hS : Still W1107 [] W1107) (hM : Mem w W1107 [⟨.slice A24 t23.1.length c26, 5, 1, nums .u8 t23.1⟩, ⟨.slice (some ⟨g19, 0, none⟩) 1 1, 5, 1, nums .u8 [1]⟩, ⟨.slice (some ⟨g14, 0, none⟩) 3 3, 5, 1, nums .u8 [1, 2, 3]⟩, ⟨.slice (some ⟨g9, 0, none⟩) 8 8, 5, 1, nums .u8 [0, 0, 0, 0, 0, 0, 1, 0]⟩, ⟨.slice (some ⟨g4, 0, none⟩) 4 4, 5, 1, nums .u8 [1, 2, 3, 4]⟩]) , RunAny Go.Proofs.Try.prog (Ret fun v w' => v = .bool r ∧ Mem w w' []) 13 (rest1 (pl Go.Proofs.Try.f13 [1, 1, 1, 1, 1, 1, 0])) 82 (opsOf (pl Go.Proofs.Try.f13 [1, 1, 1, 1, 1, 1, 0])) (Still W1107 []) 30 [0, 1, 2, 3, 4, 5, 6, 7, 8, 9, 10, 11] [(0, .int .i64 a0), (3, .int .u32 t8.1), (5, .int .u64 t13.1), (8, .bool t18.2), (10, .bool t23.2), (35, .bool (t8.1 == 67305985)), (37, .bool (t13.1 == 256)), (43, .bool false), (45, .bool (t583 == 3))] W1107 := by
          intro W1107 hS hM 
          refine RunAny.all [12, 20, 24] (ready_of_cert hC30 (by kernel_rfl)) (by simp) ?_
          refine ⟨?_, ?_, ?_, trivial⟩
          · refine Stepped.call 12 (d := some 46) (g := 26) (args := #[.int .u32 1, .int .i64 (-1)]) (by kernel_rfl) (words_Rol32.calls k 1 (-1) t599 _ ht599) (by rintro _ _ ⟨rfl, hM_⟩; exact hS.below hM_.below) ?_
            rintro _ W1108 ⟨rfl, hM_⟩
            replace hS := hS.below hM_.below
            replace hM := hM.call hM_
            clear hM_ ht599
            refine RunAny.rebase hS ?_
            replace hS := Still.refl W1108 []
            refine RunAny.y 13 (side_of_cert hC30 (by kernel_rfl)) (yl_pure (d := some 47) (v := .bool (t599 == 2147483648)) (k2 := [.inRegion (opsOf (pl Go.Proofs.Try.f13 [1, 1, 1, 1, 1, 1, 0])) []]) fun w => by kernel_rfl) (fun _ _ => trivial) hS ?_
            exact RunAny.same [0, 1, 2, 3, 4, 5, 6, 7, 8, 9, 10, 11, 12, 13] (lst_of_mask (by kernel_rfl)) [0, 3, 5, 8, 10, 35, 37, 43, 45, 47] (by kernel_rfl) (J1082 _ hS (hM.pick [0, 1, 2, 3, 4] rfl rfl))
          · refine Stepped.new 20 5 1 2 (nums .u8 [18, 52]) (d := some 54) (k2 := [.inRegion (opsOf (pl Go.Proofs.Try.f13 [1, 1, 1, 1, 1, 1, 0])) []]) hM (by simp [nums, bools, strs]) (by kernel_rfl) (by kernel_rfl) hS ?_
            intro g1109 W1110 hS hM
            refine RunAny.rebase hS ?_
            replace hS := Still.refl W1110 []
            exact RunAny.same [0, 1, 2, 3, 4, 5, 6, 7, 8, 9, 20, 10, 11] (lst_of_mask (by kernel_rfl)) [0, 3, 5, 8, 10, 35, 37, 43, 45, 54] (by kernel_rfl) (J1097 g1109 _ hS (hM.pick [0, 1, 2, 3, 4, 5] rfl rfl))
          · refine Stepped.new 24 5 1 2 (nums .u8 [255, 255]) (d := some 58) (k2 := [.inRegion (opsOf (pl Go.Proofs.Try.f13 [1, 1, 1, 1, 1, 1, 0])) []]) hM (by simp [nums, bools, strs]) (by kernel_rfl) (by kernel_rfl) hS ?_
            intro g1112 W1113 hS hM
            refine RunAny.rebase hS ?_
            replace hS := Still.refl W1113 []
            exact RunAny.same [0, 1, 2, 3, 4, 5, 6, 7, 8, 9, 24, 10, 11] (lst_of_mask (by kernel_rfl)) [0, 3, 5, 8, 10, 35, 37, 43, 45, 58] (by kernel_rfl) (J1091 g1112 _ hS (hM.pick [0, 1, 2, 3, 4, 5] rfl rfl))
        have J1115 : ∀ (g901 : Nat) (W1116 : World) (hS : Still W1116 [] W1116) (hM : Mem w W1116 [⟨.slice (some ⟨g901, 0, none⟩) 2 2, 5, 1, nums .u8 [255, 255]⟩, ⟨.slice A24 t23.1.length c26, 5, 1, nums .u8 t23.1⟩, ⟨.slice (some ⟨g19, 0, none⟩) 1 1, 5, 1, nums .u8 [1]⟩, ⟨.slice (some ⟨g14, 0, none⟩) 3 3, 5, 1, nums .u8 [1, 2, 3]⟩, ⟨.slice (some ⟨g9, 0, none⟩) 8 8, 5, 1, nums .u8 [0, 0, 0, 0, 0, 0, 1, 0]⟩, ⟨.slice (some ⟨g4, 0, none⟩) 4 4, 5, 1, nums .u8 [1, 2, 3, 4]⟩]) , RunAny Go.Proofs.Try.prog (Ret fun v w' => v = .bool r ∧ Mem w w' []) 13 (rest1 (pl Go.Proofs.Try.f13 [1, 1, 1, 1, 1, 1, 0])) 82 (opsOf (pl Go.Proofs.Try.f13 [1, 1, 1, 1, 1, 1, 0])) (Still W1116 []) 31 [0, 1, 2, 3, 4, 5, 6, 7, 8, 9, 24] [(0, .int .i64 a0), (3, .int .u32 t8.1), (5, .int .u64 t13.1), (8, .bool t18.2), (10, .bool t23.2), (35, .bool (t8.1 == 67305985)), (37, .bool (t13.1 == 256)), (43, .bool false), (58, .slice (some ⟨g901, 0, none⟩) 2 2)] W1116 := by
          intro g901 W1116 hS hM 
          refine RunAny.all [10, 20] (ready_of_cert hC30 (by kernel_rfl)) (by simp) ?_
          refine ⟨?_, ?_, trivial⟩
          · refine Stepped.call 10 (d := some 44) (g := 26) (args := #[.int .u32 2147483649, .int .i64 1]) (by kernel_rfl) (words_Rol32.calls k 2147483649 1 t583 _ ht583) (by rintro _ _ ⟨rfl, hM_⟩; exact hS.below hM_.below) ?_
            rintro _ W1117 ⟨rfl, hM_⟩
            replace hS := hS.below hM_.below
            replace hM := hM.call hM_
            clear hM_ ht583
            refine RunAny.rebase hS ?_
            replace hS := Still.refl W1117 []
            refine RunAny.y 11 (side_of_cert hC30 (by kernel_rfl)) (yl_pure (d := some 45) (v := .bool (t583 == 3)) (k2 := [.inRegion (opsOf (pl Go.Proofs.Try.f13 [1, 1, 1, 1, 1, 1, 0])) []]) fun w => by kernel_rfl) (fun _ _ => trivial) hS ?_
            exact RunAny.same [0, 1, 2, 3, 4, 5, 6, 7, 8, 9, 24, 10, 11] (lst_of_mask (by kernel_rfl)) [0, 3, 5, 8, 10, 35, 37, 43, 45, 58] (by kernel_rfl) (J1091 g901 _ hS (hM.pick [0, 1, 2, 3, 4, 5] rfl rfl))
          · refine Stepped.new 20 5 1 2 (nums .u8 [18, 52]) (d := some 54) (k2 := [.inRegion (opsOf (pl Go.Proofs.Try.f13 [1, 1, 1, 1, 1, 1, 0])) []]) hM (by simp [nums, bools, strs]) (by kernel_rfl) (by kernel_rfl) hS ?_
            intro g1118 W1119 hS hM
            refine RunAny.rebase hS ?_
            replace hS := Still.refl W1119 []
            exact RunAny.same [0, 1, 2, 3, 4, 5, 6, 7, 8, 9, 20, 24] (lst_of_mask (by kernel_rfl)) [0, 3, 5, 8, 10, 35, 37, 43, 54, 58] (by kernel_rfl) (J1103 g1118 g901 _ hS (hM.pick [0, 1, 2, 3, 4, 5, 6] rfl rfl))
        have J1121 : ∀ (g898 : Nat) (W1122 : World) (hS : Still W1122 [] W1122) (hM : Mem w W1122 [⟨.slice (some ⟨g898, 0, none⟩) 2 2, 5, 1, nums .u8 [18, 52]⟩, ⟨.slice A24 t23.1.length c26, 5, 1, nums .u8 t23.1⟩, ⟨.slice (some ⟨g19, 0, none⟩) 1 1, 5, 1, nums .u8 [1]⟩, ⟨.slice (some ⟨g14, 0, none⟩) 3 3, 5, 1, nums .u8 [1, 2, 3]⟩, ⟨.slice (some ⟨g9, 0, none⟩) 8 8, 5, 1, nums .u8 [0, 0, 0, 0, 0, 0, 1, 0]⟩, ⟨.slice (some ⟨g4, 0, none⟩) 4 4, 5, 1, nums .u8 [1, 2, 3, 4]⟩]) , RunAny Go.Proofs.Try.prog (Ret fun v w' => v = .bool r ∧ Mem w w' []) 13 (rest1 (pl Go.Proofs.Try.f13 [1, 1, 1, 1, 1, 1, 0])) 82 (opsOf (pl Go.Proofs.Try.f13 [1, 1, 1, 1, 1, 1, 0])) (Still W1122 []) 31 [0, 1, 2, 3, 4, 5, 6, 7, 8, 9, 20] [(0, .int .i64 a0), (3, .int .u32 t8.1), (5, .int .u64 t13.1), (8, .bool t18.2), (10, .bool t23.2), (35, .bool (t8.1 == 67305985)), (37, .bool (t13.1 == 256)), (43, .bool false), (54, .slice (some ⟨g898, 0, none⟩) 2 2)] W1122 := by
          intro g898 W1122 hS hM 
          refine RunAny.all [10, 24] (ready_of_cert hC30 (by kernel_rfl)) (by simp) ?_
          refine ⟨?_, ?_, trivial⟩
          · refine Stepped.call 10 (d := some 44) (g := 26) (args := #[.int .u32 2147483649, .int .i64 1]) (by kernel_rfl) (words_Rol32.calls k 2147483649 1 t583 _ ht583) (by rintro _ _ ⟨rfl, hM_⟩; exact hS.below hM_.below) ?_
            rintro _ W1123 ⟨rfl, hM_⟩
            replace hS := hS.below hM_.below
            replace hM := hM.call hM_
            clear hM_ ht583
            refine RunAny.rebase hS ?_
            replace hS := Still.refl W1123 []
            refine RunAny.y 11 (side_of_cert hC30 (by kernel_rfl)) (yl_pure (d := some 45) (v := .bool (t583 == 3)) (k2 := [.inRegion (opsOf (pl Go.Proofs.Try.f13 [1, 1, 1, 1, 1, 1, 0])) []]) fun w => by kernel_rfl) (fun _ _ => trivial) hS ?_
            exact RunAny.same [0, 1, 2, 3, 4, 5, 6, 7, 8, 9, 20, 10, 11] (lst_of_mask (by kernel_rfl)) [0, 3, 5, 8, 10, 35, 37, 43, 45, 54] (by kernel_rfl) (J1097 g898 _ hS (hM.pick [0, 1, 2, 3, 4, 5] rfl rfl))
          · refine Stepped.new 24 5 1 2 (nums .u8 [255, 255]) (d := some 58) (k2 := [.inRegion (opsOf (pl Go.Proofs.Try.f13 [1, 1, 1, 1, 1, 1, 0])) []]) hM (by simp [nums, bools, strs]) (by kernel_rfl) (by kernel_rfl) hS ?_
            intro g1124 W1125 hS hM
            refine RunAny.rebase hS ?_
            replace hS := Still.refl W1125 []
            exact RunAny.same [0, 1, 2, 3, 4, 5, 6, 7, 8, 9, 20, 24] (lst_of_mask (by kernel_rfl)) [0, 3, 5, 8, 10, 35, 37, 43, 54, 58] (by kernel_rfl) (J1103 g898 g1124 _ hS (hM.pick [1, 0, 2, 3, 4, 5, 6] rfl rfl))
        refine RunAny.all [10, 20, 24] (ready_of_cert hC30 (by kernel_rfl)) (by simp) ?_
        refine ⟨?_, ?_, ?_, trivial⟩
        · refine Stepped.call 10 (d := some 44) (g := 26) (args := #[.int .u32 2147483649, .int .i64 1]) (by kernel_rfl) (words_Rol32.calls k 2147483649 1 t583 _ ht583) (by rintro _ _ ⟨rfl, hM_⟩; exact hS.below hM_.below) ?_
          rintro _ W1127 ⟨rfl, hM_⟩
          replace hS := hS.below hM_.below
          replace hM := hM.call hM_
          clear hM_ ht583
          refine RunAny.rebase hS ?_
          replace hS := Still.refl W1127 []
          refine RunAny.y 11 (side_of_cert hC30 (by kernel_rfl)) (yl_pure (d := some 45) (v := .bool (t583 == 3)) (k2 := [.inRegion (opsOf (pl Go.Proofs.Try.f13 [1, 1, 1, 1, 1, 1, 0])) []]) fun w => by kernel_rfl) (fun _ _ => trivial) hS ?_
          exact RunAny.same [0, 1, 2, 3, 4, 5, 6, 7, 8, 9, 10, 11] (lst_of_mask (by kernel_rfl)) [0, 3, 5, 8, 10, 35, 37, 43, 45] (by kernel_rfl) (J1106 _ hS (hM.pick [0, 1, 2, 3, 4] rfl rfl))
        · refine Stepped.new 20 5 1 2 (nums .u8 [18, 52]) (d := some 54) (k2 := [.inRegion (opsOf (pl Go.Proofs.Try.f13 [1, 1, 1, 1, 1, 1, 0])) []]) hM (by simp [nums, bools, strs]) (by kernel_rfl) (by kernel_rfl) hS ?_
          intro g1128 W1129 hS hM
          refine RunAny.rebase hS ?_
          replace hS := Still.refl W1129 []
          exact RunAny.same [0, 1, 2, 3, 4, 5, 6, 7, 8, 9, 20] (lst_of_mask (by kernel_rfl)) [0, 3, 5, 8, 10, 35, 37, 43, 54] (by kernel_rfl) (J1121 g1128 _ hS (hM.pick [0, 1, 2, 3, 4, 5] rfl rfl))
        · refine Stepped.new 24 5 1 2 (nums .u8 [255, 255]) (d := some 58) (k2 := [.inRegion (opsOf (pl Go.Proofs.Try.f13 [1, 1, 1, 1, 1, 1, 0])) []]) hM (by simp [nums, bools, strs]) (by kernel_rfl) (by kernel_rfl) hS ?_
          intro g1131 W1132 hS hM
          refine RunAny.rebase hS ?_
          replace hS := Still.refl W1132 []
          exact RunAny.same [0, 1, 2, 3, 4, 5, 6, 7, 8, 9, 24] (lst_of_mask (by kernel_rfl)) [0, 3, 5, 8, 10, 35, 37, 43, 58] (by kernel_rfl) (J1115 g1131 _ hS (hM.pick [0, 1, 2, 3, 4, 5] rfl rfl))


end Go.Scr.S
