/- The plain law of ArMix. -/
import Derived.Test.YtekkdjgcbkoepaaDoorFnAriaRounds
import Derived.Test.YtekkdjgcbkoepaaDoorLibNum
import Derived.Test.YtekkdjgcbkoepaaDoorLibIl
set_option linter.unusedVariables false
set_option linter.unusedSimpArgs false
set_option linter.unnecessarySimpa false
namespace Go.Scr.S
def rows10 : List (List Nat) := [[3, 4, 6, 8, 9, 13, 14], [2, 5, 7, 8, 9, 12, 15], [1, 4, 6, 10, 11, 12, 15], [0, 5, 7, 10, 11, 13, 14], [0, 2, 5, 8, 11, 14, 15], [1, 3, 4, 9, 10, 14, 15], [0, 2, 7, 9, 10, 12, 13], [1, 3, 6, 8, 11, 12, 13],
  [0, 1, 4, 7, 10, 13, 15], [0, 1, 5, 6, 11, 12, 14], [2, 3, 5, 6, 8, 13, 15], [2, 3, 4, 7, 9, 12, 14], [1, 2, 6, 7, 9, 11, 12], [0, 3, 6, 7, 8, 10, 13], [0, 3, 4, 5, 9, 11, 14], [1, 2, 4, 5, 8, 10, 15]]
def mixF (f : Nat → Nat) : List Nat := rows10.map fun row => row.foldl (fun v j => v ^^^ f j) 0
def mixN (l : List Nat) : List Nat := mixF fun j => l.getD j 0
def mixI (l : List Int) : List Int := rows10.map fun row => row.foldl (fun v j => bxor .u8 v (rd l ((j : Nat) : Int))) 0
theorem mix_k {k : Nat} (hk : 300 ≤ k) (x0 x1 x2 x3 x4 x5 x6 x7 x8 x9 x10 x11 x12 x13 x14 x15 : Int) : aria_Mix.f k [x0, x1, x2, x3, x4, x5, x6, x7, x8, x9, x10, x11, x12, x13, x14, x15] = some (mixI [x0, x1, x2, x3, x4, x5, x6, x7, x8, x9, x10, x11, x12, x13, x14, x15], true) := by
  obtain ⟨j, rfl⟩ : ∃ j, k = j + 300 := ⟨k - 300, by omega⟩
  kernel_rfl
theorem fold_il {m : List Nat} (hm : ∀ x ∈ m, x < 256) : ∀ (row : List Nat) (v : Nat), v < 256 → row.foldl (fun v j => bxor .u8 v (rd (il m) ((j : Nat) : Int))) (v : Int) = ((row.foldl (fun v j => v ^^^ m.getD j 0) v : Nat) : Int)
  | [], _, _ => rfl
  | j :: r, v, hv => by
    have h : m.getD j 0 < 256 := getD_lt hm j
    rw [List.foldl_cons, List.foldl_cons, il_rd', bx8 hv h]
    exact fold_il hm r _ (Nat.xor_lt_two_pow (n := 8) hv h)
theorem fold_lt {f : Nat → Nat} (hf : ∀ j, f j < 256) : ∀ (row : List Nat) (v : Nat), v < 256 → row.foldl (fun v j => v ^^^ f j) v < 256
  | [], _, hv => hv
  | j :: r, v, hv => fold_lt hf r _ (Nat.xor_lt_two_pow (n := 8) hv (hf j))
theorem mixI_il {m : List Nat} (hm : ∀ x ∈ m, x < 256) : mixI (il m) = il (mixN m) := by
  unfold mixI mixN mixF il
  rw [List.map_map]
  exact List.map_congr_left fun row _ => fold_il hm row 0 (by decide)
theorem sixteen {l : List Nat} (h : l.length = 16) : ∃ x0 x1 x2 x3 x4 x5 x6 x7 x8 x9 x10 x11 x12 x13 x14 x15, l = [x0, x1, x2, x3, x4, x5, x6, x7, x8, x9, x10, x11, x12, x13, x14, x15] := by
  match l, h with
  | [x0, x1, x2, x3, x4, x5, x6, x7, x8, x9, x10, x11, x12, x13, x14, x15], _ => exact ⟨x0, x1, x2, x3, x4, x5, x6, x7, x8, x9, x10, x11, x12, x13, x14, x15, rfl⟩
theorem mix_eq {m : List Nat} (h : m.length = 16) (hm : ∀ x ∈ m, x < 256) {k : Nat} (hk : 300 ≤ k) : aria_Mix.f k (il m) = some (il (mixN m), true) := by
  rw [← mixI_il hm]
  obtain ⟨x0, x1, x2, x3, x4, x5, x6, x7, x8, x9, x10, x11, x12, x13, x14, x15, rfl⟩ := sixteen h
  exact mix_k hk x0 x1 x2 x3 x4 x5 x6 x7 x8 x9 x10 x11 x12 x13 x14 x15
theorem mixN_length (m : List Nat) : (mixN m).length = 16 := by unfold mixN mixF; rw [List.length_map]; rfl
theorem mixN_lt {m : List Nat} (hm : ∀ x ∈ m, x < 256) : ∀ x ∈ mixN m, x < 256 := by
  intro x hx
  unfold mixN mixF at hx
  obtain ⟨row, _, rfl⟩ := List.mem_map.1 hx
  exact fold_lt (fun j => getD_lt hm j) row 0 (by decide)
theorem xor4 (a b c d : Nat) : (a ^^^ b) ^^^ (c ^^^ d) = (a ^^^ c) ^^^ (b ^^^ d) := by
  rw [Nat.xor_assoc, Nat.xor_assoc, ← Nat.xor_assoc b c d, Nat.xor_comm b c, Nat.xor_assoc c b d]
theorem fold_xor (f g : Nat → Nat) : ∀ (row : List Nat) (v w : Nat), row.foldl (fun v j => v ^^^ (f j ^^^ g j)) (v ^^^ w) = row.foldl (fun v j => v ^^^ f j) v ^^^ row.foldl (fun v j => v ^^^ g j) w
  | [], _, _ => rfl
  | j :: r, v, w => by
    rw [List.foldl_cons, List.foldl_cons, List.foldl_cons, xor4]; exact fold_xor f g r _ _
theorem mixF_at (f : Nat → Nat) (i : Nat) : (mixF f).getD i 0 = (rows10.getD i []).foldl (fun v j => v ^^^ f j) 0 := by
  unfold mixF
  rw [List.getD_eq_getElem?_getD, List.getElem?_map, List.getD_eq_getElem?_getD]
  cases rows10[i]? <;> rfl
theorem mixF_xor (f g : Nat → Nat) (i : Nat) : (mixF fun j => f j ^^^ g j).getD i 0 = (mixF f).getD i 0 ^^^ (mixF g).getD i 0 := by
  rw [mixF_at, mixF_at, mixF_at]; exact fold_xor f g _ 0 0
end Go.Scr.S
