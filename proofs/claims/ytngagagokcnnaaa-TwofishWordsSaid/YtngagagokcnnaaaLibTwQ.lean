/- The plain law of TwQ. -/
import Derived.Test.YtngagagokcnnaaaFnTwofishWords
import Derived.Test.YtngagagokcnnaaaLibNum
set_option linter.unusedVariables false
set_option linter.unusedSimpArgs false
set_option linter.unnecessarySimpa false
namespace Go.Scr.S
def q0 : List Nat := [169, 103, 179, 232, 4, 253, 163, 118, 154, 146, 128, 120, 228, 221, 209, 56, 13, 198, 53, 152, 24, 247, 236, 108, 67, 117, 55, 38, 250, 19, 148, 72, 242, 208, 139, 48, 132, 84, 223, 35, 25, 91, 61, 89, 243, 174, 162, 130, 99, 1, 131, 46, 217, 81, 155, 124, 166, 235, 165, 190, 22, 12, 227, 97, 192, 140, 58, 245, 115, 44, 37, 11, 187, 78, 137, 107, 83, 106, 180, 241, 225, 230, 189, 69, 226, 244, 182, 102, 204, 149, 3, 86, 212, 28, 30, 215, 251, 195, 142, 181, 233, 207, 191, 186, 234, 119, 57, 175, 51, 201, 98, 113, 129, 121, 9, 173, 36, 205, 249, 216, 229, 197, 185, 77, 68, 8, 134, 231, 161, 29, 170, 237, 6, 112, 178, 210, 65, 123, 160, 17, 49, 194, 39, 144, 32, 246, 96, 255, 150, 92, 177, 171, 158, 156, 82, 27, 95, 147, 10, 239, 145, 133, 73, 238, 45, 79, 143, 59, 71, 135, 109, 70, 214, 62, 105, 100, 42, 206, 203, 47, 252, 151, 5, 122, 172, 127, 213, 26, 75, 14, 167, 90, 40, 20, 63, 41, 136, 60, 76, 2, 184, 218, 176, 23, 85, 31, 138, 125, 87, 199, 141, 116, 183, 196, 159, 114, 126, 21, 34, 18, 88, 7, 153, 52, 110, 80, 222, 104, 101, 188, 219, 248, 200, 168, 43, 64, 220, 254, 50, 164, 202, 16, 33, 240, 211, 93, 15, 0, 111, 157, 54, 66, 74, 94, 193, 224]
def q1 : List Nat := [117, 243, 198, 244, 219, 123, 251, 200, 74, 211, 230, 107, 69, 125, 232, 75, 214, 50, 216, 253, 55, 113, 241, 225, 48, 15, 248, 27, 135, 250, 6, 63, 94, 186, 174, 91, 138, 0, 188, 157, 109, 193, 177, 14, 128, 93, 210, 213, 160, 132, 7, 20, 181, 144, 44, 163, 178, 115, 76, 84, 146, 116, 54, 81, 56, 176, 189, 90, 252, 96, 98, 150, 108, 66, 247, 16, 124, 40, 39, 140, 19, 149, 156, 199, 36, 70, 59, 112, 202, 227, 133, 203, 17, 208, 147, 184, 166, 131, 32, 255, 159, 119, 195, 204, 3, 111, 8, 191, 64, 231, 43, 226, 121, 12, 170, 130, 65, 58, 234, 185, 228, 154, 164, 151, 126, 218, 122, 23, 102, 148, 161, 29, 61, 240, 222, 179, 11, 114, 167, 28, 239, 209, 83, 62, 143, 51, 38, 95, 236, 118, 42, 73, 129, 136, 238, 33, 196, 26, 235, 217, 197, 57, 153, 205, 173, 49, 139, 1, 24, 35, 221, 31, 78, 45, 249, 72, 79, 242, 101, 142, 120, 92, 88, 25, 141, 229, 152, 87, 103, 127, 5, 100, 175, 99, 182, 254, 245, 183, 60, 165, 206, 233, 104, 68, 224, 77, 67, 105, 41, 46, 172, 21, 89, 168, 10, 158, 110, 71, 223, 52, 53, 106, 207, 220, 34, 201, 192, 155, 137, 212, 237, 171, 18, 162, 13, 82, 187, 2, 47, 169, 215, 97, 30, 180, 80, 4, 246, 194, 22, 37, 134, 86, 85, 9, 190, 145]
def qq (t : Nat) : List Nat := if t = 0 then q0 else q1
theorem qt0 (j : Nat) : (List.range 256).map (fun x : Nat => twofish_Q.f (j + 10) 0 (x : Int)) = q0.map (fun v : Nat => some (v : Int)) := by kernel_rfl
theorem qt1 (j : Nat) : (List.range 256).map (fun x : Nat => twofish_Q.f (j + 10) 1 (x : Int)) = q1.map (fun v : Nat => some (v : Int)) := by kernel_rfl
theorem of_tab {f : Nat → Option Int} {q : List Nat} (hq : q.length = 256) (h : (List.range 256).map f = q.map (fun v : Nat => some (v : Int))) {x : Nat} (hx : x < 256) : f x = some ((q.getD x 0 : Nat) : Int) := by
  have e := congrArg (fun l => l[x]?) h
  simp only [List.getElem?_map, List.getElem?_range hx, List.getElem?_eq_getElem (by omega : x < q.length), Option.map_some, Option.some.injEq] at e
  rw [List.getD_eq_getElem?_getD, List.getElem?_eq_getElem (by omega : x < q.length)]
  exact e
theorem q_ok : ∀ t, t < 2 → (qq t).length = 256 ∧ (∀ x ∈ qq t, x < 256) ∧ (qq t).Nodup := by decide +kernel
theorem q_eq {t x k : Nat} (ht : t < 2) (hx : x < 256) (hk : 10 ≤ k) : twofish_Q.f k (t : Int) (x : Int) = some (((qq t).getD x 0 : Nat) : Int) := by
  obtain ⟨j, rfl⟩ : ∃ j, k = j + 10 := ⟨k - 10, by omega⟩
  have : t = 0 ∨ t = 1 := by omega
  rcases this with rfl | rfl
  · exact of_tab (q_ok 0 (by omega)).1 (qt0 j) hx
  · exact of_tab (q_ok 1 (by omega)).1 (qt1 j) hx
end Go.Scr.S
