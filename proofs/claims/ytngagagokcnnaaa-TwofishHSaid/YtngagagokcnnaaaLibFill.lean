/- The plain law of Fill. -/
import Derived.Test.YtngagagokcnnaaaXDeep3
import Derived.Test.YtngagagokcnnaaaLibNum
set_option linter.unusedVariables false
set_option linter.unusedSimpArgs false
set_option linter.unnecessarySimpa false
namespace Go.Scr.S
/-- A row that is filled from its first place on. -/
def fill (n : Nat) (F : Nat → Int) : List Int := (List.range n).map F
def Fl (F : Nat → Int) (n i : Nat) (x : List Int) : Prop := x.length = n ∧ ∀ j, j < i → x[j]? = some (F j)
theorem Fl.zero {F : Nat → Int} {n : Nat} {x : List Int} (h : x.length = n) : Fl F n 0 x := ⟨h, fun j hj => absurd hj (Nat.not_lt_zero j)⟩
theorem Fl.set {F : Nat → Int} {n i : Nat} {x : List Int} (h : Fl F n i x) (hi : i < n) {v : Int} (hv : v = F i) : Fl F n (i + 1) (x.set i v) := by
  refine ⟨by rw [List.length_set]; exact h.1, fun j hj => ?_⟩
  rw [List.getElem?_set]
  by_cases e : i = j
  · subst e; rw [if_pos rfl, if_pos (by rw [h.1]; exact hi), hv]
  · rw [if_neg e]; exact h.2 j (by omega)
theorem Fl.done {F : Nat → Int} {n : Nat} {x : List Int} (h : Fl F n n x) : x = fill n F := by
  refine List.ext_getElem? fun j => ?_
  unfold fill
  by_cases e : j < n
  · rw [h.2 j e, List.getElem?_map, List.getElem?_range e]; rfl
  · rw [List.getElem?_eq_none (by rw [h.1]; omega), List.getElem?_eq_none (by simp; omega)]
theorem fill_length (n : Nat) (F : Nat → Int) : (fill n F).length = n := by simp [fill]
theorem fill_rd {n i : Nat} (F : Nat → Int) (h : i < n) : rd (fill n F) (i : Int) = F i := by
  unfold rd fill; rw [Int.toNat_natCast, List.getD_eq_getElem?_getD, List.getElem?_map, List.getElem?_range h]; rfl
theorem fill_congr {n : Nat} {F G : Nat → Int} (h : ∀ i, i < n → F i = G i) : fill n F = fill n G := by
  unfold fill; refine List.map_congr_left fun i hi => h i (by simpa using hi)
theorem fill_self (l : List Int) : fill l.length (fun i => rd l (i : Int)) = l := by
  refine List.ext_getElem? fun j => ?_
  unfold fill
  by_cases e : j < l.length
  · rw [List.getElem?_map, List.getElem?_range e, List.getElem?_eq_getElem e]; simp [rd, List.getD_eq_getElem?_getD, e]
  · rw [List.getElem?_eq_none (by simp; omega), List.getElem?_eq_none (by omega)]
end Go.Scr.S
