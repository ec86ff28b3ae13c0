/- The plain law of SmStr. -/
import Derived.Test.YtngagagokcnnaaaXDeep3
import Derived.Test.YtngagagokcnnaaaLibNum
import Derived.Test.YtngagagokcnnaaaLibIl
set_option linter.unusedVariables false
set_option linter.unusedSimpArgs false
set_option linter.unnecessarySimpa false
namespace Go.Scr.S
theorem fold_data (xs : List Int) : ∀ r : ByteArray, (xs.foldl (fun (r : ByteArray) (n : Int) => r.push (UInt8.ofNat n.toNat)) r).data.toList = r.data.toList ++ xs.map fun n => UInt8.ofNat n.toNat := by
  induction xs with
  | nil => intro r; simp
  | cons x xs ih => intro r; rw [List.foldl_cons, ih]; simp [ByteArray.push]
theorem strOf_data (xs : List Int) : (strOf xs).data.toList = xs.map fun n => UInt8.ofNat n.toNat := by
  unfold strOf; rw [fold_data]; rfl
theorem ba_ext {a b : ByteArray} (h : a.data.toList = b.data.toList) : a = b := by
  obtain ⟨⟨l⟩⟩ := a; obtain ⟨⟨m⟩⟩ := b
  simp only at h; rw [h]
theorem strOf_app (x y : List Int) : strOf x ++ strOf y = strOf (x ++ y) := by
  refine ba_ext ?_
  rw [ByteArray.data_append, Array.toList_append, strOf_data, strOf_data, strOf_data, List.map_append]
theorem strOf_size (x : List Int) : (strOf x).size = x.length := by
  have := congrArg List.length (strOf_data x)
  simpa using this
theorem strOf_inj {a b : List Nat} (ha : ∀ x ∈ a, x < 256) (hb : ∀ x ∈ b, x < 256) : strOf (il a) = strOf (il b) ↔ a = b := by
  refine ⟨fun h => ?_, fun h => by rw [h]⟩
  have e := congrArg (fun s : ByteArray => s.data.toList.map UInt8.toNat) h
  simp only [strOf_data, il, List.map_map] at e
  have f : ∀ l : List Nat, (∀ x ∈ l, x < 256) → l.map (UInt8.toNat ∘ (fun n : Int => UInt8.ofNat n.toNat) ∘ fun n : Nat => (n : Int)) = l := by
    intro l hl
    refine (List.map_congr_left fun x hx => ?_).trans (List.map_id l)
    simp only [Function.comp, Int.toNat_natCast, UInt8.toNat_ofNat', id]
    exact Nat.mod_eq_of_lt (hl x hx)
  rw [f a ha, f b hb] at e
  exact e
end Go.Scr.S
