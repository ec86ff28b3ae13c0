/- A place of the program, and short names. -/
import Derived.Test.YtdemmfohkhpklaaGreatDoorProg
import Derived.Test.YtdemmfohkhpklaaGreatDoorXSlim8
/- The laws of a place of the program; what the call that is put off does. -/
namespace Go.Scr.S
open Go.Proofs.Tryz (prog f47 func47)
def RL (f : FuncId) (fn : Func) (T : Value → World → Prop) (p : List Nat) (L : Env) (w : World) (D : List Deferred := []) : Prop := RunS prog (Ret T) f fn.ntmps (pl fn p, L) w D
def RJ (f : FuncId) (fn : Func) (T : Value → World → Prop) (p : List Nat) (w0 : World) (H : List Ent) (Fs : List (List Ent)) (js : List Nat) (Z : List Nat × Env) (D : List Deferred := []) : Prop := ∀ W, Mem w0 W (Gs H Fs) → RunA prog (Ret T) f (rest1 (pl fn p)) fn.ntmps (opsOf (pl fn p)) H js Z W D
set_option maxRecDepth 100000 in
theorem ctx_caught.D (a b : Value) (w : World) : CallsD prog 47 #[a, b] .returning w (fun e u' w' => ∃ y, e = .returned y ∧ u' = .returning ∧ w' = w) := by
  intro c cs hc
  obtain ⟨fn, tmps, todo, defers, mode, kind, ro⟩ := c
  subst hc
  let fr : Frame := { (Frame.enter prog 47 #[a, b] .deferred) with mode := .returning, todo := [], tmps := #[a, b, undef, undef, .nilIface, undef, undef, .nilIface, undef, .bool true, undef, undef, undef, undef, undef, undef, undef, undef] }
  refine ⟨.returned (.tuple #[]), .returning, w, fr, ⟨_, rfl, rfl, rfl⟩, ?_, rfl, rfl, rfl, f47, func47, ?_⟩
  · show Steps _ _ _
    exact ⟨15, by kernel_rfl⟩
  · exact results_none (by kernel_rfl) _ _ _
end Go.Scr.S

/- Short names. -/
namespace Go.Scr.S
abbrev Li := List Int
abbrev Lj := List Li
abbrev Lk := List Lj
abbrev Lp := Li × Li
abbrev Cs := Option Lk ⊕ (Option Lp ⊕ (Option Lp ⊕ (Option (Lj × Lj) ⊕ Option (Li × Int))))
abbrev Ci := Int × Cs
abbrev Mo := Option Ci × Int × Bool × Li × Li × Li
abbrev Cx := Bool × Bool × Int × Int × Int × Bool × Option Ci × Li × Option Mo × Li × Li
abbrev Cf := Int × Int × Int × Bool
abbrev pa (g : Nat) : Option Addr := some ⟨g, 0, none⟩
abbrev gd (c : Prop) [Decidable c] {α : Type} (x : Option α) : Option α := if decide c = true then x else none
variable {w0 W : World} {H FT : List Ent} {Fs : List (List Ent)} {Z : Zp}
theorem zk (hM : Mem w0 W (Gs H Fs)) (hZ : ∀ W, Kept w0 W → Oks FT W → Z W) (j : Nat) (hj : Fs[j]? = some FT := by exact rfl) : ∀ w, Kept W w → Z w := fun _ h => hZ _ (hM.kept.trans h) ((hM.oks j hj).kept h)
theorem zp (hM : Mem w0 W (Gs H Fs)) (hZ : ∀ W, Kept w0 W → Z W) : ∀ w, Kept W w → Z w := fun _ h => hZ _ (hM.kept.trans h)
theorem zl (hM : Mem w0 W (Gs H Fs)) (hZ : ∀ W, Kept w0 W → Oks FT W → Z W) (j : Nat) (hj : Fs[j]? = some FT := by exact rfl) : Z W := hZ _ hM.kept (hM.oks j hj)
theorem upn {k : IntKind} {Z Y : Zp} {v : Value} {x : Li} (hs : ∀ W, Y W → Z W) (h : rNums k Z v x) : rNums k Y v x := up_nums k _ _ _ _ hs h
theorem rno {k : IntKind} {A : Option Addr} {n c : Nat} {xs : List Int} (h : RdF Z (.slice A n c) (nums k xs)) (hW : Z W) : rNums k Z (.slice A n c) xs := rnums_of h hW
theorem ai {a b : Prop} (h : a) (h' : b) : a ∧ b := ⟨h, h'⟩
end Go.Scr.S
namespace Go
abbrev Value.i (x : Int) : Value := .int .i64 x
abbrev Value.u (x : Int) : Value := .int .u32 x
abbrev Value.y (x : Int) : Value := .int .u8 x
end Go
