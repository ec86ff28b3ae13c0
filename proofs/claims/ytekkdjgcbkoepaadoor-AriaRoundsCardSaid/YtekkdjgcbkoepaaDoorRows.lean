/-
  NARROWER THAN 'FOR EVERY INPUT', by the rows' own cells (each row's printed sentence says how): AriaSum: laid · AriaOne: laid · AriaKeys: laid · AriaMix: laid · AriaHow: laid · AriaRounds: laid.
  DERIVED. THE GIVEN ROWS OF THIS SEAT. 6 by the template 'for every input the law returns true; each argument reads behind the call as it read before'; 0 by the template 'total and deterministic' (their statements: YtekkdjgcbkoepaaDoorTotals.lean).
  GIVEN WITH THE SEED: the statements are not yours to turn. If you find one false, say at which input.
  Laid BY PROGRAM, IN A SANDBOX (cutbox-rows.mjs): the forced cells as the released guide's own fill.sh prints them over the translation 415d065ee1f196fe… (all of the seat's roots in one cut). By AI agents, Wed Nov 11 2026. No macro, syntax, notation, axiom, sorry.
-/
import Derived.Test.YtekkdjgcbkoepaaDoorChecked
import GoSem.Claim
import GoSem.ClaimJoined
import GoSem.ClaimMapViews
import Derived.JoinedTies
import Derived.KernelRfl
namespace Go.Proofs.YtekkdjgcbkoepaaDoor
/- THE CELL 'sum', in the pinned program and in every row, IS THE sha256 OF THE DUMP (.gsa) THAT YtekkdjgcbkoepaaDoorProg.lean LOADS. Nothing in Lean hashes anything: it is a label: what it is worth is what the hold of that sum in a sandbox is worth. -/
noncomputable def Tryd.pinned : Pinned := { name := "ytekkdjgcbkoepaadoor", sum := "415d065ee1f196fe2849a34a0943cb14ed3a87673b2aed691a00143d18274476", checked := Tryd.checked }
namespace Rows
def none {H : Type} : Left H := { results := [], args := [] }

/- WHAT THE LISTED PACKAGE-LEVEL VARIABLES READ AS WHEN THE CALL BEGINS. Each datum BY PROGRAM (the guide's laid-datum.mjs) off the statement by which the dump's own 'gosem.cut.vars' lays the variable. In a bare row this is a premise. The card (YtekkdjgcbkoepaaDoorCards.lean) ties it to the program's text. -/
def laid_scrim_box_ones {H : Type} : DataW H := .agg [.lit (.int .u8 1), .lit (.int .u8 2), .lit (.int .u8 4), .lit (.int .u8 8), .lit (.int .u8 16), .lit (.int .u8 32), .lit (.int .u8 64), .lit (.int .u8 128)]

/-- 'scrimlaw10.AriaSum': WHATEVER THE INPUT: true; the input reads as it did. -/
def ariaSumSpec : ChangeSpec := { name := "ariaSum", fn := fun _ => fun
  | [d1, d2] => { results := [.lit (.bool true)], args := [d1, d2] }
  | _ => none }
def ariaSumRow : OpenClaim := { program := "ytekkdjgcbkoepaadoor", sum := "415d065ee1f196fe2849a34a0943cb14ed3a87673b2aed691a00143d18274476", func := "scrim/scrimlaw10.AriaSum", spec := "ariaSum", named := ["scrim/box.ones"], apart := false, laid := [("scrim/box.ones", laid_scrim_box_ones)] }
def AriaSumSaid : Prop := ariaSumRow.holds Tryd.pinned (OpenSpec.ofChange ariaSumSpec)

/-- ITS FALSE NEIGHBOUR: 'it returns false'. Refute it at one input. -/
def ariaSumWrong : ChangeSpec := { name := "ariaSum", fn := fun _ => fun
  | [d1, d2] => { results := [.lit (.bool false)], args := [d1, d2] }
  | _ => none }
def AriaSumWrongFalsely : Prop := ariaSumRow.holds Tryd.pinned (OpenSpec.ofChange ariaSumWrong)

/-- 'scrimlaw10.AriaOne': WHATEVER THE INPUT: true; the input reads as it did. -/
def ariaOneSpec : ChangeSpec := { name := "ariaOne", fn := fun _ => fun
  | [d1, d2] => { results := [.lit (.bool true)], args := [d1, d2] }
  | _ => none }
def ariaOneRow : OpenClaim := { program := "ytekkdjgcbkoepaadoor", sum := "415d065ee1f196fe2849a34a0943cb14ed3a87673b2aed691a00143d18274476", func := "scrim/scrimlaw10.AriaOne", spec := "ariaOne", named := ["scrim/box.ones"], apart := false, laid := [("scrim/box.ones", laid_scrim_box_ones)] }
def AriaOneSaid : Prop := ariaOneRow.holds Tryd.pinned (OpenSpec.ofChange ariaOneSpec)

/-- ITS FALSE NEIGHBOUR: 'it returns false'. Refute it at one input. -/
def ariaOneWrong : ChangeSpec := { name := "ariaOne", fn := fun _ => fun
  | [d1, d2] => { results := [.lit (.bool false)], args := [d1, d2] }
  | _ => none }
def AriaOneWrongFalsely : Prop := ariaOneRow.holds Tryd.pinned (OpenSpec.ofChange ariaOneWrong)

/-- 'scrimlaw10.AriaKeys': WHATEVER THE INPUT: true; the input reads as it did. -/
def ariaKeysSpec : ChangeSpec := { name := "ariaKeys", fn := fun _ => fun
  | [d1, d2, d3] => { results := [.lit (.bool true)], args := [d1, d2, d3] }
  | _ => none }
def ariaKeysRow : OpenClaim := { program := "ytekkdjgcbkoepaadoor", sum := "415d065ee1f196fe2849a34a0943cb14ed3a87673b2aed691a00143d18274476", func := "scrim/scrimlaw10.AriaKeys", spec := "ariaKeys", named := ["scrim/box.ones"], apart := false, laid := [("scrim/box.ones", laid_scrim_box_ones)] }
def AriaKeysSaid : Prop := ariaKeysRow.holds Tryd.pinned (OpenSpec.ofChange ariaKeysSpec)

/-- ITS FALSE NEIGHBOUR: 'it returns false'. Refute it at one input. -/
def ariaKeysWrong : ChangeSpec := { name := "ariaKeys", fn := fun _ => fun
  | [d1, d2, d3] => { results := [.lit (.bool false)], args := [d1, d2, d3] }
  | _ => none }
def AriaKeysWrongFalsely : Prop := ariaKeysRow.holds Tryd.pinned (OpenSpec.ofChange ariaKeysWrong)

/-- 'scrimlaw10.AriaMix': WHATEVER THE INPUT: true; the input reads as it did. -/
def ariaMixSpec : ChangeSpec := { name := "ariaMix", fn := fun _ => fun
  | [d1, d2, d3] => { results := [.lit (.bool true)], args := [d1, d2, d3] }
  | _ => none }
def ariaMixRow : OpenClaim := { program := "ytekkdjgcbkoepaadoor", sum := "415d065ee1f196fe2849a34a0943cb14ed3a87673b2aed691a00143d18274476", func := "scrim/scrimlaw10.AriaMix", spec := "ariaMix", named := ["scrim/box.ones"], apart := false, laid := [("scrim/box.ones", laid_scrim_box_ones)] }
def AriaMixSaid : Prop := ariaMixRow.holds Tryd.pinned (OpenSpec.ofChange ariaMixSpec)

/-- ITS FALSE NEIGHBOUR: 'it returns false'. Refute it at one input. -/
def ariaMixWrong : ChangeSpec := { name := "ariaMix", fn := fun _ => fun
  | [d1, d2, d3] => { results := [.lit (.bool false)], args := [d1, d2, d3] }
  | _ => none }
def AriaMixWrongFalsely : Prop := ariaMixRow.holds Tryd.pinned (OpenSpec.ofChange ariaMixWrong)

/-- 'scrimlaw10.AriaHow': WHATEVER THE INPUT: true; the input reads as it did. -/
def ariaHowSpec : ChangeSpec := { name := "ariaHow", fn := fun _ => fun
  | [d1, d2] => { results := [.lit (.bool true)], args := [d1, d2] }
  | _ => none }
def ariaHowRow : OpenClaim := { program := "ytekkdjgcbkoepaadoor", sum := "415d065ee1f196fe2849a34a0943cb14ed3a87673b2aed691a00143d18274476", func := "scrim/scrimlaw10.AriaHow", spec := "ariaHow", named := ["scrim/box.ones"], apart := false, laid := [("scrim/box.ones", laid_scrim_box_ones)] }
def AriaHowSaid : Prop := ariaHowRow.holds Tryd.pinned (OpenSpec.ofChange ariaHowSpec)

/-- ITS FALSE NEIGHBOUR: 'it returns false'. Refute it at one input. -/
def ariaHowWrong : ChangeSpec := { name := "ariaHow", fn := fun _ => fun
  | [d1, d2] => { results := [.lit (.bool false)], args := [d1, d2] }
  | _ => none }
def AriaHowWrongFalsely : Prop := ariaHowRow.holds Tryd.pinned (OpenSpec.ofChange ariaHowWrong)

/-- 'scrimlaw10.AriaRounds': WHATEVER THE INPUT: true; the input reads as it did. -/
def ariaRoundsSpec : ChangeSpec := { name := "ariaRounds", fn := fun _ => fun
  | [d1, d2, d3] => { results := [.lit (.bool true)], args := [d1, d2, d3] }
  | _ => none }
def ariaRoundsRow : OpenClaim := { program := "ytekkdjgcbkoepaadoor", sum := "415d065ee1f196fe2849a34a0943cb14ed3a87673b2aed691a00143d18274476", func := "scrim/scrimlaw10.AriaRounds", spec := "ariaRounds", named := ["scrim/box.ones"], apart := false, laid := [("scrim/box.ones", laid_scrim_box_ones)] }
def AriaRoundsSaid : Prop := ariaRoundsRow.holds Tryd.pinned (OpenSpec.ofChange ariaRoundsSpec)

/-- ITS FALSE NEIGHBOUR: 'it returns false'. Refute it at one input. -/
def ariaRoundsWrong : ChangeSpec := { name := "ariaRounds", fn := fun _ => fun
  | [d1, d2, d3] => { results := [.lit (.bool false)], args := [d1, d2, d3] }
  | _ => none }
def AriaRoundsWrongFalsely : Prop := ariaRoundsRow.holds Tryd.pinned (OpenSpec.ofChange ariaRoundsWrong)

/- THE SECOND FORM. 'bulk': how many values and letters a reading holds, each counted each time it is reached (what is shared counts as often as it is met; a slice's spare places count too). A statement '..UptoSaid' is the law's where the arguments, and the package variables that the reading takes, are together of bulk at most 1048576: NARROWER than '..Said'. Prove '..Said' where nothing that the law and all that it calls make is longer than what came in: it says more and counts as full. Else prove '..UptoSaid'. A law counts once. -/
mutual
def uptoBulk {H : Type} : DataW H → Nat
  | .lit (.string bytes) => bytes.length + 1
  | .lit _ => 1
  | .nil => 1
  | .ptr d => uptoBulk d + 1
  | .slice elems spare => uptoBulkAll elems + uptoBulkAll spare + 1
  | .agg parts => uptoBulkAll parts + 1
  | .iface _ d => uptoBulk d + 1
  | .map entries => uptoBulkEntries entries + 1
  | .held _ => 1
def uptoBulkAll {H : Type} : List (DataW H) → Nat
  | [] => 0
  | d :: r => uptoBulk d + uptoBulkAll r
def uptoBulkEntries {H : Type} : List (Lit × DataW H) → Nat
  | [] => 0
  | x :: r => uptoBulkEntry x + uptoBulkEntries r
def uptoBulkEntry {H : Type} : Lit × DataW H → Nat
  | (.string bytes, d) => bytes.length + uptoBulk d + 1
  | (_, d) => uptoBulk d + 1
 end
def uptoSmall : (H : Type) → List (DataW H) → Bool := fun _ ds => decide (uptoBulkAll ds ≤ 1048576)
def OpenSpec.upto (s : _root_.Go.ChangeSpec) : _root_.Go.OpenSpec := { _root_.Go.OpenSpec.ofChange s with cond := some uptoSmall }

/-- 'scrimlaw10.AriaSum', WHERE WHAT IT READS IS OF BULK AT MOST 1048576: true; the input reads as it did. -/
def ariaSumUptoRow : OpenClaim := { program := "ytekkdjgcbkoepaadoor", sum := "415d065ee1f196fe2849a34a0943cb14ed3a87673b2aed691a00143d18274476", func := "scrim/scrimlaw10.AriaSum", spec := "ariaSum", named := ["scrim/box.ones"], apart := false, laid := [("scrim/box.ones", laid_scrim_box_ones)], narrowed := true }
def AriaSumUptoSaid : Prop := ariaSumUptoRow.holds Tryd.pinned (OpenSpec.upto ariaSumSpec)

/-- 'scrimlaw10.AriaOne', WHERE WHAT IT READS IS OF BULK AT MOST 1048576: true; the input reads as it did. -/
def ariaOneUptoRow : OpenClaim := { program := "ytekkdjgcbkoepaadoor", sum := "415d065ee1f196fe2849a34a0943cb14ed3a87673b2aed691a00143d18274476", func := "scrim/scrimlaw10.AriaOne", spec := "ariaOne", named := ["scrim/box.ones"], apart := false, laid := [("scrim/box.ones", laid_scrim_box_ones)], narrowed := true }
def AriaOneUptoSaid : Prop := ariaOneUptoRow.holds Tryd.pinned (OpenSpec.upto ariaOneSpec)

/-- 'scrimlaw10.AriaKeys', WHERE WHAT IT READS IS OF BULK AT MOST 1048576: true; the input reads as it did. -/
def ariaKeysUptoRow : OpenClaim := { program := "ytekkdjgcbkoepaadoor", sum := "415d065ee1f196fe2849a34a0943cb14ed3a87673b2aed691a00143d18274476", func := "scrim/scrimlaw10.AriaKeys", spec := "ariaKeys", named := ["scrim/box.ones"], apart := false, laid := [("scrim/box.ones", laid_scrim_box_ones)], narrowed := true }
def AriaKeysUptoSaid : Prop := ariaKeysUptoRow.holds Tryd.pinned (OpenSpec.upto ariaKeysSpec)

/-- 'scrimlaw10.AriaMix', WHERE WHAT IT READS IS OF BULK AT MOST 1048576: true; the input reads as it did. -/
def ariaMixUptoRow : OpenClaim := { program := "ytekkdjgcbkoepaadoor", sum := "415d065ee1f196fe2849a34a0943cb14ed3a87673b2aed691a00143d18274476", func := "scrim/scrimlaw10.AriaMix", spec := "ariaMix", named := ["scrim/box.ones"], apart := false, laid := [("scrim/box.ones", laid_scrim_box_ones)], narrowed := true }
def AriaMixUptoSaid : Prop := ariaMixUptoRow.holds Tryd.pinned (OpenSpec.upto ariaMixSpec)

/-- 'scrimlaw10.AriaHow', WHERE WHAT IT READS IS OF BULK AT MOST 1048576: true; the input reads as it did. -/
def ariaHowUptoRow : OpenClaim := { program := "ytekkdjgcbkoepaadoor", sum := "415d065ee1f196fe2849a34a0943cb14ed3a87673b2aed691a00143d18274476", func := "scrim/scrimlaw10.AriaHow", spec := "ariaHow", named := ["scrim/box.ones"], apart := false, laid := [("scrim/box.ones", laid_scrim_box_ones)], narrowed := true }
def AriaHowUptoSaid : Prop := ariaHowUptoRow.holds Tryd.pinned (OpenSpec.upto ariaHowSpec)

/-- 'scrimlaw10.AriaRounds', WHERE WHAT IT READS IS OF BULK AT MOST 1048576: true; the input reads as it did. -/
def ariaRoundsUptoRow : OpenClaim := { program := "ytekkdjgcbkoepaadoor", sum := "415d065ee1f196fe2849a34a0943cb14ed3a87673b2aed691a00143d18274476", func := "scrim/scrimlaw10.AriaRounds", spec := "ariaRounds", named := ["scrim/box.ones"], apart := false, laid := [("scrim/box.ones", laid_scrim_box_ones)], narrowed := true }
def AriaRoundsUptoSaid : Prop := ariaRoundsUptoRow.holds Tryd.pinned (OpenSpec.upto ariaRoundsSpec)

end Rows
end Go.Proofs.YtekkdjgcbkoepaaDoor
