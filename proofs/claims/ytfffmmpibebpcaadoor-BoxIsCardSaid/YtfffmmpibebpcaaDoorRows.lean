/-
  NARROWER THAN 'FOR EVERY INPUT', by the rows' own cells (each row's printed sentence says how): BoxIs: laid · BoxBack: laid · BoxAffine: laid · BoxTwo: laid · BoxBits: laid · BoxMakes: laid · BoxOnes: laid · BoxPowers: laid · BoxKnown: laid.
  DERIVED. THE GIVEN ROWS OF THIS SEAT. 9 by the template 'for every input the law returns true; each argument reads behind the call as it read before'; 0 by the template 'total and deterministic' (their statements: YtfffmmpibebpcaaDoorTotals.lean).
  GIVEN WITH THE SEED: the statements are not yours to turn. If you find one false, say at which input.
  Laid BY PROGRAM, IN A SANDBOX (cutbox-rows.mjs): the forced cells as the released guide's own fill.sh prints them over the translation d6f816b59c978576… (all of the seat's roots in one cut). By AI agents, Wed Nov 11 2026. No macro, syntax, notation, axiom, sorry.
-/
import Derived.Test.YtfffmmpibebpcaaDoorChecked
import GoSem.Claim
import GoSem.ClaimJoined
import GoSem.ClaimMapViews
import Derived.JoinedTies
import Derived.KernelRfl
namespace Go.Proofs.YtfffmmpibebpcaaDoor
/- THE CELL 'sum', in the pinned program and in every row, IS THE sha256 OF THE DUMP (.gsa) THAT YtfffmmpibebpcaaDoorProg.lean LOADS. Nothing in Lean hashes anything: it is a label: what it is worth is what the hold of that sum in a sandbox is worth. -/
noncomputable def Tryd.pinned : Pinned := { name := "ytfffmmpibebpcaadoor", sum := "d6f816b59c978576382be679925ab23bf7696b614e6eb2016f9528f26816ce49", checked := Tryd.checked }
namespace Rows
def none {H : Type} : Left H := { results := [], args := [] }

/- WHAT THE LISTED PACKAGE-LEVEL VARIABLES READ AS WHEN THE CALL BEGINS. Each datum BY PROGRAM (the guide's laid-datum.mjs) off the statement by which the dump's own 'gosem.cut.vars' lays the variable. In a bare row this is a premise. The card (YtfffmmpibebpcaaDoorCards.lean) ties it to the program's text. -/
def laid_scrim_box_ones {H : Type} : DataW H := .agg [.lit (.int .u8 1), .lit (.int .u8 2), .lit (.int .u8 4), .lit (.int .u8 8), .lit (.int .u8 16), .lit (.int .u8 32), .lit (.int .u8 64), .lit (.int .u8 128)]

/-- 'scrimlaw4.BoxIs': WHATEVER THE INPUT: true; the input reads as it did. -/
def boxIsSpec : ChangeSpec := { name := "boxIs", fn := fun _ => fun
  | [d1, d2, d3, d4, d5] => { results := [.lit (.bool true)], args := [d1, d2, d3, d4, d5] }
  | _ => none }
def boxIsRow : OpenClaim := { program := "ytfffmmpibebpcaadoor", sum := "d6f816b59c978576382be679925ab23bf7696b614e6eb2016f9528f26816ce49", func := "scrim/scrimlaw4.BoxIs", spec := "boxIs", named := ["scrim/box.ones"], apart := false, laid := [("scrim/box.ones", laid_scrim_box_ones)] }
def BoxIsSaid : Prop := boxIsRow.holds Tryd.pinned (OpenSpec.ofChange boxIsSpec)

/-- ITS FALSE NEIGHBOUR: 'it returns false'. Refute it at one input. -/
def boxIsWrong : ChangeSpec := { name := "boxIs", fn := fun _ => fun
  | [d1, d2, d3, d4, d5] => { results := [.lit (.bool false)], args := [d1, d2, d3, d4, d5] }
  | _ => none }
def BoxIsWrongFalsely : Prop := boxIsRow.holds Tryd.pinned (OpenSpec.ofChange boxIsWrong)

/-- 'scrimlaw4.BoxBack': WHATEVER THE INPUT: true; the input reads as it did. -/
def boxBackSpec : ChangeSpec := { name := "boxBack", fn := fun _ => fun
  | [d1, d2] => { results := [.lit (.bool true)], args := [d1, d2] }
  | _ => none }
def boxBackRow : OpenClaim := { program := "ytfffmmpibebpcaadoor", sum := "d6f816b59c978576382be679925ab23bf7696b614e6eb2016f9528f26816ce49", func := "scrim/scrimlaw4.BoxBack", spec := "boxBack", named := ["scrim/box.ones"], apart := false, laid := [("scrim/box.ones", laid_scrim_box_ones)] }
def BoxBackSaid : Prop := boxBackRow.holds Tryd.pinned (OpenSpec.ofChange boxBackSpec)

/-- ITS FALSE NEIGHBOUR: 'it returns false'. Refute it at one input. -/
def boxBackWrong : ChangeSpec := { name := "boxBack", fn := fun _ => fun
  | [d1, d2] => { results := [.lit (.bool false)], args := [d1, d2] }
  | _ => none }
def BoxBackWrongFalsely : Prop := boxBackRow.holds Tryd.pinned (OpenSpec.ofChange boxBackWrong)

/-- 'scrimlaw4.BoxAffine': WHATEVER THE INPUT: true; the input reads as it did. -/
def boxAffineSpec : ChangeSpec := { name := "boxAffine", fn := fun _ => fun
  | [d1, d2, d3, d4] => { results := [.lit (.bool true)], args := [d1, d2, d3, d4] }
  | _ => none }
def boxAffineRow : OpenClaim := { program := "ytfffmmpibebpcaadoor", sum := "d6f816b59c978576382be679925ab23bf7696b614e6eb2016f9528f26816ce49", func := "scrim/scrimlaw4.BoxAffine", spec := "boxAffine", named := ["scrim/box.ones"], apart := false, laid := [("scrim/box.ones", laid_scrim_box_ones)] }
def BoxAffineSaid : Prop := boxAffineRow.holds Tryd.pinned (OpenSpec.ofChange boxAffineSpec)

/-- ITS FALSE NEIGHBOUR: 'it returns false'. Refute it at one input. -/
def boxAffineWrong : ChangeSpec := { name := "boxAffine", fn := fun _ => fun
  | [d1, d2, d3, d4] => { results := [.lit (.bool false)], args := [d1, d2, d3, d4] }
  | _ => none }
def BoxAffineWrongFalsely : Prop := boxAffineRow.holds Tryd.pinned (OpenSpec.ofChange boxAffineWrong)

/-- 'scrimlaw4.BoxTwo': WHATEVER THE INPUT: true; the input reads as it did. -/
def boxTwoSpec : ChangeSpec := { name := "boxTwo", fn := fun _ => fun
  | [d1, d2, d3] => { results := [.lit (.bool true)], args := [d1, d2, d3] }
  | _ => none }
def boxTwoRow : OpenClaim := { program := "ytfffmmpibebpcaadoor", sum := "d6f816b59c978576382be679925ab23bf7696b614e6eb2016f9528f26816ce49", func := "scrim/scrimlaw4.BoxTwo", spec := "boxTwo", named := ["scrim/box.ones"], apart := false, laid := [("scrim/box.ones", laid_scrim_box_ones)] }
def BoxTwoSaid : Prop := boxTwoRow.holds Tryd.pinned (OpenSpec.ofChange boxTwoSpec)

/-- ITS FALSE NEIGHBOUR: 'it returns false'. Refute it at one input. -/
def boxTwoWrong : ChangeSpec := { name := "boxTwo", fn := fun _ => fun
  | [d1, d2, d3] => { results := [.lit (.bool false)], args := [d1, d2, d3] }
  | _ => none }
def BoxTwoWrongFalsely : Prop := boxTwoRow.holds Tryd.pinned (OpenSpec.ofChange boxTwoWrong)

/-- 'scrimlaw4.BoxBits': WHATEVER THE INPUT: true; the input reads as it did. -/
def boxBitsSpec : ChangeSpec := { name := "boxBits", fn := fun _ => fun
  | [d1, d2, d3, d4, d5] => { results := [.lit (.bool true)], args := [d1, d2, d3, d4, d5] }
  | _ => none }
def boxBitsRow : OpenClaim := { program := "ytfffmmpibebpcaadoor", sum := "d6f816b59c978576382be679925ab23bf7696b614e6eb2016f9528f26816ce49", func := "scrim/scrimlaw4.BoxBits", spec := "boxBits", named := ["scrim/box.ones"], apart := false, laid := [("scrim/box.ones", laid_scrim_box_ones)] }
def BoxBitsSaid : Prop := boxBitsRow.holds Tryd.pinned (OpenSpec.ofChange boxBitsSpec)

/-- ITS FALSE NEIGHBOUR: 'it returns false'. Refute it at one input. -/
def boxBitsWrong : ChangeSpec := { name := "boxBits", fn := fun _ => fun
  | [d1, d2, d3, d4, d5] => { results := [.lit (.bool false)], args := [d1, d2, d3, d4, d5] }
  | _ => none }
def BoxBitsWrongFalsely : Prop := boxBitsRow.holds Tryd.pinned (OpenSpec.ofChange boxBitsWrong)

/-- 'scrimlaw4.BoxMakes': WHATEVER THE INPUT: true; the input reads as it did. -/
def boxMakesSpec : ChangeSpec := { name := "boxMakes", fn := fun _ => fun
  | [d1, d2, d3, d4] => { results := [.lit (.bool true)], args := [d1, d2, d3, d4] }
  | _ => none }
def boxMakesRow : OpenClaim := { program := "ytfffmmpibebpcaadoor", sum := "d6f816b59c978576382be679925ab23bf7696b614e6eb2016f9528f26816ce49", func := "scrim/scrimlaw4.BoxMakes", spec := "boxMakes", named := ["scrim/box.ones"], apart := false, laid := [("scrim/box.ones", laid_scrim_box_ones)] }
def BoxMakesSaid : Prop := boxMakesRow.holds Tryd.pinned (OpenSpec.ofChange boxMakesSpec)

/-- ITS FALSE NEIGHBOUR: 'it returns false'. Refute it at one input. -/
def boxMakesWrong : ChangeSpec := { name := "boxMakes", fn := fun _ => fun
  | [d1, d2, d3, d4] => { results := [.lit (.bool false)], args := [d1, d2, d3, d4] }
  | _ => none }
def BoxMakesWrongFalsely : Prop := boxMakesRow.holds Tryd.pinned (OpenSpec.ofChange boxMakesWrong)

/-- 'scrimlaw4.BoxOnes': WHATEVER THE INPUT: true; the input reads as it did. -/
def boxOnesSpec : ChangeSpec := { name := "boxOnes", fn := fun _ => fun
  | [d1, d2, d3] => { results := [.lit (.bool true)], args := [d1, d2, d3] }
  | _ => none }
def boxOnesRow : OpenClaim := { program := "ytfffmmpibebpcaadoor", sum := "d6f816b59c978576382be679925ab23bf7696b614e6eb2016f9528f26816ce49", func := "scrim/scrimlaw4.BoxOnes", spec := "boxOnes", named := ["scrim/box.ones"], apart := false, laid := [("scrim/box.ones", laid_scrim_box_ones)] }
def BoxOnesSaid : Prop := boxOnesRow.holds Tryd.pinned (OpenSpec.ofChange boxOnesSpec)

/-- ITS FALSE NEIGHBOUR: 'it returns false'. Refute it at one input. -/
def boxOnesWrong : ChangeSpec := { name := "boxOnes", fn := fun _ => fun
  | [d1, d2, d3] => { results := [.lit (.bool false)], args := [d1, d2, d3] }
  | _ => none }
def BoxOnesWrongFalsely : Prop := boxOnesRow.holds Tryd.pinned (OpenSpec.ofChange boxOnesWrong)

/-- 'scrimlaw4.BoxPowers': WHATEVER THE INPUT: true; the input reads as it did. -/
def boxPowersSpec : ChangeSpec := { name := "boxPowers", fn := fun _ => fun
  | [d1, d2, d3] => { results := [.lit (.bool true)], args := [d1, d2, d3] }
  | _ => none }
def boxPowersRow : OpenClaim := { program := "ytfffmmpibebpcaadoor", sum := "d6f816b59c978576382be679925ab23bf7696b614e6eb2016f9528f26816ce49", func := "scrim/scrimlaw4.BoxPowers", spec := "boxPowers", named := ["scrim/box.ones"], apart := false, laid := [("scrim/box.ones", laid_scrim_box_ones)] }
def BoxPowersSaid : Prop := boxPowersRow.holds Tryd.pinned (OpenSpec.ofChange boxPowersSpec)

/-- ITS FALSE NEIGHBOUR: 'it returns false'. Refute it at one input. -/
def boxPowersWrong : ChangeSpec := { name := "boxPowers", fn := fun _ => fun
  | [d1, d2, d3] => { results := [.lit (.bool false)], args := [d1, d2, d3] }
  | _ => none }
def BoxPowersWrongFalsely : Prop := boxPowersRow.holds Tryd.pinned (OpenSpec.ofChange boxPowersWrong)

/-- 'scrimlaw4.BoxKnown': WHATEVER THE INPUT: true; the input reads as it did. -/
def boxKnownSpec : ChangeSpec := { name := "boxKnown", fn := fun _ => fun
  | [d] => { results := [.lit (.bool true)], args := [d] }
  | _ => none }
def boxKnownRow : OpenClaim := { program := "ytfffmmpibebpcaadoor", sum := "d6f816b59c978576382be679925ab23bf7696b614e6eb2016f9528f26816ce49", func := "scrim/scrimlaw4.BoxKnown", spec := "boxKnown", named := ["scrim/box.ones"], apart := false, laid := [("scrim/box.ones", laid_scrim_box_ones)] }
def BoxKnownSaid : Prop := boxKnownRow.holds Tryd.pinned (OpenSpec.ofChange boxKnownSpec)

/-- ITS FALSE NEIGHBOUR: 'it returns false'. Refute it at one input. -/
def boxKnownWrong : ChangeSpec := { name := "boxKnown", fn := fun _ => fun
  | [d] => { results := [.lit (.bool false)], args := [d] }
  | _ => none }
def BoxKnownWrongFalsely : Prop := boxKnownRow.holds Tryd.pinned (OpenSpec.ofChange boxKnownWrong)

/- THE SECOND FORM. 'bulk': how many values and letters a reading holds, each counted each time it is reached (what is shared counts as often as it is met; a slice's spare places count too). A statement '..UptoSaid' is the law's where the arguments, and the package variables that the reading takes, are together of bulk at most 1048576: NARROWER than '..Said'. Prove '..Said' where nothing that the law and all that it calls make is longer than what came in: it says more and counts as full. Else prove '..UptoSaid'. A law counts once. -/
mutual
def uptoBulk {H : Type} : DataW H → Nat
  | .lit (.string bytes) => bytes.length + 1
  | .lit _ => 1
  | .nil => 1
  | .ptr d => uptoBulk d + 1
  | .slice elems spare => uptoBulkAll elems + uptoBulkAll spare + 1
  | .agg parts => uptoBulkAll parts + 1
  | .iface _ d => uptoBulk d + 1
  | .map entries => uptoBulkEntries entries + 1
  | .held _ => 1
def uptoBulkAll {H : Type} : List (DataW H) → Nat
  | [] => 0
  | d :: r => uptoBulk d + uptoBulkAll r
def uptoBulkEntries {H : Type} : List (Lit × DataW H) → Nat
  | [] => 0
  | x :: r => uptoBulkEntry x + uptoBulkEntries r
def uptoBulkEntry {H : Type} : Lit × DataW H → Nat
  | (.string bytes, d) => bytes.length + uptoBulk d + 1
  | (_, d) => uptoBulk d + 1
 end
def uptoSmall : (H : Type) → List (DataW H) → Bool := fun _ ds => decide (uptoBulkAll ds ≤ 1048576)
def OpenSpec.upto (s : _root_.Go.ChangeSpec) : _root_.Go.OpenSpec := { _root_.Go.OpenSpec.ofChange s with cond := some uptoSmall }

/-- 'scrimlaw4.BoxIs', WHERE WHAT IT READS IS OF BULK AT MOST 1048576: true; the input reads as it did. -/
def boxIsUptoRow : OpenClaim := { program := "ytfffmmpibebpcaadoor", sum := "d6f816b59c978576382be679925ab23bf7696b614e6eb2016f9528f26816ce49", func := "scrim/scrimlaw4.BoxIs", spec := "boxIs", named := ["scrim/box.ones"], apart := false, laid := [("scrim/box.ones", laid_scrim_box_ones)], narrowed := true }
def BoxIsUptoSaid : Prop := boxIsUptoRow.holds Tryd.pinned (OpenSpec.upto boxIsSpec)

/-- 'scrimlaw4.BoxBack', WHERE WHAT IT READS IS OF BULK AT MOST 1048576: true; the input reads as it did. -/
def boxBackUptoRow : OpenClaim := { program := "ytfffmmpibebpcaadoor", sum := "d6f816b59c978576382be679925ab23bf7696b614e6eb2016f9528f26816ce49", func := "scrim/scrimlaw4.BoxBack", spec := "boxBack", named := ["scrim/box.ones"], apart := false, laid := [("scrim/box.ones", laid_scrim_box_ones)], narrowed := true }
def BoxBackUptoSaid : Prop := boxBackUptoRow.holds Tryd.pinned (OpenSpec.upto boxBackSpec)

/-- 'scrimlaw4.BoxAffine', WHERE WHAT IT READS IS OF BULK AT MOST 1048576: true; the input reads as it did. -/
def boxAffineUptoRow : OpenClaim := { program := "ytfffmmpibebpcaadoor", sum := "d6f816b59c978576382be679925ab23bf7696b614e6eb2016f9528f26816ce49", func := "scrim/scrimlaw4.BoxAffine", spec := "boxAffine", named := ["scrim/box.ones"], apart := false, laid := [("scrim/box.ones", laid_scrim_box_ones)], narrowed := true }
def BoxAffineUptoSaid : Prop := boxAffineUptoRow.holds Tryd.pinned (OpenSpec.upto boxAffineSpec)

/-- 'scrimlaw4.BoxTwo', WHERE WHAT IT READS IS OF BULK AT MOST 1048576: true; the input reads as it did. -/
def boxTwoUptoRow : OpenClaim := { program := "ytfffmmpibebpcaadoor", sum := "d6f816b59c978576382be679925ab23bf7696b614e6eb2016f9528f26816ce49", func := "scrim/scrimlaw4.BoxTwo", spec := "boxTwo", named := ["scrim/box.ones"], apart := false, laid := [("scrim/box.ones", laid_scrim_box_ones)], narrowed := true }
def BoxTwoUptoSaid : Prop := boxTwoUptoRow.holds Tryd.pinned (OpenSpec.upto boxTwoSpec)

/-- 'scrimlaw4.BoxBits', WHERE WHAT IT READS IS OF BULK AT MOST 1048576: true; the input reads as it did. -/
def boxBitsUptoRow : OpenClaim := { program := "ytfffmmpibebpcaadoor", sum := "d6f816b59c978576382be679925ab23bf7696b614e6eb2016f9528f26816ce49", func := "scrim/scrimlaw4.BoxBits", spec := "boxBits", named := ["scrim/box.ones"], apart := false, laid := [("scrim/box.ones", laid_scrim_box_ones)], narrowed := true }
def BoxBitsUptoSaid : Prop := boxBitsUptoRow.holds Tryd.pinned (OpenSpec.upto boxBitsSpec)

/-- 'scrimlaw4.BoxMakes', WHERE WHAT IT READS IS OF BULK AT MOST 1048576: true; the input reads as it did. -/
def boxMakesUptoRow : OpenClaim := { program := "ytfffmmpibebpcaadoor", sum := "d6f816b59c978576382be679925ab23bf7696b614e6eb2016f9528f26816ce49", func := "scrim/scrimlaw4.BoxMakes", spec := "boxMakes", named := ["scrim/box.ones"], apart := false, laid := [("scrim/box.ones", laid_scrim_box_ones)], narrowed := true }
def BoxMakesUptoSaid : Prop := boxMakesUptoRow.holds Tryd.pinned (OpenSpec.upto boxMakesSpec)

/-- 'scrimlaw4.BoxOnes', WHERE WHAT IT READS IS OF BULK AT MOST 1048576: true; the input reads as it did. -/
def boxOnesUptoRow : OpenClaim := { program := "ytfffmmpibebpcaadoor", sum := "d6f816b59c978576382be679925ab23bf7696b614e6eb2016f9528f26816ce49", func := "scrim/scrimlaw4.BoxOnes", spec := "boxOnes", named := ["scrim/box.ones"], apart := false, laid := [("scrim/box.ones", laid_scrim_box_ones)], narrowed := true }
def BoxOnesUptoSaid : Prop := boxOnesUptoRow.holds Tryd.pinned (OpenSpec.upto boxOnesSpec)

/-- 'scrimlaw4.BoxPowers', WHERE WHAT IT READS IS OF BULK AT MOST 1048576: true; the input reads as it did. -/
def boxPowersUptoRow : OpenClaim := { program := "ytfffmmpibebpcaadoor", sum := "d6f816b59c978576382be679925ab23bf7696b614e6eb2016f9528f26816ce49", func := "scrim/scrimlaw4.BoxPowers", spec := "boxPowers", named := ["scrim/box.ones"], apart := false, laid := [("scrim/box.ones", laid_scrim_box_ones)], narrowed := true }
def BoxPowersUptoSaid : Prop := boxPowersUptoRow.holds Tryd.pinned (OpenSpec.upto boxPowersSpec)

/-- 'scrimlaw4.BoxKnown', WHERE WHAT IT READS IS OF BULK AT MOST 1048576: true; the input reads as it did. -/
def boxKnownUptoRow : OpenClaim := { program := "ytfffmmpibebpcaadoor", sum := "d6f816b59c978576382be679925ab23bf7696b614e6eb2016f9528f26816ce49", func := "scrim/scrimlaw4.BoxKnown", spec := "boxKnown", named := ["scrim/box.ones"], apart := false, laid := [("scrim/box.ones", laid_scrim_box_ones)], narrowed := true }
def BoxKnownUptoSaid : Prop := boxKnownUptoRow.holds Tryd.pinned (OpenSpec.upto boxKnownSpec)

end Rows
end Go.Proofs.YtfffmmpibebpcaaDoor
