/-
  No cell of these rows narrows 'for every input' (looked for: loops, veiled, ifaces, maps, wideKeys, modest, calm, conditions, laid).
  DERIVED. THE GIVEN ROWS OF THIS SEAT. 9 by the template 'for every input the law returns true; each argument reads behind the call as it read before'; 0 by the template 'total and deterministic' (their statements: YtlmfmbbkhmnipaaTotals.lean).
  GIVEN WITH THE SEED: the statements are not yours to turn. If you find one false, say at which input.
  Laid BY PROGRAM, IN A SANDBOX (cutbox-rows.mjs): the forced cells as the released guide's own fill.sh prints them over the translation aaec713182b11c11… (all of the seat's roots in one cut). By AI agents, Wed Nov 11 2026. No macro, syntax, notation, axiom, sorry.
-/
import Derived.Test.YtlmfmbbkhmnipaaChecked
import GoSem.Claim
import GoSem.ClaimJoined
import GoSem.ClaimMapViews
import Derived.JoinedTies
import Derived.KernelRfl
namespace Go.Proofs.Ytlmfmbbkhmnipaa
/- THE CELL 'sum', in the pinned program and in every row, IS THE sha256 OF THE DUMP (.gsa) THAT YtlmfmbbkhmnipaaProg.lean LOADS. Nothing in Lean hashes anything: it is a label: what it is worth is what the hold of that sum in a sandbox is worth. -/
noncomputable def Try.pinned : Pinned := { name := "ytlmfmbbkhmnipaa", sum := "aaec713182b11c110fff23815989bfc72d793f6af1b0a58180e5501a6b6c06f4", checked := Try.checked }
namespace Rows
def none {H : Type} : Left H := { results := [], args := [] }

/-- 'scrimlaw3.FieldAll': WHATEVER THE INPUT: true; the input reads as it did. -/
def fieldAllSpec : ChangeSpec := { name := "fieldAll", fn := fun _ => fun
  | [d1, d2, d3, d4] => { results := [.lit (.bool true)], args := [d1, d2, d3, d4] }
  | _ => none }
def fieldAllRow : OpenClaim := { program := "ytlmfmbbkhmnipaa", sum := "aaec713182b11c110fff23815989bfc72d793f6af1b0a58180e5501a6b6c06f4", func := "scrim/scrimlaw3.FieldAll", spec := "fieldAll", apart := false }
def FieldAllSaid : Prop := fieldAllRow.holds Try.pinned (OpenSpec.ofChange fieldAllSpec)

/-- ITS FALSE NEIGHBOUR: 'it returns false'. Refute it at one input. -/
def fieldAllWrong : ChangeSpec := { name := "fieldAll", fn := fun _ => fun
  | [d1, d2, d3, d4] => { results := [.lit (.bool false)], args := [d1, d2, d3, d4] }
  | _ => none }
def FieldAllWrongFalsely : Prop := fieldAllRow.holds Try.pinned (OpenSpec.ofChange fieldAllWrong)

/-- 'scrimlaw3.FieldRules': WHATEVER THE INPUT: true; the input reads as it did. -/
def fieldRulesSpec : ChangeSpec := { name := "fieldRules", fn := fun _ => fun
  | [d1, d2, d3, d4] => { results := [.lit (.bool true)], args := [d1, d2, d3, d4] }
  | _ => none }
def fieldRulesRow : OpenClaim := { program := "ytlmfmbbkhmnipaa", sum := "aaec713182b11c110fff23815989bfc72d793f6af1b0a58180e5501a6b6c06f4", func := "scrim/scrimlaw3.FieldRules", spec := "fieldRules", apart := false }
def FieldRulesSaid : Prop := fieldRulesRow.holds Try.pinned (OpenSpec.ofChange fieldRulesSpec)

/-- ITS FALSE NEIGHBOUR: 'it returns false'. Refute it at one input. -/
def fieldRulesWrong : ChangeSpec := { name := "fieldRules", fn := fun _ => fun
  | [d1, d2, d3, d4] => { results := [.lit (.bool false)], args := [d1, d2, d3, d4] }
  | _ => none }
def FieldRulesWrongFalsely : Prop := fieldRulesRow.holds Try.pinned (OpenSpec.ofChange fieldRulesWrong)

/-- 'scrimlaw3.FieldInv': WHATEVER THE INPUT: true; the input reads as it did. -/
def fieldInvSpec : ChangeSpec := { name := "fieldInv", fn := fun _ => fun
  | [d1, d2, d3] => { results := [.lit (.bool true)], args := [d1, d2, d3] }
  | _ => none }
def fieldInvRow : OpenClaim := { program := "ytlmfmbbkhmnipaa", sum := "aaec713182b11c110fff23815989bfc72d793f6af1b0a58180e5501a6b6c06f4", func := "scrim/scrimlaw3.FieldInv", spec := "fieldInv", apart := false }
def FieldInvSaid : Prop := fieldInvRow.holds Try.pinned (OpenSpec.ofChange fieldInvSpec)

/-- ITS FALSE NEIGHBOUR: 'it returns false'. Refute it at one input. -/
def fieldInvWrong : ChangeSpec := { name := "fieldInv", fn := fun _ => fun
  | [d1, d2, d3] => { results := [.lit (.bool false)], args := [d1, d2, d3] }
  | _ => none }
def FieldInvWrongFalsely : Prop := fieldInvRow.holds Try.pinned (OpenSpec.ofChange fieldInvWrong)

/-- 'scrimlaw3.FieldPows': WHATEVER THE INPUT: true; the input reads as it did. -/
def fieldPowsSpec : ChangeSpec := { name := "fieldPows", fn := fun _ => fun
  | [d1, d2, d3, d4] => { results := [.lit (.bool true)], args := [d1, d2, d3, d4] }
  | _ => none }
def fieldPowsRow : OpenClaim := { program := "ytlmfmbbkhmnipaa", sum := "aaec713182b11c110fff23815989bfc72d793f6af1b0a58180e5501a6b6c06f4", func := "scrim/scrimlaw3.FieldPows", spec := "fieldPows", apart := false }
def FieldPowsSaid : Prop := fieldPowsRow.holds Try.pinned (OpenSpec.ofChange fieldPowsSpec)

/-- ITS FALSE NEIGHBOUR: 'it returns false'. Refute it at one input. -/
def fieldPowsWrong : ChangeSpec := { name := "fieldPows", fn := fun _ => fun
  | [d1, d2, d3, d4] => { results := [.lit (.bool false)], args := [d1, d2, d3, d4] }
  | _ => none }
def FieldPowsWrongFalsely : Prop := fieldPowsRow.holds Try.pinned (OpenSpec.ofChange fieldPowsWrong)

/-- 'scrimlaw3.FieldSquare': WHATEVER THE INPUT: true; the input reads as it did. -/
def fieldSquareSpec : ChangeSpec := { name := "fieldSquare", fn := fun _ => fun
  | [d1, d2, d3] => { results := [.lit (.bool true)], args := [d1, d2, d3] }
  | _ => none }
def fieldSquareRow : OpenClaim := { program := "ytlmfmbbkhmnipaa", sum := "aaec713182b11c110fff23815989bfc72d793f6af1b0a58180e5501a6b6c06f4", func := "scrim/scrimlaw3.FieldSquare", spec := "fieldSquare", apart := false }
def FieldSquareSaid : Prop := fieldSquareRow.holds Try.pinned (OpenSpec.ofChange fieldSquareSpec)

/-- ITS FALSE NEIGHBOUR: 'it returns false'. Refute it at one input. -/
def fieldSquareWrong : ChangeSpec := { name := "fieldSquare", fn := fun _ => fun
  | [d1, d2, d3] => { results := [.lit (.bool false)], args := [d1, d2, d3] }
  | _ => none }
def FieldSquareWrongFalsely : Prop := fieldSquareRow.holds Try.pinned (OpenSpec.ofChange fieldSquareWrong)

/-- 'scrimlaw3.FieldNone': WHATEVER THE INPUT: true; the input reads as it did. -/
def fieldNoneSpec : ChangeSpec := { name := "fieldNone", fn := fun _ => fun
  | [d1, d2] => { results := [.lit (.bool true)], args := [d1, d2] }
  | _ => none }
def fieldNoneRow : OpenClaim := { program := "ytlmfmbbkhmnipaa", sum := "aaec713182b11c110fff23815989bfc72d793f6af1b0a58180e5501a6b6c06f4", func := "scrim/scrimlaw3.FieldNone", spec := "fieldNone", apart := false }
def FieldNoneSaid : Prop := fieldNoneRow.holds Try.pinned (OpenSpec.ofChange fieldNoneSpec)

/-- ITS FALSE NEIGHBOUR: 'it returns false'. Refute it at one input. -/
def fieldNoneWrong : ChangeSpec := { name := "fieldNone", fn := fun _ => fun
  | [d1, d2] => { results := [.lit (.bool false)], args := [d1, d2] }
  | _ => none }
def FieldNoneWrongFalsely : Prop := fieldNoneRow.holds Try.pinned (OpenSpec.ofChange fieldNoneWrong)

/-- 'scrimlaw3.FieldKnown': WHATEVER THE INPUT: true; the input reads as it did. -/
def fieldKnownSpec : ChangeSpec := { name := "fieldKnown", fn := fun _ => fun
  | [d] => { results := [.lit (.bool true)], args := [d] }
  | _ => none }
def fieldKnownRow : OpenClaim := { program := "ytlmfmbbkhmnipaa", sum := "aaec713182b11c110fff23815989bfc72d793f6af1b0a58180e5501a6b6c06f4", func := "scrim/scrimlaw3.FieldKnown", spec := "fieldKnown", apart := false }
def FieldKnownSaid : Prop := fieldKnownRow.holds Try.pinned (OpenSpec.ofChange fieldKnownSpec)

/-- ITS FALSE NEIGHBOUR: 'it returns false'. Refute it at one input. -/
def fieldKnownWrong : ChangeSpec := { name := "fieldKnown", fn := fun _ => fun
  | [d] => { results := [.lit (.bool false)], args := [d] }
  | _ => none }
def FieldKnownWrongFalsely : Prop := fieldKnownRow.holds Try.pinned (OpenSpec.ofChange fieldKnownWrong)

/-- 'scrimlaw3.FieldOnce': WHATEVER THE INPUT: true; the input reads as it did. -/
def fieldOnceSpec : ChangeSpec := { name := "fieldOnce", fn := fun _ => fun
  | [d1, d2] => { results := [.lit (.bool true)], args := [d1, d2] }
  | _ => none }
def fieldOnceRow : OpenClaim := { program := "ytlmfmbbkhmnipaa", sum := "aaec713182b11c110fff23815989bfc72d793f6af1b0a58180e5501a6b6c06f4", func := "scrim/scrimlaw3.FieldOnce", spec := "fieldOnce", apart := false }
def FieldOnceSaid : Prop := fieldOnceRow.holds Try.pinned (OpenSpec.ofChange fieldOnceSpec)

/-- ITS FALSE NEIGHBOUR: 'it returns false'. Refute it at one input. -/
def fieldOnceWrong : ChangeSpec := { name := "fieldOnce", fn := fun _ => fun
  | [d1, d2] => { results := [.lit (.bool false)], args := [d1, d2] }
  | _ => none }
def FieldOnceWrongFalsely : Prop := fieldOnceRow.holds Try.pinned (OpenSpec.ofChange fieldOnceWrong)

/-- 'scrimlaw3.FieldDouble': WHATEVER THE INPUT: true; the input reads as it did. -/
def fieldDoubleSpec : ChangeSpec := { name := "fieldDouble", fn := fun _ => fun
  | [d1, d2, d3] => { results := [.lit (.bool true)], args := [d1, d2, d3] }
  | _ => none }
def fieldDoubleRow : OpenClaim := { program := "ytlmfmbbkhmnipaa", sum := "aaec713182b11c110fff23815989bfc72d793f6af1b0a58180e5501a6b6c06f4", func := "scrim/scrimlaw3.FieldDouble", spec := "fieldDouble", apart := false }
def FieldDoubleSaid : Prop := fieldDoubleRow.holds Try.pinned (OpenSpec.ofChange fieldDoubleSpec)

/-- ITS FALSE NEIGHBOUR: 'it returns false'. Refute it at one input. -/
def fieldDoubleWrong : ChangeSpec := { name := "fieldDouble", fn := fun _ => fun
  | [d1, d2, d3] => { results := [.lit (.bool false)], args := [d1, d2, d3] }
  | _ => none }
def FieldDoubleWrongFalsely : Prop := fieldDoubleRow.holds Try.pinned (OpenSpec.ofChange fieldDoubleWrong)

/- THE SECOND FORM. 'bulk': how many values and letters a reading holds, each counted each time it is reached (what is shared counts as often as it is met; a slice's spare places count too). A statement '..UptoSaid' is the law's where the arguments, and the package variables that the reading takes, are together of bulk at most 1048576: NARROWER than '..Said'. Prove '..Said' where nothing that the law and all that it calls make is longer than what came in: it says more and counts as full. Else prove '..UptoSaid'. A law counts once. -/
mutual
def uptoBulk {H : Type} : DataW H → Nat
  | .lit (.string bytes) => bytes.length + 1
  | .lit _ => 1
  | .nil => 1
  | .ptr d => uptoBulk d + 1
  | .slice elems spare => uptoBulkAll elems + uptoBulkAll spare + 1
  | .agg parts => uptoBulkAll parts + 1
  | .iface _ d => uptoBulk d + 1
  | .map entries => uptoBulkEntries entries + 1
  | .held _ => 1
def uptoBulkAll {H : Type} : List (DataW H) → Nat
  | [] => 0
  | d :: r => uptoBulk d + uptoBulkAll r
def uptoBulkEntries {H : Type} : List (Lit × DataW H) → Nat
  | [] => 0
  | x :: r => uptoBulkEntry x + uptoBulkEntries r
def uptoBulkEntry {H : Type} : Lit × DataW H → Nat
  | (.string bytes, d) => bytes.length + uptoBulk d + 1
  | (_, d) => uptoBulk d + 1
 end
def uptoSmall : (H : Type) → List (DataW H) → Bool := fun _ ds => decide (uptoBulkAll ds ≤ 1048576)
def OpenSpec.upto (s : _root_.Go.ChangeSpec) : _root_.Go.OpenSpec := { _root_.Go.OpenSpec.ofChange s with cond := some uptoSmall }

/-- 'scrimlaw3.FieldAll', WHERE WHAT IT READS IS OF BULK AT MOST 1048576: true; the input reads as it did. -/
def fieldAllUptoRow : OpenClaim := { program := "ytlmfmbbkhmnipaa", sum := "aaec713182b11c110fff23815989bfc72d793f6af1b0a58180e5501a6b6c06f4", func := "scrim/scrimlaw3.FieldAll", spec := "fieldAll", apart := false, narrowed := true }
def FieldAllUptoSaid : Prop := fieldAllUptoRow.holds Try.pinned (OpenSpec.upto fieldAllSpec)

/-- 'scrimlaw3.FieldRules', WHERE WHAT IT READS IS OF BULK AT MOST 1048576: true; the input reads as it did. -/
def fieldRulesUptoRow : OpenClaim := { program := "ytlmfmbbkhmnipaa", sum := "aaec713182b11c110fff23815989bfc72d793f6af1b0a58180e5501a6b6c06f4", func := "scrim/scrimlaw3.FieldRules", spec := "fieldRules", apart := false, narrowed := true }
def FieldRulesUptoSaid : Prop := fieldRulesUptoRow.holds Try.pinned (OpenSpec.upto fieldRulesSpec)

/-- 'scrimlaw3.FieldInv', WHERE WHAT IT READS IS OF BULK AT MOST 1048576: true; the input reads as it did. -/
def fieldInvUptoRow : OpenClaim := { program := "ytlmfmbbkhmnipaa", sum := "aaec713182b11c110fff23815989bfc72d793f6af1b0a58180e5501a6b6c06f4", func := "scrim/scrimlaw3.FieldInv", spec := "fieldInv", apart := false, narrowed := true }
def FieldInvUptoSaid : Prop := fieldInvUptoRow.holds Try.pinned (OpenSpec.upto fieldInvSpec)

/-- 'scrimlaw3.FieldPows', WHERE WHAT IT READS IS OF BULK AT MOST 1048576: true; the input reads as it did. -/
def fieldPowsUptoRow : OpenClaim := { program := "ytlmfmbbkhmnipaa", sum := "aaec713182b11c110fff23815989bfc72d793f6af1b0a58180e5501a6b6c06f4", func := "scrim/scrimlaw3.FieldPows", spec := "fieldPows", apart := false, narrowed := true }
def FieldPowsUptoSaid : Prop := fieldPowsUptoRow.holds Try.pinned (OpenSpec.upto fieldPowsSpec)

/-- 'scrimlaw3.FieldSquare', WHERE WHAT IT READS IS OF BULK AT MOST 1048576: true; the input reads as it did. -/
def fieldSquareUptoRow : OpenClaim := { program := "ytlmfmbbkhmnipaa", sum := "aaec713182b11c110fff23815989bfc72d793f6af1b0a58180e5501a6b6c06f4", func := "scrim/scrimlaw3.FieldSquare", spec := "fieldSquare", apart := false, narrowed := true }
def FieldSquareUptoSaid : Prop := fieldSquareUptoRow.holds Try.pinned (OpenSpec.upto fieldSquareSpec)

/-- 'scrimlaw3.FieldNone', WHERE WHAT IT READS IS OF BULK AT MOST 1048576: true; the input reads as it did. -/
def fieldNoneUptoRow : OpenClaim := { program := "ytlmfmbbkhmnipaa", sum := "aaec713182b11c110fff23815989bfc72d793f6af1b0a58180e5501a6b6c06f4", func := "scrim/scrimlaw3.FieldNone", spec := "fieldNone", apart := false, narrowed := true }
def FieldNoneUptoSaid : Prop := fieldNoneUptoRow.holds Try.pinned (OpenSpec.upto fieldNoneSpec)

/-- 'scrimlaw3.FieldKnown', WHERE WHAT IT READS IS OF BULK AT MOST 1048576: true; the input reads as it did. -/
def fieldKnownUptoRow : OpenClaim := { program := "ytlmfmbbkhmnipaa", sum := "aaec713182b11c110fff23815989bfc72d793f6af1b0a58180e5501a6b6c06f4", func := "scrim/scrimlaw3.FieldKnown", spec := "fieldKnown", apart := false, narrowed := true }
def FieldKnownUptoSaid : Prop := fieldKnownUptoRow.holds Try.pinned (OpenSpec.upto fieldKnownSpec)

/-- 'scrimlaw3.FieldOnce', WHERE WHAT IT READS IS OF BULK AT MOST 1048576: true; the input reads as it did. -/
def fieldOnceUptoRow : OpenClaim := { program := "ytlmfmbbkhmnipaa", sum := "aaec713182b11c110fff23815989bfc72d793f6af1b0a58180e5501a6b6c06f4", func := "scrim/scrimlaw3.FieldOnce", spec := "fieldOnce", apart := false, narrowed := true }
def FieldOnceUptoSaid : Prop := fieldOnceUptoRow.holds Try.pinned (OpenSpec.upto fieldOnceSpec)

/-- 'scrimlaw3.FieldDouble', WHERE WHAT IT READS IS OF BULK AT MOST 1048576: true; the input reads as it did. -/
def fieldDoubleUptoRow : OpenClaim := { program := "ytlmfmbbkhmnipaa", sum := "aaec713182b11c110fff23815989bfc72d793f6af1b0a58180e5501a6b6c06f4", func := "scrim/scrimlaw3.FieldDouble", spec := "fieldDouble", apart := false, narrowed := true }
def FieldDoubleUptoSaid : Prop := fieldDoubleUptoRow.holds Try.pinned (OpenSpec.upto fieldDoubleSpec)

end Rows
end Go.Proofs.Ytlmfmbbkhmnipaa
