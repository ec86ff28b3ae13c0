/-
  No cell of these rows narrows 'for every input' (looked for: loops, veiled, ifaces, maps, wideKeys, modest, calm, conditions, laid).
  DERIVED. THE GIVEN ROWS OF THIS SEAT. 5 by the template 'for every input the law returns true; each argument reads behind the call as it read before'; 0 by the template 'total and deterministic' (their statements: YtngagagokcnnaaaTotals.lean).
  GIVEN WITH THE SEED: the statements are not yours to turn. If you find one false, say at which input.
  Laid BY PROGRAM, IN A SANDBOX (cutbox-rows.mjs): the forced cells as the released guide's own fill.sh prints them over the translation e98d902a7ab48cfa… (all of the seat's roots in one cut). By AI agents, Wed Nov 11 2026. No macro, syntax, notation, axiom, sorry.
-/
import Derived.Test.YtngagagokcnnaaaChecked
import GoSem.Claim
import GoSem.ClaimJoined
import GoSem.ClaimMapViews
import Derived.JoinedTies
import Derived.KernelRfl
namespace Go.Proofs.Ytngagagokcnnaaa
/- THE CELL 'sum', in the pinned program and in every row, IS THE sha256 OF THE DUMP (.gsa) THAT YtngagagokcnnaaaProg.lean LOADS. Nothing in Lean hashes anything: it is a label: what it is worth is what the hold of that sum in a sandbox is worth. -/
noncomputable def Try.pinned : Pinned := { name := "ytngagagokcnnaaa", sum := "e98d902a7ab48cfa183ac2c6b2225ea6e6f18858d5fc95e5ecee5cb738499d94", checked := Try.checked }
namespace Rows
def none {H : Type} : Left H := { results := [], args := [] }

/-- 'scrimlaw9.TwofishKeys': WHATEVER THE INPUT: true; the input reads as it did. -/
def twofishKeysSpec : ChangeSpec := { name := "twofishKeys", fn := fun _ => fun
  | [d1, d2, d3] => { results := [.lit (.bool true)], args := [d1, d2, d3] }
  | _ => none }
def twofishKeysRow : OpenClaim := { program := "ytngagagokcnnaaa", sum := "e98d902a7ab48cfa183ac2c6b2225ea6e6f18858d5fc95e5ecee5cb738499d94", func := "scrim/scrimlaw9.TwofishKeys", spec := "twofishKeys", apart := false }
def TwofishKeysSaid : Prop := twofishKeysRow.holds Try.pinned (OpenSpec.ofChange twofishKeysSpec)

/-- ITS FALSE NEIGHBOUR: 'it returns false'. Refute it at one input. -/
def twofishKeysWrong : ChangeSpec := { name := "twofishKeys", fn := fun _ => fun
  | [d1, d2, d3] => { results := [.lit (.bool false)], args := [d1, d2, d3] }
  | _ => none }
def TwofishKeysWrongFalsely : Prop := twofishKeysRow.holds Try.pinned (OpenSpec.ofChange twofishKeysWrong)

/-- 'scrimlaw9.TwofishQ': WHATEVER THE INPUT: true; the input reads as it did. -/
def twofishQSpec : ChangeSpec := { name := "twofishQ", fn := fun _ => fun
  | [d1, d2] => { results := [.lit (.bool true)], args := [d1, d2] }
  | _ => none }
def twofishQRow : OpenClaim := { program := "ytngagagokcnnaaa", sum := "e98d902a7ab48cfa183ac2c6b2225ea6e6f18858d5fc95e5ecee5cb738499d94", func := "scrim/scrimlaw9.TwofishQ", spec := "twofishQ", apart := false }
def TwofishQSaid : Prop := twofishQRow.holds Try.pinned (OpenSpec.ofChange twofishQSpec)

/-- ITS FALSE NEIGHBOUR: 'it returns false'. Refute it at one input. -/
def twofishQWrong : ChangeSpec := { name := "twofishQ", fn := fun _ => fun
  | [d1, d2] => { results := [.lit (.bool false)], args := [d1, d2] }
  | _ => none }
def TwofishQWrongFalsely : Prop := twofishQRow.holds Try.pinned (OpenSpec.ofChange twofishQWrong)

/-- 'scrimlaw9.TwofishH': WHATEVER THE INPUT: true; the input reads as it did. -/
def twofishHSpec : ChangeSpec := { name := "twofishH", fn := fun _ => fun
  | [d1, d2, d3, d4, d5] => { results := [.lit (.bool true)], args := [d1, d2, d3, d4, d5] }
  | _ => none }
def twofishHRow : OpenClaim := { program := "ytngagagokcnnaaa", sum := "e98d902a7ab48cfa183ac2c6b2225ea6e6f18858d5fc95e5ecee5cb738499d94", func := "scrim/scrimlaw9.TwofishH", spec := "twofishH", apart := false }
def TwofishHSaid : Prop := twofishHRow.holds Try.pinned (OpenSpec.ofChange twofishHSpec)

/-- ITS FALSE NEIGHBOUR: 'it returns false'. Refute it at one input. -/
def twofishHWrong : ChangeSpec := { name := "twofishH", fn := fun _ => fun
  | [d1, d2, d3, d4, d5] => { results := [.lit (.bool false)], args := [d1, d2, d3, d4, d5] }
  | _ => none }
def TwofishHWrongFalsely : Prop := twofishHRow.holds Try.pinned (OpenSpec.ofChange twofishHWrong)

/-- 'scrimlaw9.TwofishRounds': WHATEVER THE INPUT: true; the input reads as it did. -/
def twofishRoundsSpec : ChangeSpec := { name := "twofishRounds", fn := fun _ => fun
  | [d1, d2, d3] => { results := [.lit (.bool true)], args := [d1, d2, d3] }
  | _ => none }
def twofishRoundsRow : OpenClaim := { program := "ytngagagokcnnaaa", sum := "e98d902a7ab48cfa183ac2c6b2225ea6e6f18858d5fc95e5ecee5cb738499d94", func := "scrim/scrimlaw9.TwofishRounds", spec := "twofishRounds", apart := false }
def TwofishRoundsSaid : Prop := twofishRoundsRow.holds Try.pinned (OpenSpec.ofChange twofishRoundsSpec)

/-- ITS FALSE NEIGHBOUR: 'it returns false'. Refute it at one input. -/
def twofishRoundsWrong : ChangeSpec := { name := "twofishRounds", fn := fun _ => fun
  | [d1, d2, d3] => { results := [.lit (.bool false)], args := [d1, d2, d3] }
  | _ => none }
def TwofishRoundsWrongFalsely : Prop := twofishRoundsRow.holds Try.pinned (OpenSpec.ofChange twofishRoundsWrong)

/-- 'scrimlaw9.TwofishWords': WHATEVER THE INPUT: true; the input reads as it did. -/
def twofishWordsSpec : ChangeSpec := { name := "twofishWords", fn := fun _ => fun
  | [d1, d2, d3, d4] => { results := [.lit (.bool true)], args := [d1, d2, d3, d4] }
  | _ => none }
def twofishWordsRow : OpenClaim := { program := "ytngagagokcnnaaa", sum := "e98d902a7ab48cfa183ac2c6b2225ea6e6f18858d5fc95e5ecee5cb738499d94", func := "scrim/scrimlaw9.TwofishWords", spec := "twofishWords", apart := false }
def TwofishWordsSaid : Prop := twofishWordsRow.holds Try.pinned (OpenSpec.ofChange twofishWordsSpec)

/-- ITS FALSE NEIGHBOUR: 'it returns false'. Refute it at one input. -/
def twofishWordsWrong : ChangeSpec := { name := "twofishWords", fn := fun _ => fun
  | [d1, d2, d3, d4] => { results := [.lit (.bool false)], args := [d1, d2, d3, d4] }
  | _ => none }
def TwofishWordsWrongFalsely : Prop := twofishWordsRow.holds Try.pinned (OpenSpec.ofChange twofishWordsWrong)

/- THE SECOND FORM. 'bulk': how many values and letters a reading holds, each counted each time it is reached (what is shared counts as often as it is met; a slice's spare places count too). A statement '..UptoSaid' is the law's where the arguments, and the package variables that the reading takes, are together of bulk at most 1048576: NARROWER than '..Said'. Prove '..Said' where nothing that the law and all that it calls make is longer than what came in: it says more and counts as full. Else prove '..UptoSaid'. A law counts once. -/
mutual
def uptoBulk {H : Type} : DataW H → Nat
  | .lit (.string bytes) => bytes.length + 1
  | .lit _ => 1
  | .nil => 1
  | .ptr d => uptoBulk d + 1
  | .slice elems spare => uptoBulkAll elems + uptoBulkAll spare + 1
  | .agg parts => uptoBulkAll parts + 1
  | .iface _ d => uptoBulk d + 1
  | .map entries => uptoBulkEntries entries + 1
  | .held _ => 1
def uptoBulkAll {H : Type} : List (DataW H) → Nat
  | [] => 0
  | d :: r => uptoBulk d + uptoBulkAll r
def uptoBulkEntries {H : Type} : List (Lit × DataW H) → Nat
  | [] => 0
  | x :: r => uptoBulkEntry x + uptoBulkEntries r
def uptoBulkEntry {H : Type} : Lit × DataW H → Nat
  | (.string bytes, d) => bytes.length + uptoBulk d + 1
  | (_, d) => uptoBulk d + 1
 end
def uptoSmall : (H : Type) → List (DataW H) → Bool := fun _ ds => decide (uptoBulkAll ds ≤ 1048576)
def OpenSpec.upto (s : _root_.Go.ChangeSpec) : _root_.Go.OpenSpec := { _root_.Go.OpenSpec.ofChange s with cond := some uptoSmall }

/-- 'scrimlaw9.TwofishKeys', WHERE WHAT IT READS IS OF BULK AT MOST 1048576: true; the input reads as it did. -/
def twofishKeysUptoRow : OpenClaim := { program := "ytngagagokcnnaaa", sum := "e98d902a7ab48cfa183ac2c6b2225ea6e6f18858d5fc95e5ecee5cb738499d94", func := "scrim/scrimlaw9.TwofishKeys", spec := "twofishKeys", apart := false, narrowed := true }
def TwofishKeysUptoSaid : Prop := twofishKeysUptoRow.holds Try.pinned (OpenSpec.upto twofishKeysSpec)

/-- 'scrimlaw9.TwofishQ', WHERE WHAT IT READS IS OF BULK AT MOST 1048576: true; the input reads as it did. -/
def twofishQUptoRow : OpenClaim := { program := "ytngagagokcnnaaa", sum := "e98d902a7ab48cfa183ac2c6b2225ea6e6f18858d5fc95e5ecee5cb738499d94", func := "scrim/scrimlaw9.TwofishQ", spec := "twofishQ", apart := false, narrowed := true }
def TwofishQUptoSaid : Prop := twofishQUptoRow.holds Try.pinned (OpenSpec.upto twofishQSpec)

/-- 'scrimlaw9.TwofishH', WHERE WHAT IT READS IS OF BULK AT MOST 1048576: true; the input reads as it did. -/
def twofishHUptoRow : OpenClaim := { program := "ytngagagokcnnaaa", sum := "e98d902a7ab48cfa183ac2c6b2225ea6e6f18858d5fc95e5ecee5cb738499d94", func := "scrim/scrimlaw9.TwofishH", spec := "twofishH", apart := false, narrowed := true }
def TwofishHUptoSaid : Prop := twofishHUptoRow.holds Try.pinned (OpenSpec.upto twofishHSpec)

/-- 'scrimlaw9.TwofishRounds', WHERE WHAT IT READS IS OF BULK AT MOST 1048576: true; the input reads as it did. -/
def twofishRoundsUptoRow : OpenClaim := { program := "ytngagagokcnnaaa", sum := "e98d902a7ab48cfa183ac2c6b2225ea6e6f18858d5fc95e5ecee5cb738499d94", func := "scrim/scrimlaw9.TwofishRounds", spec := "twofishRounds", apart := false, narrowed := true }
def TwofishRoundsUptoSaid : Prop := twofishRoundsUptoRow.holds Try.pinned (OpenSpec.upto twofishRoundsSpec)

/-- 'scrimlaw9.TwofishWords', WHERE WHAT IT READS IS OF BULK AT MOST 1048576: true; the input reads as it did. -/
def twofishWordsUptoRow : OpenClaim := { program := "ytngagagokcnnaaa", sum := "e98d902a7ab48cfa183ac2c6b2225ea6e6f18858d5fc95e5ecee5cb738499d94", func := "scrim/scrimlaw9.TwofishWords", spec := "twofishWords", apart := false, narrowed := true }
def TwofishWordsUptoSaid : Prop := twofishWordsUptoRow.holds Try.pinned (OpenSpec.upto twofishWordsSpec)

end Rows
end Go.Proofs.Ytngagagokcnnaaa
