/-
  No cell of these rows narrows 'for every input' (looked for: loops, veiled, ifaces, maps, wideKeys, modest, calm, conditions, laid).
  DERIVED. THE GIVEN ROWS OF THIS SEAT. 11 by the template 'for every input the law returns true; each argument reads behind the call as it read before'; 0 by the template 'total and deterministic' (their statements: YtjhoigcoijinfaaTotals.lean).
  GIVEN WITH THE SEED: the statements are not yours to turn. If you find one false, say at which input.
  Laid BY PROGRAM, IN A SANDBOX (cutbox-rows.mjs): the forced cells as the released guide's own fill.sh prints them over the translation 6e3b118a1e633c3f… (all of the seat's roots in one cut). By AI agents, Wed Nov 11 2026. No macro, syntax, notation, axiom, sorry.
-/
import Derived.Test.YtjhoigcoijinfaaChecked
import GoSem.Claim
import GoSem.ClaimJoined
import GoSem.ClaimMapViews
import Derived.JoinedTies
import Derived.KernelRfl
namespace Go.Proofs.Ytjhoigcoijinfaa
/- THE CELL 'sum', in the pinned program and in every row, IS THE sha256 OF THE DUMP (.gsa) THAT YtjhoigcoijinfaaProg.lean LOADS. Nothing in Lean hashes anything: it is a label: what it is worth is what the hold of that sum in a sandbox is worth. -/
noncomputable def Try.pinned : Pinned := { name := "ytjhoigcoijinfaa", sum := "6e3b118a1e633c3f659771d6f2d2434ca92b4640c75adc9e69a66c667d1f94d1", checked := Try.checked }
namespace Rows
def none {H : Type} : Left H := { results := [], args := [] }

/-- 'scrimlaw1.WordsInc': WHATEVER THE INPUT: true; the input reads as it did. -/
def wordsIncSpec : ChangeSpec := { name := "wordsInc", fn := fun _ => fun
  | [d1, d2] => { results := [.lit (.bool true)], args := [d1, d2] }
  | _ => none }
def wordsIncRow : OpenClaim := { program := "ytjhoigcoijinfaa", sum := "6e3b118a1e633c3f659771d6f2d2434ca92b4640c75adc9e69a66c667d1f94d1", func := "scrim/scrimlaw1.WordsInc", spec := "wordsInc", apart := false }
def WordsIncSaid : Prop := wordsIncRow.holds Try.pinned (OpenSpec.ofChange wordsIncSpec)

/-- ITS FALSE NEIGHBOUR: 'it returns false'. Refute it at one input. -/
def wordsIncWrong : ChangeSpec := { name := "wordsInc", fn := fun _ => fun
  | [d1, d2] => { results := [.lit (.bool false)], args := [d1, d2] }
  | _ => none }
def WordsIncWrongFalsely : Prop := wordsIncRow.holds Try.pinned (OpenSpec.ofChange wordsIncWrong)

/-- 'scrimlaw1.WordsCarry': WHATEVER THE INPUT: true; the input reads as it did. -/
def wordsCarrySpec : ChangeSpec := { name := "wordsCarry", fn := fun _ => fun
  | [d1, d2] => { results := [.lit (.bool true)], args := [d1, d2] }
  | _ => none }
def wordsCarryRow : OpenClaim := { program := "ytjhoigcoijinfaa", sum := "6e3b118a1e633c3f659771d6f2d2434ca92b4640c75adc9e69a66c667d1f94d1", func := "scrim/scrimlaw1.WordsCarry", spec := "wordsCarry", apart := false }
def WordsCarrySaid : Prop := wordsCarryRow.holds Try.pinned (OpenSpec.ofChange wordsCarrySpec)

/-- ITS FALSE NEIGHBOUR: 'it returns false'. Refute it at one input. -/
def wordsCarryWrong : ChangeSpec := { name := "wordsCarry", fn := fun _ => fun
  | [d1, d2] => { results := [.lit (.bool false)], args := [d1, d2] }
  | _ => none }
def WordsCarryWrongFalsely : Prop := wordsCarryRow.holds Try.pinned (OpenSpec.ofChange wordsCarryWrong)

/-- 'scrimlaw1.WordsXor': WHATEVER THE INPUT: true; the input reads as it did. -/
def wordsXorSpec : ChangeSpec := { name := "wordsXor", fn := fun _ => fun
  | [d1, d2] => { results := [.lit (.bool true)], args := [d1, d2] }
  | _ => none }
def wordsXorRow : OpenClaim := { program := "ytjhoigcoijinfaa", sum := "6e3b118a1e633c3f659771d6f2d2434ca92b4640c75adc9e69a66c667d1f94d1", func := "scrim/scrimlaw1.WordsXor", spec := "wordsXor", apart := false }
def WordsXorSaid : Prop := wordsXorRow.holds Try.pinned (OpenSpec.ofChange wordsXorSpec)

/-- ITS FALSE NEIGHBOUR: 'it returns false'. Refute it at one input. -/
def wordsXorWrong : ChangeSpec := { name := "wordsXor", fn := fun _ => fun
  | [d1, d2] => { results := [.lit (.bool false)], args := [d1, d2] }
  | _ => none }
def WordsXorWrongFalsely : Prop := wordsXorRow.holds Try.pinned (OpenSpec.ofChange wordsXorWrong)

/-- 'scrimlaw1.WordsReads': WHATEVER THE INPUT: true; the input reads as it did. -/
def wordsReadsSpec : ChangeSpec := { name := "wordsReads", fn := fun _ => fun
  | [d] => { results := [.lit (.bool true)], args := [d] }
  | _ => none }
def wordsReadsRow : OpenClaim := { program := "ytjhoigcoijinfaa", sum := "6e3b118a1e633c3f659771d6f2d2434ca92b4640c75adc9e69a66c667d1f94d1", func := "scrim/scrimlaw1.WordsReads", spec := "wordsReads", apart := false }
def WordsReadsSaid : Prop := wordsReadsRow.holds Try.pinned (OpenSpec.ofChange wordsReadsSpec)

/-- ITS FALSE NEIGHBOUR: 'it returns false'. Refute it at one input. -/
def wordsReadsWrong : ChangeSpec := { name := "wordsReads", fn := fun _ => fun
  | [d] => { results := [.lit (.bool false)], args := [d] }
  | _ => none }
def WordsReadsWrongFalsely : Prop := wordsReadsRow.holds Try.pinned (OpenSpec.ofChange wordsReadsWrong)

/-- 'scrimlaw1.WordsTurns': WHATEVER THE INPUT: true; the input reads as it did. -/
def wordsTurnsSpec : ChangeSpec := { name := "wordsTurns", fn := fun _ => fun
  | [d1, d2, d3, d4, d5] => { results := [.lit (.bool true)], args := [d1, d2, d3, d4, d5] }
  | _ => none }
def wordsTurnsRow : OpenClaim := { program := "ytjhoigcoijinfaa", sum := "6e3b118a1e633c3f659771d6f2d2434ca92b4640c75adc9e69a66c667d1f94d1", func := "scrim/scrimlaw1.WordsTurns", spec := "wordsTurns", apart := false }
def WordsTurnsSaid : Prop := wordsTurnsRow.holds Try.pinned (OpenSpec.ofChange wordsTurnsSpec)

/-- ITS FALSE NEIGHBOUR: 'it returns false'. Refute it at one input. -/
def wordsTurnsWrong : ChangeSpec := { name := "wordsTurns", fn := fun _ => fun
  | [d1, d2, d3, d4, d5] => { results := [.lit (.bool false)], args := [d1, d2, d3, d4, d5] }
  | _ => none }
def WordsTurnsWrongFalsely : Prop := wordsTurnsRow.holds Try.pinned (OpenSpec.ofChange wordsTurnsWrong)

/-- 'scrimlaw1.WordsAround': WHATEVER THE INPUT: true; the input reads as it did. -/
def wordsAroundSpec : ChangeSpec := { name := "wordsAround", fn := fun _ => fun
  | [d1, d2, d3, d4, d5] => { results := [.lit (.bool true)], args := [d1, d2, d3, d4, d5] }
  | _ => none }
def wordsAroundRow : OpenClaim := { program := "ytjhoigcoijinfaa", sum := "6e3b118a1e633c3f659771d6f2d2434ca92b4640c75adc9e69a66c667d1f94d1", func := "scrim/scrimlaw1.WordsAround", spec := "wordsAround", apart := false }
def WordsAroundSaid : Prop := wordsAroundRow.holds Try.pinned (OpenSpec.ofChange wordsAroundSpec)

/-- ITS FALSE NEIGHBOUR: 'it returns false'. Refute it at one input. -/
def wordsAroundWrong : ChangeSpec := { name := "wordsAround", fn := fun _ => fun
  | [d1, d2, d3, d4, d5] => { results := [.lit (.bool false)], args := [d1, d2, d3, d4, d5] }
  | _ => none }
def WordsAroundWrongFalsely : Prop := wordsAroundRow.holds Try.pinned (OpenSpec.ofChange wordsAroundWrong)

/-- 'scrimlaw1.WordsOwn': WHATEVER THE INPUT: true; the input reads as it did. -/
def wordsOwnSpec : ChangeSpec := { name := "wordsOwn", fn := fun _ => fun
  | [d1, d2] => { results := [.lit (.bool true)], args := [d1, d2] }
  | _ => none }
def wordsOwnRow : OpenClaim := { program := "ytjhoigcoijinfaa", sum := "6e3b118a1e633c3f659771d6f2d2434ca92b4640c75adc9e69a66c667d1f94d1", func := "scrim/scrimlaw1.WordsOwn", spec := "wordsOwn", apart := false }
def WordsOwnSaid : Prop := wordsOwnRow.holds Try.pinned (OpenSpec.ofChange wordsOwnSpec)

/-- ITS FALSE NEIGHBOUR: 'it returns false'. Refute it at one input. -/
def wordsOwnWrong : ChangeSpec := { name := "wordsOwn", fn := fun _ => fun
  | [d1, d2] => { results := [.lit (.bool false)], args := [d1, d2] }
  | _ => none }
def WordsOwnWrongFalsely : Prop := wordsOwnRow.holds Try.pinned (OpenSpec.ofChange wordsOwnWrong)

/-- 'scrimlaw1.WordsHalves': WHATEVER THE INPUT: true; the input reads as it did. -/
def wordsHalvesSpec : ChangeSpec := { name := "wordsHalves", fn := fun _ => fun
  | [d1, d2] => { results := [.lit (.bool true)], args := [d1, d2] }
  | _ => none }
def wordsHalvesRow : OpenClaim := { program := "ytjhoigcoijinfaa", sum := "6e3b118a1e633c3f659771d6f2d2434ca92b4640c75adc9e69a66c667d1f94d1", func := "scrim/scrimlaw1.WordsHalves", spec := "wordsHalves", apart := false }
def WordsHalvesSaid : Prop := wordsHalvesRow.holds Try.pinned (OpenSpec.ofChange wordsHalvesSpec)

/-- ITS FALSE NEIGHBOUR: 'it returns false'. Refute it at one input. -/
def wordsHalvesWrong : ChangeSpec := { name := "wordsHalves", fn := fun _ => fun
  | [d1, d2] => { results := [.lit (.bool false)], args := [d1, d2] }
  | _ => none }
def WordsHalvesWrongFalsely : Prop := wordsHalvesRow.holds Try.pinned (OpenSpec.ofChange wordsHalvesWrong)

/-- 'scrimlaw1.WordsBack': WHATEVER THE INPUT: true; the input reads as it did. -/
def wordsBackSpec : ChangeSpec := { name := "wordsBack", fn := fun _ => fun
  | [d1, d2] => { results := [.lit (.bool true)], args := [d1, d2] }
  | _ => none }
def wordsBackRow : OpenClaim := { program := "ytjhoigcoijinfaa", sum := "6e3b118a1e633c3f659771d6f2d2434ca92b4640c75adc9e69a66c667d1f94d1", func := "scrim/scrimlaw1.WordsBack", spec := "wordsBack", apart := false }
def WordsBackSaid : Prop := wordsBackRow.holds Try.pinned (OpenSpec.ofChange wordsBackSpec)

/-- ITS FALSE NEIGHBOUR: 'it returns false'. Refute it at one input. -/
def wordsBackWrong : ChangeSpec := { name := "wordsBack", fn := fun _ => fun
  | [d1, d2] => { results := [.lit (.bool false)], args := [d1, d2] }
  | _ => none }
def WordsBackWrongFalsely : Prop := wordsBackRow.holds Try.pinned (OpenSpec.ofChange wordsBackWrong)

/-- 'scrimlaw1.WordsRow': WHATEVER THE INPUT: true; the input reads as it did. -/
def wordsRowSpec : ChangeSpec := { name := "wordsRow", fn := fun _ => fun
  | [d1, d2, d3] => { results := [.lit (.bool true)], args := [d1, d2, d3] }
  | _ => none }
def wordsRowRow : OpenClaim := { program := "ytjhoigcoijinfaa", sum := "6e3b118a1e633c3f659771d6f2d2434ca92b4640c75adc9e69a66c667d1f94d1", func := "scrim/scrimlaw1.WordsRow", spec := "wordsRow", apart := false }
def WordsRowSaid : Prop := wordsRowRow.holds Try.pinned (OpenSpec.ofChange wordsRowSpec)

/-- ITS FALSE NEIGHBOUR: 'it returns false'. Refute it at one input. -/
def wordsRowWrong : ChangeSpec := { name := "wordsRow", fn := fun _ => fun
  | [d1, d2, d3] => { results := [.lit (.bool false)], args := [d1, d2, d3] }
  | _ => none }
def WordsRowWrongFalsely : Prop := wordsRowRow.holds Try.pinned (OpenSpec.ofChange wordsRowWrong)

/-- 'scrimlaw1.WordsKnown': WHATEVER THE INPUT: true; the input reads as it did. -/
def wordsKnownSpec : ChangeSpec := { name := "wordsKnown", fn := fun _ => fun
  | [d] => { results := [.lit (.bool true)], args := [d] }
  | _ => none }
def wordsKnownRow : OpenClaim := { program := "ytjhoigcoijinfaa", sum := "6e3b118a1e633c3f659771d6f2d2434ca92b4640c75adc9e69a66c667d1f94d1", func := "scrim/scrimlaw1.WordsKnown", spec := "wordsKnown", apart := false }
def WordsKnownSaid : Prop := wordsKnownRow.holds Try.pinned (OpenSpec.ofChange wordsKnownSpec)

/-- ITS FALSE NEIGHBOUR: 'it returns false'. Refute it at one input. -/
def wordsKnownWrong : ChangeSpec := { name := "wordsKnown", fn := fun _ => fun
  | [d] => { results := [.lit (.bool false)], args := [d] }
  | _ => none }
def WordsKnownWrongFalsely : Prop := wordsKnownRow.holds Try.pinned (OpenSpec.ofChange wordsKnownWrong)

/- THE SECOND FORM. 'bulk': how many values and letters a reading holds, each counted each time it is reached (what is shared counts as often as it is met; a slice's spare places count too). A statement '..UptoSaid' is the law's where the arguments, and the package variables that the reading takes, are together of bulk at most 1048576: NARROWER than '..Said'. Prove '..Said' where nothing that the law and all that it calls make is longer than what came in: it says more and counts as full. Else prove '..UptoSaid'. A law counts once. -/
mutual
def uptoBulk {H : Type} : DataW H → Nat
  | .lit (.string bytes) => bytes.length + 1
  | .lit _ => 1
  | .nil => 1
  | .ptr d => uptoBulk d + 1
  | .slice elems spare => uptoBulkAll elems + uptoBulkAll spare + 1
  | .agg parts => uptoBulkAll parts + 1
  | .iface _ d => uptoBulk d + 1
  | .map entries => uptoBulkEntries entries + 1
  | .held _ => 1
def uptoBulkAll {H : Type} : List (DataW H) → Nat
  | [] => 0
  | d :: r => uptoBulk d + uptoBulkAll r
def uptoBulkEntries {H : Type} : List (Lit × DataW H) → Nat
  | [] => 0
  | x :: r => uptoBulkEntry x + uptoBulkEntries r
def uptoBulkEntry {H : Type} : Lit × DataW H → Nat
  | (.string bytes, d) => bytes.length + uptoBulk d + 1
  | (_, d) => uptoBulk d + 1
 end
def uptoSmall : (H : Type) → List (DataW H) → Bool := fun _ ds => decide (uptoBulkAll ds ≤ 1048576)
def OpenSpec.upto (s : _root_.Go.ChangeSpec) : _root_.Go.OpenSpec := { _root_.Go.OpenSpec.ofChange s with cond := some uptoSmall }

/-- 'scrimlaw1.WordsInc', WHERE WHAT IT READS IS OF BULK AT MOST 1048576: true; the input reads as it did. -/
def wordsIncUptoRow : OpenClaim := { program := "ytjhoigcoijinfaa", sum := "6e3b118a1e633c3f659771d6f2d2434ca92b4640c75adc9e69a66c667d1f94d1", func := "scrim/scrimlaw1.WordsInc", spec := "wordsInc", apart := false, narrowed := true }
def WordsIncUptoSaid : Prop := wordsIncUptoRow.holds Try.pinned (OpenSpec.upto wordsIncSpec)

/-- 'scrimlaw1.WordsCarry', WHERE WHAT IT READS IS OF BULK AT MOST 1048576: true; the input reads as it did. -/
def wordsCarryUptoRow : OpenClaim := { program := "ytjhoigcoijinfaa", sum := "6e3b118a1e633c3f659771d6f2d2434ca92b4640c75adc9e69a66c667d1f94d1", func := "scrim/scrimlaw1.WordsCarry", spec := "wordsCarry", apart := false, narrowed := true }
def WordsCarryUptoSaid : Prop := wordsCarryUptoRow.holds Try.pinned (OpenSpec.upto wordsCarrySpec)

/-- 'scrimlaw1.WordsXor', WHERE WHAT IT READS IS OF BULK AT MOST 1048576: true; the input reads as it did. -/
def wordsXorUptoRow : OpenClaim := { program := "ytjhoigcoijinfaa", sum := "6e3b118a1e633c3f659771d6f2d2434ca92b4640c75adc9e69a66c667d1f94d1", func := "scrim/scrimlaw1.WordsXor", spec := "wordsXor", apart := false, narrowed := true }
def WordsXorUptoSaid : Prop := wordsXorUptoRow.holds Try.pinned (OpenSpec.upto wordsXorSpec)

/-- 'scrimlaw1.WordsReads', WHERE WHAT IT READS IS OF BULK AT MOST 1048576: true; the input reads as it did. -/
def wordsReadsUptoRow : OpenClaim := { program := "ytjhoigcoijinfaa", sum := "6e3b118a1e633c3f659771d6f2d2434ca92b4640c75adc9e69a66c667d1f94d1", func := "scrim/scrimlaw1.WordsReads", spec := "wordsReads", apart := false, narrowed := true }
def WordsReadsUptoSaid : Prop := wordsReadsUptoRow.holds Try.pinned (OpenSpec.upto wordsReadsSpec)

/-- 'scrimlaw1.WordsTurns', WHERE WHAT IT READS IS OF BULK AT MOST 1048576: true; the input reads as it did. -/
def wordsTurnsUptoRow : OpenClaim := { program := "ytjhoigcoijinfaa", sum := "6e3b118a1e633c3f659771d6f2d2434ca92b4640c75adc9e69a66c667d1f94d1", func := "scrim/scrimlaw1.WordsTurns", spec := "wordsTurns", apart := false, narrowed := true }
def WordsTurnsUptoSaid : Prop := wordsTurnsUptoRow.holds Try.pinned (OpenSpec.upto wordsTurnsSpec)

/-- 'scrimlaw1.WordsAround', WHERE WHAT IT READS IS OF BULK AT MOST 1048576: true; the input reads as it did. -/
def wordsAroundUptoRow : OpenClaim := { program := "ytjhoigcoijinfaa", sum := "6e3b118a1e633c3f659771d6f2d2434ca92b4640c75adc9e69a66c667d1f94d1", func := "scrim/scrimlaw1.WordsAround", spec := "wordsAround", apart := false, narrowed := true }
def WordsAroundUptoSaid : Prop := wordsAroundUptoRow.holds Try.pinned (OpenSpec.upto wordsAroundSpec)

/-- 'scrimlaw1.WordsOwn', WHERE WHAT IT READS IS OF BULK AT MOST 1048576: true; the input reads as it did. -/
def wordsOwnUptoRow : OpenClaim := { program := "ytjhoigcoijinfaa", sum := "6e3b118a1e633c3f659771d6f2d2434ca92b4640c75adc9e69a66c667d1f94d1", func := "scrim/scrimlaw1.WordsOwn", spec := "wordsOwn", apart := false, narrowed := true }
def WordsOwnUptoSaid : Prop := wordsOwnUptoRow.holds Try.pinned (OpenSpec.upto wordsOwnSpec)

/-- 'scrimlaw1.WordsHalves', WHERE WHAT IT READS IS OF BULK AT MOST 1048576: true; the input reads as it did. -/
def wordsHalvesUptoRow : OpenClaim := { program := "ytjhoigcoijinfaa", sum := "6e3b118a1e633c3f659771d6f2d2434ca92b4640c75adc9e69a66c667d1f94d1", func := "scrim/scrimlaw1.WordsHalves", spec := "wordsHalves", apart := false, narrowed := true }
def WordsHalvesUptoSaid : Prop := wordsHalvesUptoRow.holds Try.pinned (OpenSpec.upto wordsHalvesSpec)

/-- 'scrimlaw1.WordsBack', WHERE WHAT IT READS IS OF BULK AT MOST 1048576: true; the input reads as it did. -/
def wordsBackUptoRow : OpenClaim := { program := "ytjhoigcoijinfaa", sum := "6e3b118a1e633c3f659771d6f2d2434ca92b4640c75adc9e69a66c667d1f94d1", func := "scrim/scrimlaw1.WordsBack", spec := "wordsBack", apart := false, narrowed := true }
def WordsBackUptoSaid : Prop := wordsBackUptoRow.holds Try.pinned (OpenSpec.upto wordsBackSpec)

/-- 'scrimlaw1.WordsRow', WHERE WHAT IT READS IS OF BULK AT MOST 1048576: true; the input reads as it did. -/
def wordsRowUptoRow : OpenClaim := { program := "ytjhoigcoijinfaa", sum := "6e3b118a1e633c3f659771d6f2d2434ca92b4640c75adc9e69a66c667d1f94d1", func := "scrim/scrimlaw1.WordsRow", spec := "wordsRow", apart := false, narrowed := true }
def WordsRowUptoSaid : Prop := wordsRowUptoRow.holds Try.pinned (OpenSpec.upto wordsRowSpec)

/-- 'scrimlaw1.WordsKnown', WHERE WHAT IT READS IS OF BULK AT MOST 1048576: true; the input reads as it did. -/
def wordsKnownUptoRow : OpenClaim := { program := "ytjhoigcoijinfaa", sum := "6e3b118a1e633c3f659771d6f2d2434ca92b4640c75adc9e69a66c667d1f94d1", func := "scrim/scrimlaw1.WordsKnown", spec := "wordsKnown", apart := false, narrowed := true }
def WordsKnownUptoSaid : Prop := wordsKnownUptoRow.holds Try.pinned (OpenSpec.upto wordsKnownSpec)

end Rows
end Go.Proofs.Ytjhoigcoijinfaa
