/-
  No cell of these rows narrows 'for every input' (looked for: loops, veiled, ifaces, maps, wideKeys, modest, calm, conditions, laid).
  DERIVED. THE GIVEN ROWS OF THIS SEAT. 9 by the template 'for every input the law returns true; each argument reads behind the call as it read before'; 0 by the template 'total and deterministic' (their statements: YtahfhogifkkoeaaTotals.lean).
  GIVEN WITH THE SEED: the statements are not yours to turn. If you find one false, say at which input.
  Laid BY PROGRAM, IN A SANDBOX (cutbox-rows.mjs): the forced cells as the released guide's own fill.sh prints them over the translation e6587c6110419204… (all of the seat's roots in one cut). By AI agents, Wed Nov 11 2026. No macro, syntax, notation, axiom, sorry.
-/
import Derived.Test.YtahfhogifkkoeaaChecked
import GoSem.Claim
import GoSem.ClaimJoined
import GoSem.ClaimMapViews
import Derived.JoinedTies
import Derived.KernelRfl
namespace Go.Proofs.Ytahfhogifkkoeaa
/- THE CELL 'sum', in the pinned program and in every row, IS THE sha256 OF THE DUMP (.gsa) THAT YtahfhogifkkoeaaProg.lean LOADS. Nothing in Lean hashes anything: it is a label: what it is worth is what the hold of that sum in a sandbox is worth. -/
noncomputable def Try.pinned : Pinned := { name := "ytahfhogifkkoeaa", sum := "e6587c61104192045d26c6b7e0044f5ec3c51a8374f1d94ae7f88a2a94a364c3", checked := Try.checked }
namespace Rows
def none {H : Type} : Left H := { results := [], args := [] }

/-- 'scrimlaw8.SmallBlocks': WHATEVER THE INPUT: true; the input reads as it did. -/
def smallBlocksSpec : ChangeSpec := { name := "smallBlocks", fn := fun _ => fun
  | [d1, d2, d3] => { results := [.lit (.bool true)], args := [d1, d2, d3] }
  | _ => none }
def smallBlocksRow : OpenClaim := { program := "ytahfhogifkkoeaa", sum := "e6587c61104192045d26c6b7e0044f5ec3c51a8374f1d94ae7f88a2a94a364c3", func := "scrim/scrimlaw8.SmallBlocks", spec := "smallBlocks", apart := false }
def SmallBlocksSaid : Prop := smallBlocksRow.holds Try.pinned (OpenSpec.ofChange smallBlocksSpec)

/-- ITS FALSE NEIGHBOUR: 'it returns false'. Refute it at one input. -/
def smallBlocksWrong : ChangeSpec := { name := "smallBlocks", fn := fun _ => fun
  | [d1, d2, d3] => { results := [.lit (.bool false)], args := [d1, d2, d3] }
  | _ => none }
def SmallBlocksWrongFalsely : Prop := smallBlocksRow.holds Try.pinned (OpenSpec.ofChange smallBlocksWrong)

/-- 'scrimlaw8.SmallBack': WHATEVER THE INPUT: true; the input reads as it did. -/
def smallBackSpec : ChangeSpec := { name := "smallBack", fn := fun _ => fun
  | [d1, d2, d3, d4] => { results := [.lit (.bool true)], args := [d1, d2, d3, d4] }
  | _ => none }
def smallBackRow : OpenClaim := { program := "ytahfhogifkkoeaa", sum := "e6587c61104192045d26c6b7e0044f5ec3c51a8374f1d94ae7f88a2a94a364c3", func := "scrim/scrimlaw8.SmallBack", spec := "smallBack", apart := false }
def SmallBackSaid : Prop := smallBackRow.holds Try.pinned (OpenSpec.ofChange smallBackSpec)

/-- ITS FALSE NEIGHBOUR: 'it returns false'. Refute it at one input. -/
def smallBackWrong : ChangeSpec := { name := "smallBack", fn := fun _ => fun
  | [d1, d2, d3, d4] => { results := [.lit (.bool false)], args := [d1, d2, d3, d4] }
  | _ => none }
def SmallBackWrongFalsely : Prop := smallBackRow.holds Try.pinned (OpenSpec.ofChange smallBackWrong)

/-- 'scrimlaw8.SmallG': WHATEVER THE INPUT: true; the input reads as it did. -/
def smallGSpec : ChangeSpec := { name := "smallG", fn := fun _ => fun
  | [d1, d2, d3] => { results := [.lit (.bool true)], args := [d1, d2, d3] }
  | _ => none }
def smallGRow : OpenClaim := { program := "ytahfhogifkkoeaa", sum := "e6587c61104192045d26c6b7e0044f5ec3c51a8374f1d94ae7f88a2a94a364c3", func := "scrim/scrimlaw8.SmallG", spec := "smallG", apart := false }
def SmallGSaid : Prop := smallGRow.holds Try.pinned (OpenSpec.ofChange smallGSpec)

/-- ITS FALSE NEIGHBOUR: 'it returns false'. Refute it at one input. -/
def smallGWrong : ChangeSpec := { name := "smallG", fn := fun _ => fun
  | [d1, d2, d3] => { results := [.lit (.bool false)], args := [d1, d2, d3] }
  | _ => none }
def SmallGWrongFalsely : Prop := smallGRow.holds Try.pinned (OpenSpec.ofChange smallGWrong)

/-- 'scrimlaw8.SmallErrs': WHATEVER THE INPUT: true; the input reads as it did. -/
def smallErrsSpec : ChangeSpec := { name := "smallErrs", fn := fun _ => fun
  | [d1, d2, d3, d4] => { results := [.lit (.bool true)], args := [d1, d2, d3, d4] }
  | _ => none }
def smallErrsRow : OpenClaim := { program := "ytahfhogifkkoeaa", sum := "e6587c61104192045d26c6b7e0044f5ec3c51a8374f1d94ae7f88a2a94a364c3", func := "scrim/scrimlaw8.SmallErrs", spec := "smallErrs", apart := false }
def SmallErrsSaid : Prop := smallErrsRow.holds Try.pinned (OpenSpec.ofChange smallErrsSpec)

/-- ITS FALSE NEIGHBOUR: 'it returns false'. Refute it at one input. -/
def smallErrsWrong : ChangeSpec := { name := "smallErrs", fn := fun _ => fun
  | [d1, d2, d3, d4] => { results := [.lit (.bool false)], args := [d1, d2, d3, d4] }
  | _ => none }
def SmallErrsWrongFalsely : Prop := smallErrsRow.holds Try.pinned (OpenSpec.ofChange smallErrsWrong)

/-- 'scrimlaw8.SmallOwn': WHATEVER THE INPUT: true; the input reads as it did. -/
def smallOwnSpec : ChangeSpec := { name := "smallOwn", fn := fun _ => fun
  | [d1, d2, d3, d4] => { results := [.lit (.bool true)], args := [d1, d2, d3, d4] }
  | _ => none }
def smallOwnRow : OpenClaim := { program := "ytahfhogifkkoeaa", sum := "e6587c61104192045d26c6b7e0044f5ec3c51a8374f1d94ae7f88a2a94a364c3", func := "scrim/scrimlaw8.SmallOwn", spec := "smallOwn", apart := false }
def SmallOwnSaid : Prop := smallOwnRow.holds Try.pinned (OpenSpec.ofChange smallOwnSpec)

/-- ITS FALSE NEIGHBOUR: 'it returns false'. Refute it at one input. -/
def smallOwnWrong : ChangeSpec := { name := "smallOwn", fn := fun _ => fun
  | [d1, d2, d3, d4] => { results := [.lit (.bool false)], args := [d1, d2, d3, d4] }
  | _ => none }
def SmallOwnWrongFalsely : Prop := smallOwnRow.holds Try.pinned (OpenSpec.ofChange smallOwnWrong)

/-- 'scrimlaw8.SmallApart': WHATEVER THE INPUT: true; the input reads as it did. -/
def smallApartSpec : ChangeSpec := { name := "smallApart", fn := fun _ => fun
  | [d1, d2] => { results := [.lit (.bool true)], args := [d1, d2] }
  | _ => none }
def smallApartRow : OpenClaim := { program := "ytahfhogifkkoeaa", sum := "e6587c61104192045d26c6b7e0044f5ec3c51a8374f1d94ae7f88a2a94a364c3", func := "scrim/scrimlaw8.SmallApart", spec := "smallApart", apart := false }
def SmallApartSaid : Prop := smallApartRow.holds Try.pinned (OpenSpec.ofChange smallApartSpec)

/-- ITS FALSE NEIGHBOUR: 'it returns false'. Refute it at one input. -/
def smallApartWrong : ChangeSpec := { name := "smallApart", fn := fun _ => fun
  | [d1, d2] => { results := [.lit (.bool false)], args := [d1, d2] }
  | _ => none }
def SmallApartWrongFalsely : Prop := smallApartRow.holds Try.pinned (OpenSpec.ofChange smallApartWrong)

/-- 'scrimlaw8.SmallMagma': WHATEVER THE INPUT: true; the input reads as it did. -/
def smallMagmaSpec : ChangeSpec := { name := "smallMagma", fn := fun _ => fun
  | [d1, d2, d3] => { results := [.lit (.bool true)], args := [d1, d2, d3] }
  | _ => none }
def smallMagmaRow : OpenClaim := { program := "ytahfhogifkkoeaa", sum := "e6587c61104192045d26c6b7e0044f5ec3c51a8374f1d94ae7f88a2a94a364c3", func := "scrim/scrimlaw8.SmallMagma", spec := "smallMagma", apart := false }
def SmallMagmaSaid : Prop := smallMagmaRow.holds Try.pinned (OpenSpec.ofChange smallMagmaSpec)

/-- ITS FALSE NEIGHBOUR: 'it returns false'. Refute it at one input. -/
def smallMagmaWrong : ChangeSpec := { name := "smallMagma", fn := fun _ => fun
  | [d1, d2, d3] => { results := [.lit (.bool false)], args := [d1, d2, d3] }
  | _ => none }
def SmallMagmaWrongFalsely : Prop := smallMagmaRow.holds Try.pinned (OpenSpec.ofChange smallMagmaWrong)

/-- 'scrimlaw8.SmallRows': WHATEVER THE INPUT: true; the input reads as it did. -/
def smallRowsSpec : ChangeSpec := { name := "smallRows", fn := fun _ => fun
  | [d1, d2, d3] => { results := [.lit (.bool true)], args := [d1, d2, d3] }
  | _ => none }
def smallRowsRow : OpenClaim := { program := "ytahfhogifkkoeaa", sum := "e6587c61104192045d26c6b7e0044f5ec3c51a8374f1d94ae7f88a2a94a364c3", func := "scrim/scrimlaw8.SmallRows", spec := "smallRows", apart := false }
def SmallRowsSaid : Prop := smallRowsRow.holds Try.pinned (OpenSpec.ofChange smallRowsSpec)

/-- ITS FALSE NEIGHBOUR: 'it returns false'. Refute it at one input. -/
def smallRowsWrong : ChangeSpec := { name := "smallRows", fn := fun _ => fun
  | [d1, d2, d3] => { results := [.lit (.bool false)], args := [d1, d2, d3] }
  | _ => none }
def SmallRowsWrongFalsely : Prop := smallRowsRow.holds Try.pinned (OpenSpec.ofChange smallRowsWrong)

/-- 'scrimlaw8.SmallNine': WHATEVER THE INPUT: true; the input reads as it did. -/
def smallNineSpec : ChangeSpec := { name := "smallNine", fn := fun _ => fun
  | [d1, d2] => { results := [.lit (.bool true)], args := [d1, d2] }
  | _ => none }
def smallNineRow : OpenClaim := { program := "ytahfhogifkkoeaa", sum := "e6587c61104192045d26c6b7e0044f5ec3c51a8374f1d94ae7f88a2a94a364c3", func := "scrim/scrimlaw8.SmallNine", spec := "smallNine", apart := false }
def SmallNineSaid : Prop := smallNineRow.holds Try.pinned (OpenSpec.ofChange smallNineSpec)

/-- ITS FALSE NEIGHBOUR: 'it returns false'. Refute it at one input. -/
def smallNineWrong : ChangeSpec := { name := "smallNine", fn := fun _ => fun
  | [d1, d2] => { results := [.lit (.bool false)], args := [d1, d2] }
  | _ => none }
def SmallNineWrongFalsely : Prop := smallNineRow.holds Try.pinned (OpenSpec.ofChange smallNineWrong)

/- THE SECOND FORM. 'bulk': how many values and letters a reading holds, each counted each time it is reached (what is shared counts as often as it is met; a slice's spare places count too). A statement '..UptoSaid' is the law's where the arguments, and the package variables that the reading takes, are together of bulk at most 1048576: NARROWER than '..Said'. Prove '..Said' where nothing that the law and all that it calls make is longer than what came in: it says more and counts as full. Else prove '..UptoSaid'. A law counts once. -/
mutual
def uptoBulk {H : Type} : DataW H → Nat
  | .lit (.string bytes) => bytes.length + 1
  | .lit _ => 1
  | .nil => 1
  | .ptr d => uptoBulk d + 1
  | .slice elems spare => uptoBulkAll elems + uptoBulkAll spare + 1
  | .agg parts => uptoBulkAll parts + 1
  | .iface _ d => uptoBulk d + 1
  | .map entries => uptoBulkEntries entries + 1
  | .held _ => 1
def uptoBulkAll {H : Type} : List (DataW H) → Nat
  | [] => 0
  | d :: r => uptoBulk d + uptoBulkAll r
def uptoBulkEntries {H : Type} : List (Lit × DataW H) → Nat
  | [] => 0
  | x :: r => uptoBulkEntry x + uptoBulkEntries r
def uptoBulkEntry {H : Type} : Lit × DataW H → Nat
  | (.string bytes, d) => bytes.length + uptoBulk d + 1
  | (_, d) => uptoBulk d + 1
 end
def uptoSmall : (H : Type) → List (DataW H) → Bool := fun _ ds => decide (uptoBulkAll ds ≤ 1048576)
def OpenSpec.upto (s : _root_.Go.ChangeSpec) : _root_.Go.OpenSpec := { _root_.Go.OpenSpec.ofChange s with cond := some uptoSmall }

/-- 'scrimlaw8.SmallBlocks', WHERE WHAT IT READS IS OF BULK AT MOST 1048576: true; the input reads as it did. -/
def smallBlocksUptoRow : OpenClaim := { program := "ytahfhogifkkoeaa", sum := "e6587c61104192045d26c6b7e0044f5ec3c51a8374f1d94ae7f88a2a94a364c3", func := "scrim/scrimlaw8.SmallBlocks", spec := "smallBlocks", apart := false, narrowed := true }
def SmallBlocksUptoSaid : Prop := smallBlocksUptoRow.holds Try.pinned (OpenSpec.upto smallBlocksSpec)

/-- 'scrimlaw8.SmallBack', WHERE WHAT IT READS IS OF BULK AT MOST 1048576: true; the input reads as it did. -/
def smallBackUptoRow : OpenClaim := { program := "ytahfhogifkkoeaa", sum := "e6587c61104192045d26c6b7e0044f5ec3c51a8374f1d94ae7f88a2a94a364c3", func := "scrim/scrimlaw8.SmallBack", spec := "smallBack", apart := false, narrowed := true }
def SmallBackUptoSaid : Prop := smallBackUptoRow.holds Try.pinned (OpenSpec.upto smallBackSpec)

/-- 'scrimlaw8.SmallG', WHERE WHAT IT READS IS OF BULK AT MOST 1048576: true; the input reads as it did. -/
def smallGUptoRow : OpenClaim := { program := "ytahfhogifkkoeaa", sum := "e6587c61104192045d26c6b7e0044f5ec3c51a8374f1d94ae7f88a2a94a364c3", func := "scrim/scrimlaw8.SmallG", spec := "smallG", apart := false, narrowed := true }
def SmallGUptoSaid : Prop := smallGUptoRow.holds Try.pinned (OpenSpec.upto smallGSpec)

/-- 'scrimlaw8.SmallErrs', WHERE WHAT IT READS IS OF BULK AT MOST 1048576: true; the input reads as it did. -/
def smallErrsUptoRow : OpenClaim := { program := "ytahfhogifkkoeaa", sum := "e6587c61104192045d26c6b7e0044f5ec3c51a8374f1d94ae7f88a2a94a364c3", func := "scrim/scrimlaw8.SmallErrs", spec := "smallErrs", apart := false, narrowed := true }
def SmallErrsUptoSaid : Prop := smallErrsUptoRow.holds Try.pinned (OpenSpec.upto smallErrsSpec)

/-- 'scrimlaw8.SmallOwn', WHERE WHAT IT READS IS OF BULK AT MOST 1048576: true; the input reads as it did. -/
def smallOwnUptoRow : OpenClaim := { program := "ytahfhogifkkoeaa", sum := "e6587c61104192045d26c6b7e0044f5ec3c51a8374f1d94ae7f88a2a94a364c3", func := "scrim/scrimlaw8.SmallOwn", spec := "smallOwn", apart := false, narrowed := true }
def SmallOwnUptoSaid : Prop := smallOwnUptoRow.holds Try.pinned (OpenSpec.upto smallOwnSpec)

/-- 'scrimlaw8.SmallApart', WHERE WHAT IT READS IS OF BULK AT MOST 1048576: true; the input reads as it did. -/
def smallApartUptoRow : OpenClaim := { program := "ytahfhogifkkoeaa", sum := "e6587c61104192045d26c6b7e0044f5ec3c51a8374f1d94ae7f88a2a94a364c3", func := "scrim/scrimlaw8.SmallApart", spec := "smallApart", apart := false, narrowed := true }
def SmallApartUptoSaid : Prop := smallApartUptoRow.holds Try.pinned (OpenSpec.upto smallApartSpec)

/-- 'scrimlaw8.SmallMagma', WHERE WHAT IT READS IS OF BULK AT MOST 1048576: true; the input reads as it did. -/
def smallMagmaUptoRow : OpenClaim := { program := "ytahfhogifkkoeaa", sum := "e6587c61104192045d26c6b7e0044f5ec3c51a8374f1d94ae7f88a2a94a364c3", func := "scrim/scrimlaw8.SmallMagma", spec := "smallMagma", apart := false, narrowed := true }
def SmallMagmaUptoSaid : Prop := smallMagmaUptoRow.holds Try.pinned (OpenSpec.upto smallMagmaSpec)

/-- 'scrimlaw8.SmallRows', WHERE WHAT IT READS IS OF BULK AT MOST 1048576: true; the input reads as it did. -/
def smallRowsUptoRow : OpenClaim := { program := "ytahfhogifkkoeaa", sum := "e6587c61104192045d26c6b7e0044f5ec3c51a8374f1d94ae7f88a2a94a364c3", func := "scrim/scrimlaw8.SmallRows", spec := "smallRows", apart := false, narrowed := true }
def SmallRowsUptoSaid : Prop := smallRowsUptoRow.holds Try.pinned (OpenSpec.upto smallRowsSpec)

/-- 'scrimlaw8.SmallNine', WHERE WHAT IT READS IS OF BULK AT MOST 1048576: true; the input reads as it did. -/
def smallNineUptoRow : OpenClaim := { program := "ytahfhogifkkoeaa", sum := "e6587c61104192045d26c6b7e0044f5ec3c51a8374f1d94ae7f88a2a94a364c3", func := "scrim/scrimlaw8.SmallNine", spec := "smallNine", apart := false, narrowed := true }
def SmallNineUptoSaid : Prop := smallNineUptoRow.holds Try.pinned (OpenSpec.upto smallNineSpec)

end Rows
end Go.Proofs.Ytahfhogifkkoeaa
