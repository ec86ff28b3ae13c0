/-
  No cell of these rows narrows 'for every input' (looked for: loops, veiled, ifaces, maps, wideKeys, modest, calm, conditions, laid).
  DERIVED. THE GIVEN ROWS OF THIS SEAT. 5 by the template 'for every input the law returns true; each argument reads behind the call as it read before'; 0 by the template 'total and deterministic' (their statements: YtdagooiakgnecaaTotals.lean).
  GIVEN WITH THE SEED: the statements are not yours to turn. If you find one false, say at which input.
  Laid BY PROGRAM, IN A SANDBOX (cutbox-rows.mjs): the forced cells as the released guide's own fill.sh prints them over the translation 6cfa207623f992ff… (all of the seat's roots in one cut). By AI agents, Wed Nov 11 2026. No macro, syntax, notation, axiom, sorry.
-/
import Derived.Test.YtdagooiakgnecaaChecked
import GoSem.Claim
import GoSem.ClaimJoined
import GoSem.ClaimMapViews
import Derived.JoinedTies
import Derived.KernelRfl
namespace Go.Proofs.Ytdagooiakgnecaa
/- THE CELL 'sum', in the pinned program and in every row, IS THE sha256 OF THE DUMP (.gsa) THAT YtdagooiakgnecaaProg.lean LOADS. Nothing in Lean hashes anything: it is a label: what it is worth is what the hold of that sum in a sandbox is worth. -/
noncomputable def Try.pinned : Pinned := { name := "ytdagooiakgnecaa", sum := "6cfa207623f992ff4bde667929d709a4cd7a4c04f0e0bb35e9b0ed50cc19fde7", checked := Try.checked }
namespace Rows
def none {H : Type} : Left H := { results := [], args := [] }

/-- 'scrimlaw7.IdeaMul': WHATEVER THE INPUT: true; the input reads as it did. -/
def ideaMulSpec : ChangeSpec := { name := "ideaMul", fn := fun _ => fun
  | [d1, d2, d3, d4] => { results := [.lit (.bool true)], args := [d1, d2, d3, d4] }
  | _ => none }
def ideaMulRow : OpenClaim := { program := "ytdagooiakgnecaa", sum := "6cfa207623f992ff4bde667929d709a4cd7a4c04f0e0bb35e9b0ed50cc19fde7", func := "scrim/scrimlaw7.IdeaMul", spec := "ideaMul", apart := false }
def IdeaMulSaid : Prop := ideaMulRow.holds Try.pinned (OpenSpec.ofChange ideaMulSpec)

/-- ITS FALSE NEIGHBOUR: 'it returns false'. Refute it at one input. -/
def ideaMulWrong : ChangeSpec := { name := "ideaMul", fn := fun _ => fun
  | [d1, d2, d3, d4] => { results := [.lit (.bool false)], args := [d1, d2, d3, d4] }
  | _ => none }
def IdeaMulWrongFalsely : Prop := ideaMulRow.holds Try.pinned (OpenSpec.ofChange ideaMulWrong)

/-- 'scrimlaw7.IdeaGroup': WHATEVER THE INPUT: true; the input reads as it did. -/
def ideaGroupSpec : ChangeSpec := { name := "ideaGroup", fn := fun _ => fun
  | [d1, d2, d3] => { results := [.lit (.bool true)], args := [d1, d2, d3] }
  | _ => none }
def ideaGroupRow : OpenClaim := { program := "ytdagooiakgnecaa", sum := "6cfa207623f992ff4bde667929d709a4cd7a4c04f0e0bb35e9b0ed50cc19fde7", func := "scrim/scrimlaw7.IdeaGroup", spec := "ideaGroup", apart := false }
def IdeaGroupSaid : Prop := ideaGroupRow.holds Try.pinned (OpenSpec.ofChange ideaGroupSpec)

/-- ITS FALSE NEIGHBOUR: 'it returns false'. Refute it at one input. -/
def ideaGroupWrong : ChangeSpec := { name := "ideaGroup", fn := fun _ => fun
  | [d1, d2, d3] => { results := [.lit (.bool false)], args := [d1, d2, d3] }
  | _ => none }
def IdeaGroupWrongFalsely : Prop := ideaGroupRow.holds Try.pinned (OpenSpec.ofChange ideaGroupWrong)

/-- 'scrimlaw7.IdeaEnds': WHATEVER THE INPUT: true; the input reads as it did. -/
def ideaEndsSpec : ChangeSpec := { name := "ideaEnds", fn := fun _ => fun
  | [d1, d2] => { results := [.lit (.bool true)], args := [d1, d2] }
  | _ => none }
def ideaEndsRow : OpenClaim := { program := "ytdagooiakgnecaa", sum := "6cfa207623f992ff4bde667929d709a4cd7a4c04f0e0bb35e9b0ed50cc19fde7", func := "scrim/scrimlaw7.IdeaEnds", spec := "ideaEnds", apart := false }
def IdeaEndsSaid : Prop := ideaEndsRow.holds Try.pinned (OpenSpec.ofChange ideaEndsSpec)

/-- ITS FALSE NEIGHBOUR: 'it returns false'. Refute it at one input. -/
def ideaEndsWrong : ChangeSpec := { name := "ideaEnds", fn := fun _ => fun
  | [d1, d2] => { results := [.lit (.bool false)], args := [d1, d2] }
  | _ => none }
def IdeaEndsWrongFalsely : Prop := ideaEndsRow.holds Try.pinned (OpenSpec.ofChange ideaEndsWrong)

/-- 'scrimlaw7.IdeaRounds': WHATEVER THE INPUT: true; the input reads as it did. -/
def ideaRoundsSpec : ChangeSpec := { name := "ideaRounds", fn := fun _ => fun
  | [d1, d2] => { results := [.lit (.bool true)], args := [d1, d2] }
  | _ => none }
def ideaRoundsRow : OpenClaim := { program := "ytdagooiakgnecaa", sum := "6cfa207623f992ff4bde667929d709a4cd7a4c04f0e0bb35e9b0ed50cc19fde7", func := "scrim/scrimlaw7.IdeaRounds", spec := "ideaRounds", apart := false }
def IdeaRoundsSaid : Prop := ideaRoundsRow.holds Try.pinned (OpenSpec.ofChange ideaRoundsSpec)

/-- ITS FALSE NEIGHBOUR: 'it returns false'. Refute it at one input. -/
def ideaRoundsWrong : ChangeSpec := { name := "ideaRounds", fn := fun _ => fun
  | [d1, d2] => { results := [.lit (.bool false)], args := [d1, d2] }
  | _ => none }
def IdeaRoundsWrongFalsely : Prop := ideaRoundsRow.holds Try.pinned (OpenSpec.ofChange ideaRoundsWrong)

/-- 'scrimlaw7.IdeaKeyRow': WHATEVER THE INPUT: true; the input reads as it did. -/
def ideaKeyRowSpec : ChangeSpec := { name := "ideaKeyRow", fn := fun _ => fun
  | [d] => { results := [.lit (.bool true)], args := [d] }
  | _ => none }
def ideaKeyRowRow : OpenClaim := { program := "ytdagooiakgnecaa", sum := "6cfa207623f992ff4bde667929d709a4cd7a4c04f0e0bb35e9b0ed50cc19fde7", func := "scrim/scrimlaw7.IdeaKeyRow", spec := "ideaKeyRow", apart := false }
def IdeaKeyRowSaid : Prop := ideaKeyRowRow.holds Try.pinned (OpenSpec.ofChange ideaKeyRowSpec)

/-- ITS FALSE NEIGHBOUR: 'it returns false'. Refute it at one input. -/
def ideaKeyRowWrong : ChangeSpec := { name := "ideaKeyRow", fn := fun _ => fun
  | [d] => { results := [.lit (.bool false)], args := [d] }
  | _ => none }
def IdeaKeyRowWrongFalsely : Prop := ideaKeyRowRow.holds Try.pinned (OpenSpec.ofChange ideaKeyRowWrong)

/- THE SECOND FORM. 'bulk': how many values and letters a reading holds, each counted each time it is reached (what is shared counts as often as it is met; a slice's spare places count too). A statement '..UptoSaid' is the law's where the arguments, and the package variables that the reading takes, are together of bulk at most 1048576: NARROWER than '..Said'. Prove '..Said' where nothing that the law and all that it calls make is longer than what came in: it says more and counts as full. Else prove '..UptoSaid'. A law counts once. -/
mutual
def uptoBulk {H : Type} : DataW H → Nat
  | .lit (.string bytes) => bytes.length + 1
  | .lit _ => 1
  | .nil => 1
  | .ptr d => uptoBulk d + 1
  | .slice elems spare => uptoBulkAll elems + uptoBulkAll spare + 1
  | .agg parts => uptoBulkAll parts + 1
  | .iface _ d => uptoBulk d + 1
  | .map entries => uptoBulkEntries entries + 1
  | .held _ => 1
def uptoBulkAll {H : Type} : List (DataW H) → Nat
  | [] => 0
  | d :: r => uptoBulk d + uptoBulkAll r
def uptoBulkEntries {H : Type} : List (Lit × DataW H) → Nat
  | [] => 0
  | x :: r => uptoBulkEntry x + uptoBulkEntries r
def uptoBulkEntry {H : Type} : Lit × DataW H → Nat
  | (.string bytes, d) => bytes.length + uptoBulk d + 1
  | (_, d) => uptoBulk d + 1
 end
def uptoSmall : (H : Type) → List (DataW H) → Bool := fun _ ds => decide (uptoBulkAll ds ≤ 1048576)
def OpenSpec.upto (s : _root_.Go.ChangeSpec) : _root_.Go.OpenSpec := { _root_.Go.OpenSpec.ofChange s with cond := some uptoSmall }

/-- 'scrimlaw7.IdeaMul', WHERE WHAT IT READS IS OF BULK AT MOST 1048576: true; the input reads as it did. -/
def ideaMulUptoRow : OpenClaim := { program := "ytdagooiakgnecaa", sum := "6cfa207623f992ff4bde667929d709a4cd7a4c04f0e0bb35e9b0ed50cc19fde7", func := "scrim/scrimlaw7.IdeaMul", spec := "ideaMul", apart := false, narrowed := true }
def IdeaMulUptoSaid : Prop := ideaMulUptoRow.holds Try.pinned (OpenSpec.upto ideaMulSpec)

/-- 'scrimlaw7.IdeaGroup', WHERE WHAT IT READS IS OF BULK AT MOST 1048576: true; the input reads as it did. -/
def ideaGroupUptoRow : OpenClaim := { program := "ytdagooiakgnecaa", sum := "6cfa207623f992ff4bde667929d709a4cd7a4c04f0e0bb35e9b0ed50cc19fde7", func := "scrim/scrimlaw7.IdeaGroup", spec := "ideaGroup", apart := false, narrowed := true }
def IdeaGroupUptoSaid : Prop := ideaGroupUptoRow.holds Try.pinned (OpenSpec.upto ideaGroupSpec)

/-- 'scrimlaw7.IdeaEnds', WHERE WHAT IT READS IS OF BULK AT MOST 1048576: true; the input reads as it did. -/
def ideaEndsUptoRow : OpenClaim := { program := "ytdagooiakgnecaa", sum := "6cfa207623f992ff4bde667929d709a4cd7a4c04f0e0bb35e9b0ed50cc19fde7", func := "scrim/scrimlaw7.IdeaEnds", spec := "ideaEnds", apart := false, narrowed := true }
def IdeaEndsUptoSaid : Prop := ideaEndsUptoRow.holds Try.pinned (OpenSpec.upto ideaEndsSpec)

/-- 'scrimlaw7.IdeaRounds', WHERE WHAT IT READS IS OF BULK AT MOST 1048576: true; the input reads as it did. -/
def ideaRoundsUptoRow : OpenClaim := { program := "ytdagooiakgnecaa", sum := "6cfa207623f992ff4bde667929d709a4cd7a4c04f0e0bb35e9b0ed50cc19fde7", func := "scrim/scrimlaw7.IdeaRounds", spec := "ideaRounds", apart := false, narrowed := true }
def IdeaRoundsUptoSaid : Prop := ideaRoundsUptoRow.holds Try.pinned (OpenSpec.upto ideaRoundsSpec)

/-- 'scrimlaw7.IdeaKeyRow', WHERE WHAT IT READS IS OF BULK AT MOST 1048576: true; the input reads as it did. -/
def ideaKeyRowUptoRow : OpenClaim := { program := "ytdagooiakgnecaa", sum := "6cfa207623f992ff4bde667929d709a4cd7a4c04f0e0bb35e9b0ed50cc19fde7", func := "scrim/scrimlaw7.IdeaKeyRow", spec := "ideaKeyRow", apart := false, narrowed := true }
def IdeaKeyRowUptoSaid : Prop := ideaKeyRowUptoRow.holds Try.pinned (OpenSpec.upto ideaKeyRowSpec)

end Rows
end Go.Proofs.Ytdagooiakgnecaa
