/-
  DERIVED. GIVEN WITH THE SEED: THE CARDS: each row of YtdemmfohkhpklaaGreatDoorRows.lean that lists a variable, with what it lists TIED to the program's text (the seventh form; the later family's looks); each row that meets fmt, with fmt's text TOLD by the authors' own Lean function (tested against real Go, not proved from fmt's source: count such statements apart). THE CARD IS WHAT COUNTS. Prove the row's statement (the work); the ties are given (YtdemmfohkhpklaaGreatDoorTie.lean); close each card by the builder's one call (the guide's Derived/Test/ToyasCard.lean, 'card_holds'). Laid BY PROGRAM, IN A SANDBOX (cutbox-door.mjs). By AI agents, Wed Nov 11 2026. No macro, syntax, notation, axiom, sorry.
-/
import Derived.Test.YtdemmfohkhpklaaGreatDoorRows
import GoSem.ClaimSeven
namespace Go.Proofs.YtdemmfohkhpklaaGreatDoor
namespace Rows

/-- THE TIED CARD OF 'scrimtop.TopModes'. -/
def topModesCard : Claim7 := { stood := { row := topModesRow, standIns := [], harness := (true, "4ad082f237f4b72044dac207db273cf337c3d61f425d1e9ed759b19216551532"), looks := true }, kinds := [], alts := [], laidByText := true, laidKinds := [.data], laidTests := true, laidLooks := .later }
def TopModesCardSaid : Prop := Claim7.holds Tryz.pinned (.plain (OpenSpec.ofChange topModesSpec)) topModesCard

/-- THE TIED CARD OF 'scrimtop.TopApart'. -/
def topApartCard : Claim7 := { stood := { row := topApartRow, standIns := [], harness := (true, "4ad082f237f4b72044dac207db273cf337c3d61f425d1e9ed759b19216551532"), looks := true }, kinds := [], alts := [], laidByText := true, laidKinds := [.data], laidTests := true, laidLooks := .later }
def TopApartCardSaid : Prop := Claim7.holds Tryz.pinned (.plain (OpenSpec.ofChange topApartSpec)) topApartCard

/-- THE TIED CARD OF 'scrimtop.TopEcb'. -/
def topEcbCard : Claim7 := { stood := { row := topEcbRow, standIns := [], harness := (true, "4ad082f237f4b72044dac207db273cf337c3d61f425d1e9ed759b19216551532"), looks := true }, kinds := [], alts := [], laidByText := true, laidKinds := [.data], laidTests := true, laidLooks := .later }
def TopEcbCardSaid : Prop := Claim7.holds Tryz.pinned (.plain (OpenSpec.ofChange topEcbSpec)) topEcbCard

/-- THE SECOND FORM's CARD OF 'scrimtop.TopModes'. -/
def topModesUptoCard : Claim7 := { stood := { row := topModesUptoRow, standIns := [], harness := (true, "4ad082f237f4b72044dac207db273cf337c3d61f425d1e9ed759b19216551532"), looks := true }, kinds := [], alts := [], laidByText := true, laidKinds := [.data], laidTests := true, laidLooks := .later }
def TopModesUptoCardSaid : Prop := Claim7.holds Tryz.pinned (.plain (OpenSpec.upto topModesSpec)) topModesUptoCard

/-- THE SECOND FORM's CARD OF 'scrimtop.TopApart'. -/
def topApartUptoCard : Claim7 := { stood := { row := topApartUptoRow, standIns := [], harness := (true, "4ad082f237f4b72044dac207db273cf337c3d61f425d1e9ed759b19216551532"), looks := true }, kinds := [], alts := [], laidByText := true, laidKinds := [.data], laidTests := true, laidLooks := .later }
def TopApartUptoCardSaid : Prop := Claim7.holds Tryz.pinned (.plain (OpenSpec.upto topApartSpec)) topApartUptoCard

/-- THE SECOND FORM's CARD OF 'scrimtop.TopEcb'. -/
def topEcbUptoCard : Claim7 := { stood := { row := topEcbUptoRow, standIns := [], harness := (true, "4ad082f237f4b72044dac207db273cf337c3d61f425d1e9ed759b19216551532"), looks := true }, kinds := [], alts := [], laidByText := true, laidKinds := [.data], laidTests := true, laidLooks := .later }
def TopEcbUptoCardSaid : Prop := Claim7.holds Tryz.pinned (.plain (OpenSpec.upto topEcbSpec)) topEcbUptoCard
end Rows
end Go.Proofs.YtdemmfohkhpklaaGreatDoor
