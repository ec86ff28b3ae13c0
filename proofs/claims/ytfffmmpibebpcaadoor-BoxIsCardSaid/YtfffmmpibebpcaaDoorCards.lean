/-
  DERIVED. GIVEN WITH THE SEED: THE CARDS: each row of YtfffmmpibebpcaaDoorRows.lean that lists a variable, with what it lists TIED to the program's text (the seventh form; the later family's looks); each row that meets fmt, with fmt's text TOLD by the authors' own Lean function (tested against real Go, not proved from fmt's source: count such statements apart). THE CARD IS WHAT COUNTS. Prove the row's statement (the work); the ties are given (YtfffmmpibebpcaaDoorTie.lean); close each card by the builder's one call (the guide's Derived/Test/ToyasCard.lean, 'card_holds'). Laid BY PROGRAM, IN A SANDBOX (cutbox-door.mjs). By AI agents, Wed Nov 11 2026. No macro, syntax, notation, axiom, sorry.
-/
import Derived.Test.YtfffmmpibebpcaaDoorRows
import GoSem.ClaimSeven
namespace Go.Proofs.YtfffmmpibebpcaaDoor
namespace Rows

/-- THE TIED CARD OF 'scrimlaw4.BoxIs'. -/
def boxIsCard : Claim7 := { stood := { row := boxIsRow, standIns := [], harness := (true, "95384bf14c0a357a6f587f93a9fe583cda20d13d65cb32fc0f890ee52ae34599"), looks := false }, kinds := [], alts := [], laidByText := true, laidKinds := [.data], laidTests := true, laidLooks := .later }
def BoxIsCardSaid : Prop := Claim7.holds Tryd.pinned (.plain (OpenSpec.ofChange boxIsSpec)) boxIsCard

/-- THE TIED CARD OF 'scrimlaw4.BoxBack'. -/
def boxBackCard : Claim7 := { stood := { row := boxBackRow, standIns := [], harness := (true, "95384bf14c0a357a6f587f93a9fe583cda20d13d65cb32fc0f890ee52ae34599"), looks := false }, kinds := [], alts := [], laidByText := true, laidKinds := [.data], laidTests := true, laidLooks := .later }
def BoxBackCardSaid : Prop := Claim7.holds Tryd.pinned (.plain (OpenSpec.ofChange boxBackSpec)) boxBackCard

/-- THE TIED CARD OF 'scrimlaw4.BoxAffine'. -/
def boxAffineCard : Claim7 := { stood := { row := boxAffineRow, standIns := [], harness := (true, "95384bf14c0a357a6f587f93a9fe583cda20d13d65cb32fc0f890ee52ae34599"), looks := false }, kinds := [], alts := [], laidByText := true, laidKinds := [.data], laidTests := true, laidLooks := .later }
def BoxAffineCardSaid : Prop := Claim7.holds Tryd.pinned (.plain (OpenSpec.ofChange boxAffineSpec)) boxAffineCard

/-- THE TIED CARD OF 'scrimlaw4.BoxTwo'. -/
def boxTwoCard : Claim7 := { stood := { row := boxTwoRow, standIns := [], harness := (true, "95384bf14c0a357a6f587f93a9fe583cda20d13d65cb32fc0f890ee52ae34599"), looks := false }, kinds := [], alts := [], laidByText := true, laidKinds := [.data], laidTests := true, laidLooks := .later }
def BoxTwoCardSaid : Prop := Claim7.holds Tryd.pinned (.plain (OpenSpec.ofChange boxTwoSpec)) boxTwoCard

/-- THE TIED CARD OF 'scrimlaw4.BoxBits'. -/
def boxBitsCard : Claim7 := { stood := { row := boxBitsRow, standIns := [], harness := (true, "95384bf14c0a357a6f587f93a9fe583cda20d13d65cb32fc0f890ee52ae34599"), looks := false }, kinds := [], alts := [], laidByText := true, laidKinds := [.data], laidTests := true, laidLooks := .later }
def BoxBitsCardSaid : Prop := Claim7.holds Tryd.pinned (.plain (OpenSpec.ofChange boxBitsSpec)) boxBitsCard

/-- THE TIED CARD OF 'scrimlaw4.BoxMakes'. -/
def boxMakesCard : Claim7 := { stood := { row := boxMakesRow, standIns := [], harness := (true, "95384bf14c0a357a6f587f93a9fe583cda20d13d65cb32fc0f890ee52ae34599"), looks := false }, kinds := [], alts := [], laidByText := true, laidKinds := [.data], laidTests := true, laidLooks := .later }
def BoxMakesCardSaid : Prop := Claim7.holds Tryd.pinned (.plain (OpenSpec.ofChange boxMakesSpec)) boxMakesCard

/-- THE TIED CARD OF 'scrimlaw4.BoxOnes'. -/
def boxOnesCard : Claim7 := { stood := { row := boxOnesRow, standIns := [], harness := (true, "95384bf14c0a357a6f587f93a9fe583cda20d13d65cb32fc0f890ee52ae34599"), looks := false }, kinds := [], alts := [], laidByText := true, laidKinds := [.data], laidTests := true, laidLooks := .later }
def BoxOnesCardSaid : Prop := Claim7.holds Tryd.pinned (.plain (OpenSpec.ofChange boxOnesSpec)) boxOnesCard

/-- THE TIED CARD OF 'scrimlaw4.BoxPowers'. -/
def boxPowersCard : Claim7 := { stood := { row := boxPowersRow, standIns := [], harness := (true, "95384bf14c0a357a6f587f93a9fe583cda20d13d65cb32fc0f890ee52ae34599"), looks := false }, kinds := [], alts := [], laidByText := true, laidKinds := [.data], laidTests := true, laidLooks := .later }
def BoxPowersCardSaid : Prop := Claim7.holds Tryd.pinned (.plain (OpenSpec.ofChange boxPowersSpec)) boxPowersCard

/-- THE TIED CARD OF 'scrimlaw4.BoxKnown'. -/
def boxKnownCard : Claim7 := { stood := { row := boxKnownRow, standIns := [], harness := (true, "95384bf14c0a357a6f587f93a9fe583cda20d13d65cb32fc0f890ee52ae34599"), looks := false }, kinds := [], alts := [], laidByText := true, laidKinds := [.data], laidTests := true, laidLooks := .later }
def BoxKnownCardSaid : Prop := Claim7.holds Tryd.pinned (.plain (OpenSpec.ofChange boxKnownSpec)) boxKnownCard

/-- THE SECOND FORM's CARD OF 'scrimlaw4.BoxIs'. -/
def boxIsUptoCard : Claim7 := { stood := { row := boxIsUptoRow, standIns := [], harness := (true, "95384bf14c0a357a6f587f93a9fe583cda20d13d65cb32fc0f890ee52ae34599"), looks := false }, kinds := [], alts := [], laidByText := true, laidKinds := [.data], laidTests := true, laidLooks := .later }
def BoxIsUptoCardSaid : Prop := Claim7.holds Tryd.pinned (.plain (OpenSpec.upto boxIsSpec)) boxIsUptoCard

/-- THE SECOND FORM's CARD OF 'scrimlaw4.BoxBack'. -/
def boxBackUptoCard : Claim7 := { stood := { row := boxBackUptoRow, standIns := [], harness := (true, "95384bf14c0a357a6f587f93a9fe583cda20d13d65cb32fc0f890ee52ae34599"), looks := false }, kinds := [], alts := [], laidByText := true, laidKinds := [.data], laidTests := true, laidLooks := .later }
def BoxBackUptoCardSaid : Prop := Claim7.holds Tryd.pinned (.plain (OpenSpec.upto boxBackSpec)) boxBackUptoCard

/-- THE SECOND FORM's CARD OF 'scrimlaw4.BoxAffine'. -/
def boxAffineUptoCard : Claim7 := { stood := { row := boxAffineUptoRow, standIns := [], harness := (true, "95384bf14c0a357a6f587f93a9fe583cda20d13d65cb32fc0f890ee52ae34599"), looks := false }, kinds := [], alts := [], laidByText := true, laidKinds := [.data], laidTests := true, laidLooks := .later }
def BoxAffineUptoCardSaid : Prop := Claim7.holds Tryd.pinned (.plain (OpenSpec.upto boxAffineSpec)) boxAffineUptoCard

/-- THE SECOND FORM's CARD OF 'scrimlaw4.BoxTwo'. -/
def boxTwoUptoCard : Claim7 := { stood := { row := boxTwoUptoRow, standIns := [], harness := (true, "95384bf14c0a357a6f587f93a9fe583cda20d13d65cb32fc0f890ee52ae34599"), looks := false }, kinds := [], alts := [], laidByText := true, laidKinds := [.data], laidTests := true, laidLooks := .later }
def BoxTwoUptoCardSaid : Prop := Claim7.holds Tryd.pinned (.plain (OpenSpec.upto boxTwoSpec)) boxTwoUptoCard

/-- THE SECOND FORM's CARD OF 'scrimlaw4.BoxBits'. -/
def boxBitsUptoCard : Claim7 := { stood := { row := boxBitsUptoRow, standIns := [], harness := (true, "95384bf14c0a357a6f587f93a9fe583cda20d13d65cb32fc0f890ee52ae34599"), looks := false }, kinds := [], alts := [], laidByText := true, laidKinds := [.data], laidTests := true, laidLooks := .later }
def BoxBitsUptoCardSaid : Prop := Claim7.holds Tryd.pinned (.plain (OpenSpec.upto boxBitsSpec)) boxBitsUptoCard

/-- THE SECOND FORM's CARD OF 'scrimlaw4.BoxMakes'. -/
def boxMakesUptoCard : Claim7 := { stood := { row := boxMakesUptoRow, standIns := [], harness := (true, "95384bf14c0a357a6f587f93a9fe583cda20d13d65cb32fc0f890ee52ae34599"), looks := false }, kinds := [], alts := [], laidByText := true, laidKinds := [.data], laidTests := true, laidLooks := .later }
def BoxMakesUptoCardSaid : Prop := Claim7.holds Tryd.pinned (.plain (OpenSpec.upto boxMakesSpec)) boxMakesUptoCard

/-- THE SECOND FORM's CARD OF 'scrimlaw4.BoxOnes'. -/
def boxOnesUptoCard : Claim7 := { stood := { row := boxOnesUptoRow, standIns := [], harness := (true, "95384bf14c0a357a6f587f93a9fe583cda20d13d65cb32fc0f890ee52ae34599"), looks := false }, kinds := [], alts := [], laidByText := true, laidKinds := [.data], laidTests := true, laidLooks := .later }
def BoxOnesUptoCardSaid : Prop := Claim7.holds Tryd.pinned (.plain (OpenSpec.upto boxOnesSpec)) boxOnesUptoCard

/-- THE SECOND FORM's CARD OF 'scrimlaw4.BoxPowers'. -/
def boxPowersUptoCard : Claim7 := { stood := { row := boxPowersUptoRow, standIns := [], harness := (true, "95384bf14c0a357a6f587f93a9fe583cda20d13d65cb32fc0f890ee52ae34599"), looks := false }, kinds := [], alts := [], laidByText := true, laidKinds := [.data], laidTests := true, laidLooks := .later }
def BoxPowersUptoCardSaid : Prop := Claim7.holds Tryd.pinned (.plain (OpenSpec.upto boxPowersSpec)) boxPowersUptoCard

/-- THE SECOND FORM's CARD OF 'scrimlaw4.BoxKnown'. -/
def boxKnownUptoCard : Claim7 := { stood := { row := boxKnownUptoRow, standIns := [], harness := (true, "95384bf14c0a357a6f587f93a9fe583cda20d13d65cb32fc0f890ee52ae34599"), looks := false }, kinds := [], alts := [], laidByText := true, laidKinds := [.data], laidTests := true, laidLooks := .later }
def BoxKnownUptoCardSaid : Prop := Claim7.holds Tryd.pinned (.plain (OpenSpec.upto boxKnownSpec)) boxKnownUptoCard
end Rows
end Go.Proofs.YtfffmmpibebpcaaDoor
