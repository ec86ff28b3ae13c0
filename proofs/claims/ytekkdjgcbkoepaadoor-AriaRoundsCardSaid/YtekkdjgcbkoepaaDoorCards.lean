/-
  DERIVED. GIVEN WITH THE SEED: THE CARDS: each row of YtekkdjgcbkoepaaDoorRows.lean that lists a variable, with what it lists TIED to the program's text (the seventh form; the later family's looks); each row that meets fmt, with fmt's text TOLD by the authors' own Lean function (tested against real Go, not proved from fmt's source: count such statements apart). THE CARD IS WHAT COUNTS. Prove the row's statement (the work); the ties are given (YtekkdjgcbkoepaaDoorTie.lean); close each card by the builder's one call (the guide's Derived/Test/ToyasCard.lean, 'card_holds'). Laid BY PROGRAM, IN A SANDBOX (cutbox-door.mjs). By AI agents, Wed Nov 11 2026. No macro, syntax, notation, axiom, sorry.
-/
import Derived.Test.YtekkdjgcbkoepaaDoorRows
import GoSem.ClaimSeven
namespace Go.Proofs.YtekkdjgcbkoepaaDoor
namespace Rows

/-- THE TIED CARD OF 'scrimlaw10.AriaSum'. -/
def ariaSumCard : Claim7 := { stood := { row := ariaSumRow, standIns := [], harness := (true, "a0767839ecc693988965b3f815e57dcdd33cfbe0eb860e0dc6f5694ecc0f00fb"), looks := false }, kinds := [], alts := [], laidByText := true, laidKinds := [.data], laidTests := true, laidLooks := .later }
def AriaSumCardSaid : Prop := Claim7.holds Tryd.pinned (.plain (OpenSpec.ofChange ariaSumSpec)) ariaSumCard

/-- THE TIED CARD OF 'scrimlaw10.AriaOne'. -/
def ariaOneCard : Claim7 := { stood := { row := ariaOneRow, standIns := [], harness := (true, "a0767839ecc693988965b3f815e57dcdd33cfbe0eb860e0dc6f5694ecc0f00fb"), looks := false }, kinds := [], alts := [], laidByText := true, laidKinds := [.data], laidTests := true, laidLooks := .later }
def AriaOneCardSaid : Prop := Claim7.holds Tryd.pinned (.plain (OpenSpec.ofChange ariaOneSpec)) ariaOneCard

/-- THE TIED CARD OF 'scrimlaw10.AriaKeys'. -/
def ariaKeysCard : Claim7 := { stood := { row := ariaKeysRow, standIns := [], harness := (true, "a0767839ecc693988965b3f815e57dcdd33cfbe0eb860e0dc6f5694ecc0f00fb"), looks := false }, kinds := [], alts := [], laidByText := true, laidKinds := [.data], laidTests := true, laidLooks := .later }
def AriaKeysCardSaid : Prop := Claim7.holds Tryd.pinned (.plain (OpenSpec.ofChange ariaKeysSpec)) ariaKeysCard

/-- THE TIED CARD OF 'scrimlaw10.AriaMix'. -/
def ariaMixCard : Claim7 := { stood := { row := ariaMixRow, standIns := [], harness := (true, "a0767839ecc693988965b3f815e57dcdd33cfbe0eb860e0dc6f5694ecc0f00fb"), looks := false }, kinds := [], alts := [], laidByText := true, laidKinds := [.data], laidTests := true, laidLooks := .later }
def AriaMixCardSaid : Prop := Claim7.holds Tryd.pinned (.plain (OpenSpec.ofChange ariaMixSpec)) ariaMixCard

/-- THE TIED CARD OF 'scrimlaw10.AriaHow'. -/
def ariaHowCard : Claim7 := { stood := { row := ariaHowRow, standIns := [], harness := (true, "a0767839ecc693988965b3f815e57dcdd33cfbe0eb860e0dc6f5694ecc0f00fb"), looks := false }, kinds := [], alts := [], laidByText := true, laidKinds := [.data], laidTests := true, laidLooks := .later }
def AriaHowCardSaid : Prop := Claim7.holds Tryd.pinned (.plain (OpenSpec.ofChange ariaHowSpec)) ariaHowCard

/-- THE TIED CARD OF 'scrimlaw10.AriaRounds'. -/
def ariaRoundsCard : Claim7 := { stood := { row := ariaRoundsRow, standIns := [], harness := (true, "a0767839ecc693988965b3f815e57dcdd33cfbe0eb860e0dc6f5694ecc0f00fb"), looks := false }, kinds := [], alts := [], laidByText := true, laidKinds := [.data], laidTests := true, laidLooks := .later }
def AriaRoundsCardSaid : Prop := Claim7.holds Tryd.pinned (.plain (OpenSpec.ofChange ariaRoundsSpec)) ariaRoundsCard

/-- THE SECOND FORM's CARD OF 'scrimlaw10.AriaSum'. -/
def ariaSumUptoCard : Claim7 := { stood := { row := ariaSumUptoRow, standIns := [], harness := (true, "a0767839ecc693988965b3f815e57dcdd33cfbe0eb860e0dc6f5694ecc0f00fb"), looks := false }, kinds := [], alts := [], laidByText := true, laidKinds := [.data], laidTests := true, laidLooks := .later }
def AriaSumUptoCardSaid : Prop := Claim7.holds Tryd.pinned (.plain (OpenSpec.upto ariaSumSpec)) ariaSumUptoCard

/-- THE SECOND FORM's CARD OF 'scrimlaw10.AriaOne'. -/
def ariaOneUptoCard : Claim7 := { stood := { row := ariaOneUptoRow, standIns := [], harness := (true, "a0767839ecc693988965b3f815e57dcdd33cfbe0eb860e0dc6f5694ecc0f00fb"), looks := false }, kinds := [], alts := [], laidByText := true, laidKinds := [.data], laidTests := true, laidLooks := .later }
def AriaOneUptoCardSaid : Prop := Claim7.holds Tryd.pinned (.plain (OpenSpec.upto ariaOneSpec)) ariaOneUptoCard

/-- THE SECOND FORM's CARD OF 'scrimlaw10.AriaKeys'. -/
def ariaKeysUptoCard : Claim7 := { stood := { row := ariaKeysUptoRow, standIns := [], harness := (true, "a0767839ecc693988965b3f815e57dcdd33cfbe0eb860e0dc6f5694ecc0f00fb"), looks := false }, kinds := [], alts := [], laidByText := true, laidKinds := [.data], laidTests := true, laidLooks := .later }
def AriaKeysUptoCardSaid : Prop := Claim7.holds Tryd.pinned (.plain (OpenSpec.upto ariaKeysSpec)) ariaKeysUptoCard

/-- THE SECOND FORM's CARD OF 'scrimlaw10.AriaMix'. -/
def ariaMixUptoCard : Claim7 := { stood := { row := ariaMixUptoRow, standIns := [], harness := (true, "a0767839ecc693988965b3f815e57dcdd33cfbe0eb860e0dc6f5694ecc0f00fb"), looks := false }, kinds := [], alts := [], laidByText := true, laidKinds := [.data], laidTests := true, laidLooks := .later }
def AriaMixUptoCardSaid : Prop := Claim7.holds Tryd.pinned (.plain (OpenSpec.upto ariaMixSpec)) ariaMixUptoCard

/-- THE SECOND FORM's CARD OF 'scrimlaw10.AriaHow'. -/
def ariaHowUptoCard : Claim7 := { stood := { row := ariaHowUptoRow, standIns := [], harness := (true, "a0767839ecc693988965b3f815e57dcdd33cfbe0eb860e0dc6f5694ecc0f00fb"), looks := false }, kinds := [], alts := [], laidByText := true, laidKinds := [.data], laidTests := true, laidLooks := .later }
def AriaHowUptoCardSaid : Prop := Claim7.holds Tryd.pinned (.plain (OpenSpec.upto ariaHowSpec)) ariaHowUptoCard

/-- THE SECOND FORM's CARD OF 'scrimlaw10.AriaRounds'. -/
def ariaRoundsUptoCard : Claim7 := { stood := { row := ariaRoundsUptoRow, standIns := [], harness := (true, "a0767839ecc693988965b3f815e57dcdd33cfbe0eb860e0dc6f5694ecc0f00fb"), looks := false }, kinds := [], alts := [], laidByText := true, laidKinds := [.data], laidTests := true, laidLooks := .later }
def AriaRoundsUptoCardSaid : Prop := Claim7.holds Tryd.pinned (.plain (OpenSpec.upto ariaRoundsSpec)) ariaRoundsUptoCard
end Rows
end Go.Proofs.YtekkdjgcbkoepaaDoor
