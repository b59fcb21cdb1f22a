/-
  DERIVED. GIVEN WITH THE SEED: THE CARDS: each row of YtbhehllkimedaaaDoorRows.lean that lists a variable, with what it lists TIED to the program's text (the seventh form; the later family's looks); each row that meets fmt, with fmt's text TOLD by the authors' own Lean function (tested against real Go, not proved from fmt's source: count such statements apart). THE CARD IS WHAT COUNTS. Prove the row's statement (the work); the ties are given (YtbhehllkimedaaaDoorTie.lean); close each card by the builder's one call (the guide's Derived/Test/ToyasCard.lean, 'card_holds'). Laid BY PROGRAM, IN A SANDBOX (cutbox-door.mjs). By AI agents, Wed Nov 11 2026. No macro, syntax, notation, axiom, sorry.
-/
import Derived.Test.YtbhehllkimedaaaDoorRows
import GoSem.ClaimSeven
namespace Go.Proofs.YtbhehllkimedaaaDoor
namespace Rows

/-- THE TIED CARD OF 'pontoonlaw04.DigestInputs'. -/
def digestInputsCard : Claim7 := { stood := { row := digestInputsRow, standIns := [], harness := (true, "f1211bb5ececc2c4c773864c63d207778bdb5fa3a7036cdf266f61a4f5e876fb"), looks := false }, kinds := [], alts := [], laidByText := true, laidKinds := [.data, .data], laidTests := true, laidLooks := .later }
def DigestInputsCardSaid : Prop := Claim7.holds Tryd.pinned (.plain (OpenSpec.ofChange digestInputsSpec)) digestInputsCard

/-- THE TIED CARD OF 'pontoonlaw04.DigestMakes'. -/
def digestMakesCard : Claim7 := { stood := { row := digestMakesRow, standIns := [], harness := (true, "f1211bb5ececc2c4c773864c63d207778bdb5fa3a7036cdf266f61a4f5e876fb"), looks := false }, kinds := [], alts := [], laidByText := true, laidKinds := [.data, .data], laidTests := true, laidLooks := .later }
def DigestMakesCardSaid : Prop := Claim7.holds Tryd.pinned (.plain (OpenSpec.ofChange digestMakesSpec)) digestMakesCard

/-- THE TIED CARD OF 'pontoonlaw04.DigestJoins'. -/
def digestJoinsCard : Claim7 := { stood := { row := digestJoinsRow, standIns := [], harness := (true, "f1211bb5ececc2c4c773864c63d207778bdb5fa3a7036cdf266f61a4f5e876fb"), looks := false }, kinds := [], alts := [], laidByText := true, laidKinds := [.data, .data], laidTests := true, laidLooks := .later }
def DigestJoinsCardSaid : Prop := Claim7.holds Tryd.pinned (.plain (OpenSpec.ofChange digestJoinsSpec)) digestJoinsCard

/-- THE TIED CARD OF 'pontoonlaw05.LamportOpens'. -/
def lamportOpensCard : Claim7 := { stood := { row := lamportOpensRow, standIns := [], harness := (true, "f1211bb5ececc2c4c773864c63d207778bdb5fa3a7036cdf266f61a4f5e876fb"), looks := false }, kinds := [], alts := [], laidByText := true, laidKinds := [.data, .data], laidTests := true, laidLooks := .later }
def LamportOpensCardSaid : Prop := Claim7.holds Tryd.pinned (.plain (OpenSpec.ofChange lamportOpensSpec)) lamportOpensCard

/-- THE TIED CARD OF 'pontoonlaw05.LamportBinds'. -/
def lamportBindsCard : Claim7 := { stood := { row := lamportBindsRow, standIns := [], harness := (true, "f1211bb5ececc2c4c773864c63d207778bdb5fa3a7036cdf266f61a4f5e876fb"), looks := false }, kinds := [], alts := [], laidByText := true, laidKinds := [.data, .data], laidTests := true, laidLooks := .later }
def LamportBindsCardSaid : Prop := Claim7.holds Tryd.pinned (.plain (OpenSpec.ofChange lamportBindsSpec)) lamportBindsCard

/-- THE TIED CARD OF 'pontoonlaw05.LamportTurns'. -/
def lamportTurnsCard : Claim7 := { stood := { row := lamportTurnsRow, standIns := [], harness := (true, "f1211bb5ececc2c4c773864c63d207778bdb5fa3a7036cdf266f61a4f5e876fb"), looks := false }, kinds := [], alts := [], laidByText := true, laidKinds := [.data, .data], laidTests := true, laidLooks := .later }
def LamportTurnsCardSaid : Prop := Claim7.holds Tryd.pinned (.plain (OpenSpec.ofChange lamportTurnsSpec)) lamportTurnsCard

/-- THE TIED CARD OF 'pontoonlaw05.LamportKeys'. -/
def lamportKeysCard : Claim7 := { stood := { row := lamportKeysRow, standIns := [], harness := (true, "f1211bb5ececc2c4c773864c63d207778bdb5fa3a7036cdf266f61a4f5e876fb"), looks := false }, kinds := [], alts := [], laidByText := true, laidKinds := [.data, .data], laidTests := true, laidLooks := .later }
def LamportKeysCardSaid : Prop := Claim7.holds Tryd.pinned (.plain (OpenSpec.ofChange lamportKeysSpec)) lamportKeysCard

/-- THE TIED CARD OF 'pontoonlaw05.LamportSigns'. -/
def lamportSignsCard : Claim7 := { stood := { row := lamportSignsRow, standIns := [], harness := (true, "f1211bb5ececc2c4c773864c63d207778bdb5fa3a7036cdf266f61a4f5e876fb"), looks := false }, kinds := [], alts := [], laidByText := true, laidKinds := [.data, .data], laidTests := true, laidLooks := .later }
def LamportSignsCardSaid : Prop := Claim7.holds Tryd.pinned (.plain (OpenSpec.ofChange lamportSignsSpec)) lamportSignsCard

/-- THE SECOND FORM's CARD OF 'pontoonlaw04.DigestInputs'. -/
def digestInputsUptoCard : Claim7 := { stood := { row := digestInputsUptoRow, standIns := [], harness := (true, "f1211bb5ececc2c4c773864c63d207778bdb5fa3a7036cdf266f61a4f5e876fb"), looks := false }, kinds := [], alts := [], laidByText := true, laidKinds := [.data, .data], laidTests := true, laidLooks := .later }
def DigestInputsUptoCardSaid : Prop := Claim7.holds Tryd.pinned (.plain (OpenSpec.upto digestInputsSpec)) digestInputsUptoCard

/-- THE SECOND FORM's CARD OF 'pontoonlaw04.DigestMakes'. -/
def digestMakesUptoCard : Claim7 := { stood := { row := digestMakesUptoRow, standIns := [], harness := (true, "f1211bb5ececc2c4c773864c63d207778bdb5fa3a7036cdf266f61a4f5e876fb"), looks := false }, kinds := [], alts := [], laidByText := true, laidKinds := [.data, .data], laidTests := true, laidLooks := .later }
def DigestMakesUptoCardSaid : Prop := Claim7.holds Tryd.pinned (.plain (OpenSpec.upto digestMakesSpec)) digestMakesUptoCard

/-- THE SECOND FORM's CARD OF 'pontoonlaw04.DigestJoins'. -/
def digestJoinsUptoCard : Claim7 := { stood := { row := digestJoinsUptoRow, standIns := [], harness := (true, "f1211bb5ececc2c4c773864c63d207778bdb5fa3a7036cdf266f61a4f5e876fb"), looks := false }, kinds := [], alts := [], laidByText := true, laidKinds := [.data, .data], laidTests := true, laidLooks := .later }
def DigestJoinsUptoCardSaid : Prop := Claim7.holds Tryd.pinned (.plain (OpenSpec.upto digestJoinsSpec)) digestJoinsUptoCard

/-- THE SECOND FORM's CARD OF 'pontoonlaw05.LamportOpens'. -/
def lamportOpensUptoCard : Claim7 := { stood := { row := lamportOpensUptoRow, standIns := [], harness := (true, "f1211bb5ececc2c4c773864c63d207778bdb5fa3a7036cdf266f61a4f5e876fb"), looks := false }, kinds := [], alts := [], laidByText := true, laidKinds := [.data, .data], laidTests := true, laidLooks := .later }
def LamportOpensUptoCardSaid : Prop := Claim7.holds Tryd.pinned (.plain (OpenSpec.upto lamportOpensSpec)) lamportOpensUptoCard

/-- THE SECOND FORM's CARD OF 'pontoonlaw05.LamportBinds'. -/
def lamportBindsUptoCard : Claim7 := { stood := { row := lamportBindsUptoRow, standIns := [], harness := (true, "f1211bb5ececc2c4c773864c63d207778bdb5fa3a7036cdf266f61a4f5e876fb"), looks := false }, kinds := [], alts := [], laidByText := true, laidKinds := [.data, .data], laidTests := true, laidLooks := .later }
def LamportBindsUptoCardSaid : Prop := Claim7.holds Tryd.pinned (.plain (OpenSpec.upto lamportBindsSpec)) lamportBindsUptoCard

/-- THE SECOND FORM's CARD OF 'pontoonlaw05.LamportTurns'. -/
def lamportTurnsUptoCard : Claim7 := { stood := { row := lamportTurnsUptoRow, standIns := [], harness := (true, "f1211bb5ececc2c4c773864c63d207778bdb5fa3a7036cdf266f61a4f5e876fb"), looks := false }, kinds := [], alts := [], laidByText := true, laidKinds := [.data, .data], laidTests := true, laidLooks := .later }
def LamportTurnsUptoCardSaid : Prop := Claim7.holds Tryd.pinned (.plain (OpenSpec.upto lamportTurnsSpec)) lamportTurnsUptoCard

/-- THE SECOND FORM's CARD OF 'pontoonlaw05.LamportKeys'. -/
def lamportKeysUptoCard : Claim7 := { stood := { row := lamportKeysUptoRow, standIns := [], harness := (true, "f1211bb5ececc2c4c773864c63d207778bdb5fa3a7036cdf266f61a4f5e876fb"), looks := false }, kinds := [], alts := [], laidByText := true, laidKinds := [.data, .data], laidTests := true, laidLooks := .later }
def LamportKeysUptoCardSaid : Prop := Claim7.holds Tryd.pinned (.plain (OpenSpec.upto lamportKeysSpec)) lamportKeysUptoCard

/-- THE SECOND FORM's CARD OF 'pontoonlaw05.LamportSigns'. -/
def lamportSignsUptoCard : Claim7 := { stood := { row := lamportSignsUptoRow, standIns := [], harness := (true, "f1211bb5ececc2c4c773864c63d207778bdb5fa3a7036cdf266f61a4f5e876fb"), looks := false }, kinds := [], alts := [], laidByText := true, laidKinds := [.data, .data], laidTests := true, laidLooks := .later }
def LamportSignsUptoCardSaid : Prop := Claim7.holds Tryd.pinned (.plain (OpenSpec.upto lamportSignsSpec)) lamportSignsUptoCard
end Rows
end Go.Proofs.YtbhehllkimedaaaDoor
