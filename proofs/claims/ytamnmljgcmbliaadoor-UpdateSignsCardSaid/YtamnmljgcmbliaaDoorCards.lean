/-
  DERIVED. GIVEN WITH THE SEED: THE CARDS: each row of YtamnmljgcmbliaaDoorRows.lean that lists a variable, with what it lists TIED to the program's text (the seventh form; the later family's looks); each row that meets fmt, with fmt's text TOLD by the authors' own Lean function (tested against real Go, not proved from fmt's source: count such statements apart). THE CARD IS WHAT COUNTS. Prove the row's statement (the work); the ties are given (YtamnmljgcmbliaaDoorTie.lean); close each card by the builder's one call (the guide's Derived/Test/ToyasCard.lean, 'card_holds'). Laid BY PROGRAM, IN A SANDBOX (cutbox-door.mjs). By AI agents, Wed Nov 11 2026. No macro, syntax, notation, axiom, sorry.
-/
import Derived.Test.YtamnmljgcmbliaaDoorRows
import GoSem.ClaimSeven
namespace Go.Proofs.YtamnmljgcmbliaaDoor
namespace Rows

/-- THE TIED CARD OF 'pontoonlaw06.KeysVerifies'. -/
def keysVerifiesCard : Claim7 := { stood := { row := keysVerifiesRow, standIns := [], harness := (true, "f763fb9be028428bf5ee24bfc03caf77e304a6b0a15c70790ef7acd00324caf3"), looks := false }, kinds := [], alts := [], laidByText := true, laidKinds := [.data, .data], laidTests := true, laidLooks := .later }
def KeysVerifiesCardSaid : Prop := Claim7.holds Tryd.pinned (.plain (OpenSpec.ofChange keysVerifiesSpec)) keysVerifiesCard

/-- THE TIED CARD OF 'pontoonlaw06.KeysBinds'. -/
def keysBindsCard : Claim7 := { stood := { row := keysBindsRow, standIns := [], harness := (true, "f763fb9be028428bf5ee24bfc03caf77e304a6b0a15c70790ef7acd00324caf3"), looks := false }, kinds := [], alts := [], laidByText := true, laidKinds := [.data, .data], laidTests := true, laidLooks := .later }
def KeysBindsCardSaid : Prop := Claim7.holds Tryd.pinned (.plain (OpenSpec.ofChange keysBindsSpec)) keysBindsCard

/-- THE TIED CARD OF 'pontoonlaw06.KeysMakes'. -/
def keysMakesCard : Claim7 := { stood := { row := keysMakesRow, standIns := [], harness := (true, "f763fb9be028428bf5ee24bfc03caf77e304a6b0a15c70790ef7acd00324caf3"), looks := false }, kinds := [], alts := [], laidByText := true, laidKinds := [.data, .data], laidTests := true, laidLooks := .later }
def KeysMakesCardSaid : Prop := Claim7.holds Tryd.pinned (.plain (OpenSpec.ofChange keysMakesSpec)) keysMakesCard

/-- THE TIED CARD OF 'pontoonlaw10.UpdateBinds'. -/
def updateBindsCard : Claim7 := { stood := { row := updateBindsRow, standIns := [], harness := (true, "f763fb9be028428bf5ee24bfc03caf77e304a6b0a15c70790ef7acd00324caf3"), looks := false }, kinds := [], alts := [], laidByText := true, laidKinds := [.data, .data], laidTests := true, laidLooks := .later }
def UpdateBindsCardSaid : Prop := Claim7.holds Tryd.pinned (.plain (OpenSpec.ofChange updateBindsSpec)) updateBindsCard

/-- THE TIED CARD OF 'pontoonlaw10.UpdateDigests'. -/
def updateDigestsCard : Claim7 := { stood := { row := updateDigestsRow, standIns := [], harness := (true, "f763fb9be028428bf5ee24bfc03caf77e304a6b0a15c70790ef7acd00324caf3"), looks := false }, kinds := [], alts := [], laidByText := true, laidKinds := [.data, .data], laidTests := true, laidLooks := .later }
def UpdateDigestsCardSaid : Prop := Claim7.holds Tryd.pinned (.plain (OpenSpec.ofChange updateDigestsSpec)) updateDigestsCard

/-- THE TIED CARD OF 'pontoonlaw06.KeysBooks'. -/
def keysBooksCard : Claim7 := { stood := { row := keysBooksRow, standIns := [], harness := (true, "f763fb9be028428bf5ee24bfc03caf77e304a6b0a15c70790ef7acd00324caf3"), looks := false }, kinds := [], alts := [], laidByText := true, laidKinds := [.data, .data], laidTests := true, laidLooks := .later }
def KeysBooksCardSaid : Prop := Claim7.holds Tryd.pinned (.plain (OpenSpec.ofChange keysBooksSpec)) keysBooksCard

/-- THE TIED CARD OF 'pontoonlaw10.UpdateRights'. -/
def updateRightsCard : Claim7 := { stood := { row := updateRightsRow, standIns := [], harness := (true, "f763fb9be028428bf5ee24bfc03caf77e304a6b0a15c70790ef7acd00324caf3"), looks := false }, kinds := [], alts := [], laidByText := true, laidKinds := [.data, .data], laidTests := true, laidLooks := .later }
def UpdateRightsCardSaid : Prop := Claim7.holds Tryd.pinned (.plain (OpenSpec.ofChange updateRightsSpec)) updateRightsCard

/-- THE TIED CARD OF 'pontoonlaw10.UpdateSigns'. -/
def updateSignsCard : Claim7 := { stood := { row := updateSignsRow, standIns := [], harness := (true, "f763fb9be028428bf5ee24bfc03caf77e304a6b0a15c70790ef7acd00324caf3"), looks := false }, kinds := [], alts := [], laidByText := true, laidKinds := [.data, .data], laidTests := true, laidLooks := .later }
def UpdateSignsCardSaid : Prop := Claim7.holds Tryd.pinned (.plain (OpenSpec.ofChange updateSignsSpec)) updateSignsCard

/-- THE SECOND FORM's CARD OF 'pontoonlaw06.KeysVerifies'. -/
def keysVerifiesUptoCard : Claim7 := { stood := { row := keysVerifiesUptoRow, standIns := [], harness := (true, "f763fb9be028428bf5ee24bfc03caf77e304a6b0a15c70790ef7acd00324caf3"), looks := false }, kinds := [], alts := [], laidByText := true, laidKinds := [.data, .data], laidTests := true, laidLooks := .later }
def KeysVerifiesUptoCardSaid : Prop := Claim7.holds Tryd.pinned (.plain (OpenSpec.upto keysVerifiesSpec)) keysVerifiesUptoCard

/-- THE SECOND FORM's CARD OF 'pontoonlaw06.KeysBinds'. -/
def keysBindsUptoCard : Claim7 := { stood := { row := keysBindsUptoRow, standIns := [], harness := (true, "f763fb9be028428bf5ee24bfc03caf77e304a6b0a15c70790ef7acd00324caf3"), looks := false }, kinds := [], alts := [], laidByText := true, laidKinds := [.data, .data], laidTests := true, laidLooks := .later }
def KeysBindsUptoCardSaid : Prop := Claim7.holds Tryd.pinned (.plain (OpenSpec.upto keysBindsSpec)) keysBindsUptoCard

/-- THE SECOND FORM's CARD OF 'pontoonlaw06.KeysMakes'. -/
def keysMakesUptoCard : Claim7 := { stood := { row := keysMakesUptoRow, standIns := [], harness := (true, "f763fb9be028428bf5ee24bfc03caf77e304a6b0a15c70790ef7acd00324caf3"), looks := false }, kinds := [], alts := [], laidByText := true, laidKinds := [.data, .data], laidTests := true, laidLooks := .later }
def KeysMakesUptoCardSaid : Prop := Claim7.holds Tryd.pinned (.plain (OpenSpec.upto keysMakesSpec)) keysMakesUptoCard

/-- THE SECOND FORM's CARD OF 'pontoonlaw10.UpdateBinds'. -/
def updateBindsUptoCard : Claim7 := { stood := { row := updateBindsUptoRow, standIns := [], harness := (true, "f763fb9be028428bf5ee24bfc03caf77e304a6b0a15c70790ef7acd00324caf3"), looks := false }, kinds := [], alts := [], laidByText := true, laidKinds := [.data, .data], laidTests := true, laidLooks := .later }
def UpdateBindsUptoCardSaid : Prop := Claim7.holds Tryd.pinned (.plain (OpenSpec.upto updateBindsSpec)) updateBindsUptoCard

/-- THE SECOND FORM's CARD OF 'pontoonlaw10.UpdateDigests'. -/
def updateDigestsUptoCard : Claim7 := { stood := { row := updateDigestsUptoRow, standIns := [], harness := (true, "f763fb9be028428bf5ee24bfc03caf77e304a6b0a15c70790ef7acd00324caf3"), looks := false }, kinds := [], alts := [], laidByText := true, laidKinds := [.data, .data], laidTests := true, laidLooks := .later }
def UpdateDigestsUptoCardSaid : Prop := Claim7.holds Tryd.pinned (.plain (OpenSpec.upto updateDigestsSpec)) updateDigestsUptoCard

/-- THE SECOND FORM's CARD OF 'pontoonlaw06.KeysBooks'. -/
def keysBooksUptoCard : Claim7 := { stood := { row := keysBooksUptoRow, standIns := [], harness := (true, "f763fb9be028428bf5ee24bfc03caf77e304a6b0a15c70790ef7acd00324caf3"), looks := false }, kinds := [], alts := [], laidByText := true, laidKinds := [.data, .data], laidTests := true, laidLooks := .later }
def KeysBooksUptoCardSaid : Prop := Claim7.holds Tryd.pinned (.plain (OpenSpec.upto keysBooksSpec)) keysBooksUptoCard

/-- THE SECOND FORM's CARD OF 'pontoonlaw10.UpdateRights'. -/
def updateRightsUptoCard : Claim7 := { stood := { row := updateRightsUptoRow, standIns := [], harness := (true, "f763fb9be028428bf5ee24bfc03caf77e304a6b0a15c70790ef7acd00324caf3"), looks := false }, kinds := [], alts := [], laidByText := true, laidKinds := [.data, .data], laidTests := true, laidLooks := .later }
def UpdateRightsUptoCardSaid : Prop := Claim7.holds Tryd.pinned (.plain (OpenSpec.upto updateRightsSpec)) updateRightsUptoCard

/-- THE SECOND FORM's CARD OF 'pontoonlaw10.UpdateSigns'. -/
def updateSignsUptoCard : Claim7 := { stood := { row := updateSignsUptoRow, standIns := [], harness := (true, "f763fb9be028428bf5ee24bfc03caf77e304a6b0a15c70790ef7acd00324caf3"), looks := false }, kinds := [], alts := [], laidByText := true, laidKinds := [.data, .data], laidTests := true, laidLooks := .later }
def UpdateSignsUptoCardSaid : Prop := Claim7.holds Tryd.pinned (.plain (OpenSpec.upto updateSignsSpec)) updateSignsUptoCard
end Rows
end Go.Proofs.YtamnmljgcmbliaaDoor
