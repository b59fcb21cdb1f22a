/-
  DERIVED. GIVEN WITH THE SEED: THE CARDS: each row of YtklikgigjdgjaaaGreatDoorRRRRows.lean that lists a variable, with what it lists TIED to the program's text (the seventh form; the later family's looks); each row that meets fmt, with fmt's text TOLD by the authors' own Lean function (tested against real Go, not proved from fmt's source: count such statements apart). THE CARD IS WHAT COUNTS. Prove the row's statement (the work); the ties are given (YtklikgigjdgjaaaGreatDoorRRRTie.lean); close each card by the builder's one call (the guide's Derived/Test/ToyasCard.lean, 'card_holds'). Laid BY PROGRAM, IN A SANDBOX (cutbox-door.mjs). By AI agents, Wed Nov 11 2026. No macro, syntax, notation, axiom, sorry.
-/
import Derived.Test.YtklikgigjdgjaaaGreatDoorRRRRows
import GoSem.ClaimSeven
namespace Go.Proofs.YtklikgigjdgjaaaGreatDoorRRR
namespace Rows

/-- THE TIED CARD OF 'pontoonlaw23.RelayerCarries'. -/
def relayerCarriesCard : Claim7 := { stood := { row := relayerCarriesRow, standIns := [], harness := (true, "bbd1260a105c4d576937418c476e2b0432425e0a26388e75609877fc6ce2a7db"), looks := false }, kinds := [], alts := [], laidByText := true, laidKinds := [.data, .data], laidTests := true, laidLooks := .later }
def RelayerCarriesCardSaid : Prop := Claim7.holds Tryz.pinned (.plain (OpenSpec.ofChange relayerCarriesSpec)) relayerCarriesCard

/-- THE SECOND FORM's CARD OF 'pontoonlaw23.RelayerCarries'. -/
def relayerCarriesUptoCard : Claim7 := { stood := { row := relayerCarriesUptoRow, standIns := [], harness := (true, "bbd1260a105c4d576937418c476e2b0432425e0a26388e75609877fc6ce2a7db"), looks := false }, kinds := [], alts := [], laidByText := true, laidKinds := [.data, .data], laidTests := true, laidLooks := .later }
def RelayerCarriesUptoCardSaid : Prop := Claim7.holds Tryz.pinned (.plain (OpenSpec.upto relayerCarriesSpec)) relayerCarriesUptoCard
end Rows
end Go.Proofs.YtklikgigjdgjaaaGreatDoorRRR
