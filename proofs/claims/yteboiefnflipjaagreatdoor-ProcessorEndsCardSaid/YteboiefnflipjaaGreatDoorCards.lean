/-
  DERIVED. GIVEN WITH THE SEED: THE CARDS: each row of YteboiefnflipjaaGreatDoorRows.lean that lists a variable, with what it lists TIED to the program's text (the seventh form; the later family's looks); each row that meets fmt, with fmt's text TOLD by the authors' own Lean function (tested against real Go, not proved from fmt's source: count such statements apart). THE CARD IS WHAT COUNTS. Prove the row's statement (the work); the ties are given (YteboiefnflipjaaGreatDoorTie.lean); close each card by the builder's one call (the guide's Derived/Test/ToyasCard.lean, 'card_holds'). Laid BY PROGRAM, IN A SANDBOX (cutbox-door.mjs). By AI agents, Wed Nov 11 2026. No macro, syntax, notation, axiom, sorry.
-/
import Derived.Test.YteboiefnflipjaaGreatDoorRows
import GoSem.ClaimSeven
namespace Go.Proofs.YteboiefnflipjaaGreatDoor
namespace Rows

/-- THE TIED CARD OF 'pontoonlaw25.ProcessorEnds'. -/
def processorEndsCard : Claim7 := { stood := { row := processorEndsRow, standIns := [], harness := (true, "17128a77a0eed86709654a07ca77b4f0f24b9e5e444d6dcf5a724f9cff8b35d6"), looks := true }, kinds := [], alts := [], laidByText := true, laidKinds := [.data, .data], laidTests := true, laidLooks := .later }
def ProcessorEndsCardSaid : Prop := Claim7.holds Tryz.pinned (.plain (OpenSpec.ofChange processorEndsSpec)) processorEndsCard

/-- THE TIED CARD OF 'pontoonlaw17.ReplicaPlays'. -/
def replicaPlaysCard : Claim7 := { stood := { row := replicaPlaysRow, standIns := [], harness := (true, "17128a77a0eed86709654a07ca77b4f0f24b9e5e444d6dcf5a724f9cff8b35d6"), looks := true }, kinds := [], alts := [], laidByText := true, laidKinds := [.data, .data], laidTests := true, laidLooks := .later }
def ReplicaPlaysCardSaid : Prop := Claim7.holds Tryz.pinned (.plain (OpenSpec.ofChange replicaPlaysSpec)) replicaPlaysCard

/-- THE SECOND FORM's CARD OF 'pontoonlaw25.ProcessorEnds'. -/
def processorEndsUptoCard : Claim7 := { stood := { row := processorEndsUptoRow, standIns := [], harness := (true, "17128a77a0eed86709654a07ca77b4f0f24b9e5e444d6dcf5a724f9cff8b35d6"), looks := true }, kinds := [], alts := [], laidByText := true, laidKinds := [.data, .data], laidTests := true, laidLooks := .later }
def ProcessorEndsUptoCardSaid : Prop := Claim7.holds Tryz.pinned (.plain (OpenSpec.upto processorEndsSpec)) processorEndsUptoCard

/-- THE SECOND FORM's CARD OF 'pontoonlaw17.ReplicaPlays'. -/
def replicaPlaysUptoCard : Claim7 := { stood := { row := replicaPlaysUptoRow, standIns := [], harness := (true, "17128a77a0eed86709654a07ca77b4f0f24b9e5e444d6dcf5a724f9cff8b35d6"), looks := true }, kinds := [], alts := [], laidByText := true, laidKinds := [.data, .data], laidTests := true, laidLooks := .later }
def ReplicaPlaysUptoCardSaid : Prop := Claim7.holds Tryz.pinned (.plain (OpenSpec.upto replicaPlaysSpec)) replicaPlaysUptoCard
end Rows
end Go.Proofs.YteboiefnflipjaaGreatDoor
