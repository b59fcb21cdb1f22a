/-
  DERIVED. GIVEN WITH THE SEED: THE CARDS: each row of YtnjkofmmpfehcaaGreatDoorRRows.lean that lists a variable, with what it lists TIED to the program's text (the seventh form; the later family's looks); each row that meets fmt, with fmt's text TOLD by the authors' own Lean function (tested against real Go, not proved from fmt's source: count such statements apart). THE CARD IS WHAT COUNTS. Prove the row's statement (the work); the ties are given (YtnjkofmmpfehcaaGreatDoorRTie.lean); close each card by the builder's one call (the guide's Derived/Test/ToyasCard.lean, 'card_holds'). Laid BY PROGRAM, IN A SANDBOX (cutbox-door.mjs). By AI agents, Wed Nov 11 2026. No macro, syntax, notation, axiom, sorry.
-/
import Derived.Test.YtnjkofmmpfehcaaGreatDoorRRows
import GoSem.ClaimSeven
namespace Go.Proofs.YtnjkofmmpfehcaaGreatDoorR
namespace Rows

/-- THE TIED CARD OF 'pontoonlaw17.ReplicaHears'. -/
def replicaHearsCard : Claim7 := { stood := { row := replicaHearsRow, standIns := [], harness := (true, "dac0d8fcaa1ad1c2fce9de4874f60d2c0115a93ace50a498ca03d9f37c9a0f47"), looks := true }, kinds := [], alts := [], laidByText := true, laidKinds := [.data, .data], laidTests := true, laidLooks := .later }
def ReplicaHearsCardSaid : Prop := Claim7.holds Tryz.pinned (.plain (OpenSpec.ofChange replicaHearsSpec)) replicaHearsCard

/-- THE TIED CARD OF 'pontoonlaw25.ProcessorEnds'. -/
def processorEndsCard : Claim7 := { stood := { row := processorEndsRow, standIns := [], harness := (true, "dac0d8fcaa1ad1c2fce9de4874f60d2c0115a93ace50a498ca03d9f37c9a0f47"), looks := true }, kinds := [], alts := [], laidByText := true, laidKinds := [.data, .data], laidTests := true, laidLooks := .later }
def ProcessorEndsCardSaid : Prop := Claim7.holds Tryz.pinned (.plain (OpenSpec.ofChange processorEndsSpec)) processorEndsCard

/-- THE SECOND FORM's CARD OF 'pontoonlaw17.ReplicaHears'. -/
def replicaHearsUptoCard : Claim7 := { stood := { row := replicaHearsUptoRow, standIns := [], harness := (true, "dac0d8fcaa1ad1c2fce9de4874f60d2c0115a93ace50a498ca03d9f37c9a0f47"), looks := true }, kinds := [], alts := [], laidByText := true, laidKinds := [.data, .data], laidTests := true, laidLooks := .later }
def ReplicaHearsUptoCardSaid : Prop := Claim7.holds Tryz.pinned (.plain (OpenSpec.upto replicaHearsSpec)) replicaHearsUptoCard

/-- THE SECOND FORM's CARD OF 'pontoonlaw25.ProcessorEnds'. -/
def processorEndsUptoCard : Claim7 := { stood := { row := processorEndsUptoRow, standIns := [], harness := (true, "dac0d8fcaa1ad1c2fce9de4874f60d2c0115a93ace50a498ca03d9f37c9a0f47"), looks := true }, kinds := [], alts := [], laidByText := true, laidKinds := [.data, .data], laidTests := true, laidLooks := .later }
def ProcessorEndsUptoCardSaid : Prop := Claim7.holds Tryz.pinned (.plain (OpenSpec.upto processorEndsSpec)) processorEndsUptoCard
end Rows
end Go.Proofs.YtnjkofmmpfehcaaGreatDoorR
