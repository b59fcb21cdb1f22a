/-
  DERIVED. GIVEN WITH THE SEED: THE CARDS: each row of YtnjkofmmpfehcaaDoorRRows.lean that lists a variable, with what it lists TIED to the program's text (the seventh form; the later family's looks); each row that meets fmt, with fmt's text TOLD by the authors' own Lean function (tested against real Go, not proved from fmt's source: count such statements apart). THE CARD IS WHAT COUNTS. Prove the row's statement (the work); the ties are given (YtnjkofmmpfehcaaDoorRTie.lean); close each card by the builder's one call (the guide's Derived/Test/ToyasCard.lean, 'card_holds'). Laid BY PROGRAM, IN A SANDBOX (cutbox-door.mjs). By AI agents, Wed Nov 11 2026. No macro, syntax, notation, axiom, sorry.
-/
import Derived.Test.YtnjkofmmpfehcaaDoorRRows
import GoSem.ClaimSeven
namespace Go.Proofs.YtnjkofmmpfehcaaDoorR
namespace Rows

/-- THE TIED CARD OF 'pontoonlaw23.RelayerSteps'. -/
def relayerStepsCard : Claim7 := { stood := { row := relayerStepsRow, standIns := [], harness := (true, "82f4732323db7de00951200c481241c67e5f49e3db69962823e48665eab4b41d"), looks := false }, kinds := [], alts := [], laidByText := true, laidKinds := [.data, .data], laidTests := true, laidLooks := .later }
def RelayerStepsCardSaid : Prop := Claim7.holds Tryd.pinned (.plain (OpenSpec.ofChange relayerStepsSpec)) relayerStepsCard

/-- THE TIED CARD OF 'pontoonlaw23.RelayerStops'. -/
def relayerStopsCard : Claim7 := { stood := { row := relayerStopsRow, standIns := [], harness := (true, "82f4732323db7de00951200c481241c67e5f49e3db69962823e48665eab4b41d"), looks := false }, kinds := [], alts := [], laidByText := true, laidKinds := [.data, .data], laidTests := true, laidLooks := .later }
def RelayerStopsCardSaid : Prop := Claim7.holds Tryd.pinned (.plain (OpenSpec.ofChange relayerStopsSpec)) relayerStopsCard

/-- THE TIED CARD OF 'pontoonlaw17.ReplicaTrusts'. -/
def replicaTrustsCard : Claim7 := { stood := { row := replicaTrustsRow, standIns := [], harness := (true, "82f4732323db7de00951200c481241c67e5f49e3db69962823e48665eab4b41d"), looks := false }, kinds := [], alts := [], laidByText := true, laidKinds := [.data, .data], laidTests := true, laidLooks := .later }
def ReplicaTrustsCardSaid : Prop := Claim7.holds Tryd.pinned (.plain (OpenSpec.ofChange replicaTrustsSpec)) replicaTrustsCard

/-- THE TIED CARD OF 'pontoonlaw17.ReplicaOnce'. -/
def replicaOnceCard : Claim7 := { stood := { row := replicaOnceRow, standIns := [], harness := (true, "82f4732323db7de00951200c481241c67e5f49e3db69962823e48665eab4b41d"), looks := false }, kinds := [], alts := [], laidByText := true, laidKinds := [.data, .data], laidTests := true, laidLooks := .later }
def ReplicaOnceCardSaid : Prop := Claim7.holds Tryd.pinned (.plain (OpenSpec.ofChange replicaOnceSpec)) replicaOnceCard

/-- THE TIED CARD OF 'pontoonlaw28.AuditChains'. -/
def auditChainsCard : Claim7 := { stood := { row := auditChainsRow, standIns := [], harness := (true, "82f4732323db7de00951200c481241c67e5f49e3db69962823e48665eab4b41d"), looks := false }, kinds := [], alts := [], laidByText := true, laidKinds := [.data, .pinned], laidTests := true, laidLooks := .later }
def AuditChainsCardSaid : Prop := Claim7.holds Tryd.pinned (.plain (OpenSpec.ofChange auditChainsSpec)) auditChainsCard

/-- THE TIED CARD OF 'pontoonlaw28.AuditLetters'. -/
def auditLettersCard : Claim7 := { stood := { row := auditLettersRow, standIns := [], harness := (true, "82f4732323db7de00951200c481241c67e5f49e3db69962823e48665eab4b41d"), looks := false }, kinds := [], alts := [], laidByText := true, laidKinds := [.data, .pinned], laidTests := true, laidLooks := .later }
def AuditLettersCardSaid : Prop := Claim7.holds Tryd.pinned (.plain (OpenSpec.ofChange auditLettersSpec)) auditLettersCard

/-- THE TIED CARD OF 'pontoonlaw10.UpdateBytes'. -/
def updateBytesCard : Claim7 := { stood := { row := updateBytesRow, standIns := [], harness := (true, "82f4732323db7de00951200c481241c67e5f49e3db69962823e48665eab4b41d"), looks := false }, kinds := [], alts := [], laidByText := true, laidKinds := [.data, .data], laidTests := true, laidLooks := .later }
def UpdateBytesCardSaid : Prop := Claim7.holds Tryd.pinned (.plain (OpenSpec.ofChange updateBytesSpec)) updateBytesCard

/-- THE TIED CARD OF 'pontoonlaw10.UpdateBack'. -/
def updateBackCard : Claim7 := { stood := { row := updateBackRow, standIns := [], harness := (true, "82f4732323db7de00951200c481241c67e5f49e3db69962823e48665eab4b41d"), looks := false }, kinds := [], alts := [], laidByText := true, laidKinds := [.data, .data], laidTests := true, laidLooks := .later }
def UpdateBackCardSaid : Prop := Claim7.holds Tryd.pinned (.plain (OpenSpec.ofChange updateBackSpec)) updateBackCard

/-- THE SECOND FORM's CARD OF 'pontoonlaw23.RelayerSteps'. -/
def relayerStepsUptoCard : Claim7 := { stood := { row := relayerStepsUptoRow, standIns := [], harness := (true, "82f4732323db7de00951200c481241c67e5f49e3db69962823e48665eab4b41d"), looks := false }, kinds := [], alts := [], laidByText := true, laidKinds := [.data, .data], laidTests := true, laidLooks := .later }
def RelayerStepsUptoCardSaid : Prop := Claim7.holds Tryd.pinned (.plain (OpenSpec.upto relayerStepsSpec)) relayerStepsUptoCard

/-- THE SECOND FORM's CARD OF 'pontoonlaw23.RelayerStops'. -/
def relayerStopsUptoCard : Claim7 := { stood := { row := relayerStopsUptoRow, standIns := [], harness := (true, "82f4732323db7de00951200c481241c67e5f49e3db69962823e48665eab4b41d"), looks := false }, kinds := [], alts := [], laidByText := true, laidKinds := [.data, .data], laidTests := true, laidLooks := .later }
def RelayerStopsUptoCardSaid : Prop := Claim7.holds Tryd.pinned (.plain (OpenSpec.upto relayerStopsSpec)) relayerStopsUptoCard

/-- THE SECOND FORM's CARD OF 'pontoonlaw17.ReplicaTrusts'. -/
def replicaTrustsUptoCard : Claim7 := { stood := { row := replicaTrustsUptoRow, standIns := [], harness := (true, "82f4732323db7de00951200c481241c67e5f49e3db69962823e48665eab4b41d"), looks := false }, kinds := [], alts := [], laidByText := true, laidKinds := [.data, .data], laidTests := true, laidLooks := .later }
def ReplicaTrustsUptoCardSaid : Prop := Claim7.holds Tryd.pinned (.plain (OpenSpec.upto replicaTrustsSpec)) replicaTrustsUptoCard

/-- THE SECOND FORM's CARD OF 'pontoonlaw17.ReplicaOnce'. -/
def replicaOnceUptoCard : Claim7 := { stood := { row := replicaOnceUptoRow, standIns := [], harness := (true, "82f4732323db7de00951200c481241c67e5f49e3db69962823e48665eab4b41d"), looks := false }, kinds := [], alts := [], laidByText := true, laidKinds := [.data, .data], laidTests := true, laidLooks := .later }
def ReplicaOnceUptoCardSaid : Prop := Claim7.holds Tryd.pinned (.plain (OpenSpec.upto replicaOnceSpec)) replicaOnceUptoCard

/-- THE SECOND FORM's CARD OF 'pontoonlaw28.AuditChains'. -/
def auditChainsUptoCard : Claim7 := { stood := { row := auditChainsUptoRow, standIns := [], harness := (true, "82f4732323db7de00951200c481241c67e5f49e3db69962823e48665eab4b41d"), looks := false }, kinds := [], alts := [], laidByText := true, laidKinds := [.data, .pinned], laidTests := true, laidLooks := .later }
def AuditChainsUptoCardSaid : Prop := Claim7.holds Tryd.pinned (.plain (OpenSpec.upto auditChainsSpec)) auditChainsUptoCard

/-- THE SECOND FORM's CARD OF 'pontoonlaw28.AuditLetters'. -/
def auditLettersUptoCard : Claim7 := { stood := { row := auditLettersUptoRow, standIns := [], harness := (true, "82f4732323db7de00951200c481241c67e5f49e3db69962823e48665eab4b41d"), looks := false }, kinds := [], alts := [], laidByText := true, laidKinds := [.data, .pinned], laidTests := true, laidLooks := .later }
def AuditLettersUptoCardSaid : Prop := Claim7.holds Tryd.pinned (.plain (OpenSpec.upto auditLettersSpec)) auditLettersUptoCard

/-- THE SECOND FORM's CARD OF 'pontoonlaw10.UpdateBytes'. -/
def updateBytesUptoCard : Claim7 := { stood := { row := updateBytesUptoRow, standIns := [], harness := (true, "82f4732323db7de00951200c481241c67e5f49e3db69962823e48665eab4b41d"), looks := false }, kinds := [], alts := [], laidByText := true, laidKinds := [.data, .data], laidTests := true, laidLooks := .later }
def UpdateBytesUptoCardSaid : Prop := Claim7.holds Tryd.pinned (.plain (OpenSpec.upto updateBytesSpec)) updateBytesUptoCard

/-- THE SECOND FORM's CARD OF 'pontoonlaw10.UpdateBack'. -/
def updateBackUptoCard : Claim7 := { stood := { row := updateBackUptoRow, standIns := [], harness := (true, "82f4732323db7de00951200c481241c67e5f49e3db69962823e48665eab4b41d"), looks := false }, kinds := [], alts := [], laidByText := true, laidKinds := [.data, .data], laidTests := true, laidLooks := .later }
def UpdateBackUptoCardSaid : Prop := Claim7.holds Tryd.pinned (.plain (OpenSpec.upto updateBackSpec)) updateBackUptoCard
end Rows
end Go.Proofs.YtnjkofmmpfehcaaDoorR
