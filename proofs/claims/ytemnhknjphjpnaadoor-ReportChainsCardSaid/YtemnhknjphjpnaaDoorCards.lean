/-
  DERIVED. GIVEN WITH THE SEED: THE CARDS: each row of YtemnhknjphjpnaaDoorRows.lean that lists a variable, with what it lists TIED to the program's text (the seventh form; the later family's looks); each row that meets fmt, with fmt's text TOLD by the authors' own Lean function (tested against real Go, not proved from fmt's source: count such statements apart). THE CARD IS WHAT COUNTS. Prove the row's statement (the work); the ties are given (YtemnhknjphjpnaaDoorTie.lean); close each card by the builder's one call (the guide's Derived/Test/ToyasCard.lean, 'card_holds'). Laid BY PROGRAM, IN A SANDBOX (cutbox-door.mjs). By AI agents, Wed Nov 11 2026. No macro, syntax, notation, axiom, sorry.
-/
import Derived.Test.YtemnhknjphjpnaaDoorRows
import GoSem.ClaimSeven
namespace Go.Proofs.YtemnhknjphjpnaaDoor
namespace Rows

/-- THE TIED CARD OF 'pontoonlaw30.ReportChains'. -/
def reportChainsCard : Claim7 := { stood := { row := reportChainsRow, standIns := [], harness := (true, "736105a79e06cc01ce5018173cbcc754d8def431b479d4005e4d2e8275847a7f"), looks := false }, kinds := [], alts := [], laidByText := true, laidKinds := [.data, .data, .data, .data, .data, .pinned], laidTests := true, laidLooks := .later }
def ReportChainsCardSaid : Prop := Claim7.holds Tryd.pinned (.plain (OpenSpec.ofChange reportChainsSpec)) reportChainsCard

/-- THE TIED CARD OF 'pontoonlaw30.ReportPlain'. -/
def reportPlainCard : Claim7 := { stood := { row := reportPlainRow, standIns := [], harness := (true, "736105a79e06cc01ce5018173cbcc754d8def431b479d4005e4d2e8275847a7f"), looks := false }, kinds := [], alts := [], laidByText := true, laidKinds := [.data, .data, .data, .data, .data, .pinned], laidTests := true, laidLooks := .later }
def ReportPlainCardSaid : Prop := Claim7.holds Tryd.pinned (.plain (OpenSpec.ofChange reportPlainSpec)) reportPlainCard

/-- THE SECOND FORM's CARD OF 'pontoonlaw30.ReportChains'. -/
def reportChainsUptoCard : Claim7 := { stood := { row := reportChainsUptoRow, standIns := [], harness := (true, "736105a79e06cc01ce5018173cbcc754d8def431b479d4005e4d2e8275847a7f"), looks := false }, kinds := [], alts := [], laidByText := true, laidKinds := [.data, .data, .data, .data, .data, .pinned], laidTests := true, laidLooks := .later }
def ReportChainsUptoCardSaid : Prop := Claim7.holds Tryd.pinned (.plain (OpenSpec.upto reportChainsSpec)) reportChainsUptoCard

/-- THE SECOND FORM's CARD OF 'pontoonlaw30.ReportPlain'. -/
def reportPlainUptoCard : Claim7 := { stood := { row := reportPlainUptoRow, standIns := [], harness := (true, "736105a79e06cc01ce5018173cbcc754d8def431b479d4005e4d2e8275847a7f"), looks := false }, kinds := [], alts := [], laidByText := true, laidKinds := [.data, .data, .data, .data, .data, .pinned], laidTests := true, laidLooks := .later }
def ReportPlainUptoCardSaid : Prop := Claim7.holds Tryd.pinned (.plain (OpenSpec.upto reportPlainSpec)) reportPlainUptoCard
end Rows
end Go.Proofs.YtemnhknjphjpnaaDoor
