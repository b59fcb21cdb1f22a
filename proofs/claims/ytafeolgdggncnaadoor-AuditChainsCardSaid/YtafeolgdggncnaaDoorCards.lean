/-
  DERIVED. GIVEN WITH THE SEED: THE CARDS: each row of YtafeolgdggncnaaDoorRows.lean that lists a variable, with what it lists TIED to the program's text (the seventh form; the later family's looks); each row that meets fmt, with fmt's text TOLD by the authors' own Lean function (tested against real Go, not proved from fmt's source: count such statements apart). THE CARD IS WHAT COUNTS. Prove the row's statement (the work); the ties are given (YtafeolgdggncnaaDoorTie.lean); close each card by the builder's one call (the guide's Derived/Test/ToyasCard.lean, 'card_holds'). Laid BY PROGRAM, IN A SANDBOX (cutbox-door.mjs). By AI agents, Wed Nov 11 2026. No macro, syntax, notation, axiom, sorry.
-/
import Derived.Test.YtafeolgdggncnaaDoorRows
import GoSem.ClaimSeven
namespace Go.Proofs.YtafeolgdggncnaaDoor
namespace Rows

/-- THE TIED CARD OF 'pontoonlaw28.AuditChains'. -/
def auditChainsCard : Claim7 := { stood := { row := auditChainsRow, standIns := [], harness := (true, "6dad6e51c60e63abba12e899c53a43883633897195db1631bcf12278c5ac691f"), looks := false }, kinds := [], alts := [], laidByText := true, laidKinds := [.data, .pinned], laidTests := true, laidLooks := .later }
def AuditChainsCardSaid : Prop := Claim7.holds Tryd.pinned (.plain (OpenSpec.ofChange auditChainsSpec)) auditChainsCard

/-- THE TIED CARD OF 'pontoonlaw28.AuditLetters'. -/
def auditLettersCard : Claim7 := { stood := { row := auditLettersRow, standIns := [], harness := (true, "6dad6e51c60e63abba12e899c53a43883633897195db1631bcf12278c5ac691f"), looks := false }, kinds := [], alts := [], laidByText := true, laidKinds := [.data, .pinned], laidTests := true, laidLooks := .later }
def AuditLettersCardSaid : Prop := Claim7.holds Tryd.pinned (.plain (OpenSpec.ofChange auditLettersSpec)) auditLettersCard

/-- THE SECOND FORM's CARD OF 'pontoonlaw28.AuditChains'. -/
def auditChainsUptoCard : Claim7 := { stood := { row := auditChainsUptoRow, standIns := [], harness := (true, "6dad6e51c60e63abba12e899c53a43883633897195db1631bcf12278c5ac691f"), looks := false }, kinds := [], alts := [], laidByText := true, laidKinds := [.data, .pinned], laidTests := true, laidLooks := .later }
def AuditChainsUptoCardSaid : Prop := Claim7.holds Tryd.pinned (.plain (OpenSpec.upto auditChainsSpec)) auditChainsUptoCard

/-- THE SECOND FORM's CARD OF 'pontoonlaw28.AuditLetters'. -/
def auditLettersUptoCard : Claim7 := { stood := { row := auditLettersUptoRow, standIns := [], harness := (true, "6dad6e51c60e63abba12e899c53a43883633897195db1631bcf12278c5ac691f"), looks := false }, kinds := [], alts := [], laidByText := true, laidKinds := [.data, .pinned], laidTests := true, laidLooks := .later }
def AuditLettersUptoCardSaid : Prop := Claim7.holds Tryd.pinned (.plain (OpenSpec.upto auditLettersSpec)) auditLettersUptoCard
end Rows
end Go.Proofs.YtafeolgdggncnaaDoor
