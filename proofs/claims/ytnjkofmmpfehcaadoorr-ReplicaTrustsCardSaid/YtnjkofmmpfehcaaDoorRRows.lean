/-
  NARROWER THAN 'FOR EVERY INPUT', by the rows' own cells (each row's printed sentence says how): RelayerSteps: laid · RelayerStops: laid · ReplicaTrusts: laid · ReplicaOnce: laid · AuditChains: laid · AuditLetters: laid · UpdateBytes: laid · UpdateBack: laid.
  DERIVED. THE GIVEN ROWS OF THIS SEAT. 8 by the template 'for every input the law returns true; each argument reads behind the call as it read before'; 0 by the template 'total and deterministic' (their statements: YtnjkofmmpfehcaaDoorRTotals.lean).
  GIVEN WITH THE SEED: the statements are not yours to turn. If you find one false, say at which input.
  Laid BY PROGRAM, IN A SANDBOX (cutbox-rows.mjs): the forced cells as the released guide's own fill.sh prints them over the translation a26a0ba0a106a919… (all of the seat's roots in one cut). By AI agents, Wed Nov 11 2026. No macro, syntax, notation, axiom, sorry.
-/
import Derived.Test.YtnjkofmmpfehcaaDoorRChecked
import GoSem.PinnedTables
import GoSem.Claim
import GoSem.ClaimJoined
import GoSem.ClaimMapViews
import Derived.JoinedTies
import Derived.KernelRfl
namespace Go.Proofs.YtnjkofmmpfehcaaDoorR
/- THE CELL 'sum', in the pinned program and in every row, IS THE sha256 OF THE DUMP (.gsa) THAT YtnjkofmmpfehcaaDoorRProg.lean LOADS. Nothing in Lean hashes anything: it is a label: what it is worth is what the hold of that sum in a sandbox is worth. -/
noncomputable def Tryd.pinned : Pinned := { name := "ytnjkofmmpfehcaadoorr", sum := "a26a0ba0a106a919b590fcd8c6da33a92022f3c5dfb9099406f2fa91f0d66c10", checked := Tryd.checked }
namespace Rows
def none {H : Type} : Left H := { results := [], args := [] }

/- WHAT THE LISTED PACKAGE-LEVEL VARIABLES READ AS WHEN THE CALL BEGINS. Each datum BY PROGRAM (the guide's laid-datum.mjs) off the statement by which the dump's own 'gosem.cut.vars' lays the variable. In a bare row this is a premise. The card (YtnjkofmmpfehcaaDoorRCards.lean) ties it to the program's text. -/
def laid_pontoon_sha_first {H : Type} : DataW H := .agg [.lit (.int .u32 1779033703), .lit (.int .u32 3144134277), .lit (.int .u32 1013904242), .lit (.int .u32 2773480762), .lit (.int .u32 1359893119), .lit (.int .u32 2600822924), .lit (.int .u32 528734635), .lit (.int .u32 1541459225)]
def laid_pontoon_sha_constants {H : Type} : DataW H := .agg [.lit (.int .u32 1116352408), .lit (.int .u32 1899447441), .lit (.int .u32 3049323471), .lit (.int .u32 3921009573), .lit (.int .u32 961987163), .lit (.int .u32 1508970993), .lit (.int .u32 2453635748), .lit (.int .u32 2870763221), .lit (.int .u32 3624381080), .lit (.int .u32 310598401), .lit (.int .u32 607225278), .lit (.int .u32 1426881987), .lit (.int .u32 1925078388), .lit (.int .u32 2162078206), .lit (.int .u32 2614888103), .lit (.int .u32 3248222580), .lit (.int .u32 3835390401), .lit (.int .u32 4022224774), .lit (.int .u32 264347078), .lit (.int .u32 604807628), .lit (.int .u32 770255983), .lit (.int .u32 1249150122), .lit (.int .u32 1555081692), .lit (.int .u32 1996064986), .lit (.int .u32 2554220882), .lit (.int .u32 2821834349), .lit (.int .u32 2952996808), .lit (.int .u32 3210313671), .lit (.int .u32 3336571891), .lit (.int .u32 3584528711), .lit (.int .u32 113926993), .lit (.int .u32 338241895), .lit (.int .u32 666307205), .lit (.int .u32 773529912), .lit (.int .u32 1294757372), .lit (.int .u32 1396182291), .lit (.int .u32 1695183700), .lit (.int .u32 1986661051), .lit (.int .u32 2177026350), .lit (.int .u32 2456956037), .lit (.int .u32 2730485921), .lit (.int .u32 2820302411), .lit (.int .u32 3259730800), .lit (.int .u32 3345764771), .lit (.int .u32 3516065817), .lit (.int .u32 3600352804), .lit (.int .u32 4094571909), .lit (.int .u32 275423344), .lit (.int .u32 430227734), .lit (.int .u32 506948616), .lit (.int .u32 659060556), .lit (.int .u32 883997877), .lit (.int .u32 958139571), .lit (.int .u32 1322822218), .lit (.int .u32 1537002063), .lit (.int .u32 1747873779), .lit (.int .u32 1955562222), .lit (.int .u32 2024104815), .lit (.int .u32 2227730452), .lit (.int .u32 2361852424), .lit (.int .u32 2428436474), .lit (.int .u32 2756734187), .lit (.int .u32 3204031479), .lit (.int .u32 3329325298)]
def laid_unicode_utf8_acceptRanges {H : Type} : DataW H := .agg [.agg [.lit (.int .u8 128), .lit (.int .u8 191)], .agg [.lit (.int .u8 160), .lit (.int .u8 191)], .agg [.lit (.int .u8 128), .lit (.int .u8 159)], .agg [.lit (.int .u8 144), .lit (.int .u8 191)], .agg [.lit (.int .u8 128), .lit (.int .u8 143)], .agg [.lit (.int .u8 0), .lit (.int .u8 0)], .agg [.lit (.int .u8 0), .lit (.int .u8 0)], .agg [.lit (.int .u8 0), .lit (.int .u8 0)], .agg [.lit (.int .u8 0), .lit (.int .u8 0)], .agg [.lit (.int .u8 0), .lit (.int .u8 0)], .agg [.lit (.int .u8 0), .lit (.int .u8 0)], .agg [.lit (.int .u8 0), .lit (.int .u8 0)], .agg [.lit (.int .u8 0), .lit (.int .u8 0)], .agg [.lit (.int .u8 0), .lit (.int .u8 0)], .agg [.lit (.int .u8 0), .lit (.int .u8 0)], .agg [.lit (.int .u8 0), .lit (.int .u8 0)]]
/-- One of Go's own tables, pinned by name: the form's constant. -/
def laid_unicode_utf8_first : DataW Unit := Go.Pinned.utf8First

/-- 'pontoonlaw23.RelayerSteps': WHATEVER THE INPUT: true; the input reads as it did. -/
def relayerStepsSpec : ChangeSpec := { name := "relayerSteps", fn := fun _ => fun
  | [d1, d2, d3, d4, d5] => { results := [.lit (.bool true)], args := [d1, d2, d3, d4, d5] }
  | _ => none }
def relayerStepsRow : OpenClaim := { program := "ytnjkofmmpfehcaadoorr", sum := "a26a0ba0a106a919b590fcd8c6da33a92022f3c5dfb9099406f2fa91f0d66c10", func := "pontoon/pontoonlaw23.RelayerSteps", spec := "relayerSteps", inPlace := ["internal/abi.NoEscape", "internal/bytealg.MakeNoZero"], unfollowed := true, recurses := true, named := ["pontoon/sha.first", "pontoon/sha.constants"], plainKeys := false, apart := false, laid := [("pontoon/sha.first", laid_pontoon_sha_first), ("pontoon/sha.constants", laid_pontoon_sha_constants)] }
def RelayerStepsSaid : Prop := relayerStepsRow.holds Tryd.pinned (OpenSpec.ofChange relayerStepsSpec)

/-- ITS FALSE NEIGHBOUR: 'it returns false'. Refute it at one input. -/
def relayerStepsWrong : ChangeSpec := { name := "relayerSteps", fn := fun _ => fun
  | [d1, d2, d3, d4, d5] => { results := [.lit (.bool false)], args := [d1, d2, d3, d4, d5] }
  | _ => none }
def RelayerStepsWrongFalsely : Prop := relayerStepsRow.holds Tryd.pinned (OpenSpec.ofChange relayerStepsWrong)

/-- 'pontoonlaw23.RelayerStops': WHATEVER THE INPUT: true; the input reads as it did. -/
def relayerStopsSpec : ChangeSpec := { name := "relayerStops", fn := fun _ => fun
  | [d1, d2, d3, d4, d5, d6] => { results := [.lit (.bool true)], args := [d1, d2, d3, d4, d5, d6] }
  | _ => none }
def relayerStopsRow : OpenClaim := { program := "ytnjkofmmpfehcaadoorr", sum := "a26a0ba0a106a919b590fcd8c6da33a92022f3c5dfb9099406f2fa91f0d66c10", func := "pontoon/pontoonlaw23.RelayerStops", spec := "relayerStops", inPlace := ["internal/abi.NoEscape", "internal/bytealg.MakeNoZero"], unfollowed := true, recurses := true, named := ["pontoon/sha.first", "pontoon/sha.constants"], plainKeys := false, apart := false, laid := [("pontoon/sha.first", laid_pontoon_sha_first), ("pontoon/sha.constants", laid_pontoon_sha_constants)] }
def RelayerStopsSaid : Prop := relayerStopsRow.holds Tryd.pinned (OpenSpec.ofChange relayerStopsSpec)

/-- ITS FALSE NEIGHBOUR: 'it returns false'. Refute it at one input. -/
def relayerStopsWrong : ChangeSpec := { name := "relayerStops", fn := fun _ => fun
  | [d1, d2, d3, d4, d5, d6] => { results := [.lit (.bool false)], args := [d1, d2, d3, d4, d5, d6] }
  | _ => none }
def RelayerStopsWrongFalsely : Prop := relayerStopsRow.holds Tryd.pinned (OpenSpec.ofChange relayerStopsWrong)

/-- 'pontoonlaw17.ReplicaTrusts': WHATEVER THE INPUT: true; the input reads as it did. -/
def replicaTrustsSpec : ChangeSpec := { name := "replicaTrusts", fn := fun _ => fun
  | [d1, d2, d3, d4] => { results := [.lit (.bool true)], args := [d1, d2, d3, d4] }
  | _ => none }
def replicaTrustsRow : OpenClaim := { program := "ytnjkofmmpfehcaadoorr", sum := "a26a0ba0a106a919b590fcd8c6da33a92022f3c5dfb9099406f2fa91f0d66c10", func := "pontoon/pontoonlaw17.ReplicaTrusts", spec := "replicaTrusts", inPlace := ["internal/abi.NoEscape", "internal/bytealg.MakeNoZero"], unfollowed := true, recurses := true, named := ["pontoon/sha.first", "pontoon/sha.constants"], plainKeys := false, apart := false, laid := [("pontoon/sha.first", laid_pontoon_sha_first), ("pontoon/sha.constants", laid_pontoon_sha_constants)] }
def ReplicaTrustsSaid : Prop := replicaTrustsRow.holds Tryd.pinned (OpenSpec.ofChange replicaTrustsSpec)

/-- ITS FALSE NEIGHBOUR: 'it returns false'. Refute it at one input. -/
def replicaTrustsWrong : ChangeSpec := { name := "replicaTrusts", fn := fun _ => fun
  | [d1, d2, d3, d4] => { results := [.lit (.bool false)], args := [d1, d2, d3, d4] }
  | _ => none }
def ReplicaTrustsWrongFalsely : Prop := replicaTrustsRow.holds Tryd.pinned (OpenSpec.ofChange replicaTrustsWrong)

/-- 'pontoonlaw17.ReplicaOnce': WHATEVER THE INPUT: true; the input reads as it did. -/
def replicaOnceSpec : ChangeSpec := { name := "replicaOnce", fn := fun _ => fun
  | [d1, d2, d3, d4, d5, d6] => { results := [.lit (.bool true)], args := [d1, d2, d3, d4, d5, d6] }
  | _ => none }
def replicaOnceRow : OpenClaim := { program := "ytnjkofmmpfehcaadoorr", sum := "a26a0ba0a106a919b590fcd8c6da33a92022f3c5dfb9099406f2fa91f0d66c10", func := "pontoon/pontoonlaw17.ReplicaOnce", spec := "replicaOnce", inPlace := ["internal/abi.NoEscape", "internal/bytealg.MakeNoZero"], unfollowed := true, recurses := true, named := ["pontoon/sha.first", "pontoon/sha.constants"], plainKeys := false, apart := false, laid := [("pontoon/sha.first", laid_pontoon_sha_first), ("pontoon/sha.constants", laid_pontoon_sha_constants)] }
def ReplicaOnceSaid : Prop := replicaOnceRow.holds Tryd.pinned (OpenSpec.ofChange replicaOnceSpec)

/-- ITS FALSE NEIGHBOUR: 'it returns false'. Refute it at one input. -/
def replicaOnceWrong : ChangeSpec := { name := "replicaOnce", fn := fun _ => fun
  | [d1, d2, d3, d4, d5, d6] => { results := [.lit (.bool false)], args := [d1, d2, d3, d4, d5, d6] }
  | _ => none }
def ReplicaOnceWrongFalsely : Prop := replicaOnceRow.holds Tryd.pinned (OpenSpec.ofChange replicaOnceWrong)

/-- 'pontoonlaw28.AuditChains': WHATEVER THE INPUT: true; the input reads as it did. -/
def auditChainsSpec : ChangeSpec := { name := "auditChains", fn := fun _ => fun
  | [d1, d2, d3, d4] => { results := [.lit (.bool true)], args := [d1, d2, d3, d4] }
  | _ => none }
def auditChainsRow : OpenClaim := { program := "ytnjkofmmpfehcaadoorr", sum := "a26a0ba0a106a919b590fcd8c6da33a92022f3c5dfb9099406f2fa91f0d66c10", func := "pontoon/pontoonlaw28.AuditChains", spec := "auditChains", inPlace := ["slices.overlaps[pontoon/api.Token]", "math/bits.Add64", "slices.overlaps[pontoon/api.Holding]"], unfollowed := true, recurses := true, named := ["unicode/utf8.first", "unicode/utf8.acceptRanges"], plainKeys := false, apart := false, laid := [("unicode/utf8.acceptRanges", laid_unicode_utf8_acceptRanges), ("unicode/utf8.first", laid_unicode_utf8_first)] }
def AuditChainsSaid : Prop := auditChainsRow.holds Tryd.pinned (OpenSpec.ofChange auditChainsSpec)

/-- ITS FALSE NEIGHBOUR: 'it returns false'. Refute it at one input. -/
def auditChainsWrong : ChangeSpec := { name := "auditChains", fn := fun _ => fun
  | [d1, d2, d3, d4] => { results := [.lit (.bool false)], args := [d1, d2, d3, d4] }
  | _ => none }
def AuditChainsWrongFalsely : Prop := auditChainsRow.holds Tryd.pinned (OpenSpec.ofChange auditChainsWrong)

/-- 'pontoonlaw28.AuditLetters': WHATEVER THE INPUT: true; the input reads as it did. -/
def auditLettersSpec : ChangeSpec := { name := "auditLetters", fn := fun _ => fun
  | [d1, d2, d3, d4] => { results := [.lit (.bool true)], args := [d1, d2, d3, d4] }
  | _ => none }
def auditLettersRow : OpenClaim := { program := "ytnjkofmmpfehcaadoorr", sum := "a26a0ba0a106a919b590fcd8c6da33a92022f3c5dfb9099406f2fa91f0d66c10", func := "pontoon/pontoonlaw28.AuditLetters", spec := "auditLetters", inPlace := ["slices.overlaps[pontoon/api.Token]", "math/bits.Add64", "slices.overlaps[pontoon/api.Holding]"], unfollowed := true, recurses := true, named := ["unicode/utf8.first", "unicode/utf8.acceptRanges"], plainKeys := false, apart := false, laid := [("unicode/utf8.acceptRanges", laid_unicode_utf8_acceptRanges), ("unicode/utf8.first", laid_unicode_utf8_first)] }
def AuditLettersSaid : Prop := auditLettersRow.holds Tryd.pinned (OpenSpec.ofChange auditLettersSpec)

/-- ITS FALSE NEIGHBOUR: 'it returns false'. Refute it at one input. -/
def auditLettersWrong : ChangeSpec := { name := "auditLetters", fn := fun _ => fun
  | [d1, d2, d3, d4] => { results := [.lit (.bool false)], args := [d1, d2, d3, d4] }
  | _ => none }
def AuditLettersWrongFalsely : Prop := auditLettersRow.holds Tryd.pinned (OpenSpec.ofChange auditLettersWrong)

/-- 'pontoonlaw10.UpdateBytes': WHATEVER THE INPUT: true; the input reads as it did. -/
def updateBytesSpec : ChangeSpec := { name := "updateBytes", fn := fun _ => fun
  | [d1, d2, d3] => { results := [.lit (.bool true)], args := [d1, d2, d3] }
  | _ => none }
def updateBytesRow : OpenClaim := { program := "ytnjkofmmpfehcaadoorr", sum := "a26a0ba0a106a919b590fcd8c6da33a92022f3c5dfb9099406f2fa91f0d66c10", func := "pontoon/pontoonlaw10.UpdateBytes", spec := "updateBytes", inPlace := ["internal/abi.NoEscape", "internal/bytealg.MakeNoZero"], named := ["pontoon/sha.first", "pontoon/sha.constants"], plainKeys := false, apart := false, laid := [("pontoon/sha.first", laid_pontoon_sha_first), ("pontoon/sha.constants", laid_pontoon_sha_constants)] }
def UpdateBytesSaid : Prop := updateBytesRow.holds Tryd.pinned (OpenSpec.ofChange updateBytesSpec)

/-- ITS FALSE NEIGHBOUR: 'it returns false'. Refute it at one input. -/
def updateBytesWrong : ChangeSpec := { name := "updateBytes", fn := fun _ => fun
  | [d1, d2, d3] => { results := [.lit (.bool false)], args := [d1, d2, d3] }
  | _ => none }
def UpdateBytesWrongFalsely : Prop := updateBytesRow.holds Tryd.pinned (OpenSpec.ofChange updateBytesWrong)

/-- 'pontoonlaw10.UpdateBack': WHATEVER THE INPUT: true; the input reads as it did. -/
def updateBackSpec : ChangeSpec := { name := "updateBack", fn := fun _ => fun
  | [d1, d2, d3, d4, d5, d6] => { results := [.lit (.bool true)], args := [d1, d2, d3, d4, d5, d6] }
  | _ => none }
def updateBackRow : OpenClaim := { program := "ytnjkofmmpfehcaadoorr", sum := "a26a0ba0a106a919b590fcd8c6da33a92022f3c5dfb9099406f2fa91f0d66c10", func := "pontoon/pontoonlaw10.UpdateBack", spec := "updateBack", inPlace := ["internal/abi.NoEscape", "internal/bytealg.MakeNoZero"], named := ["pontoon/sha.first", "pontoon/sha.constants"], plainKeys := false, apart := false, laid := [("pontoon/sha.first", laid_pontoon_sha_first), ("pontoon/sha.constants", laid_pontoon_sha_constants)] }
def UpdateBackSaid : Prop := updateBackRow.holds Tryd.pinned (OpenSpec.ofChange updateBackSpec)

/-- ITS FALSE NEIGHBOUR: 'it returns false'. Refute it at one input. -/
def updateBackWrong : ChangeSpec := { name := "updateBack", fn := fun _ => fun
  | [d1, d2, d3, d4, d5, d6] => { results := [.lit (.bool false)], args := [d1, d2, d3, d4, d5, d6] }
  | _ => none }
def UpdateBackWrongFalsely : Prop := updateBackRow.holds Tryd.pinned (OpenSpec.ofChange updateBackWrong)

/- THE SECOND FORM. 'bulk': how many values and letters a reading holds, each counted each time it is reached (what is shared counts as often as it is met; a slice's spare places count too). A statement '..UptoSaid' is the law's where the arguments, and the package variables that the reading takes, are together of bulk at most 1048576: NARROWER than '..Said'. Prove '..Said' where nothing that the law and all that it calls make is longer than what came in: it says more and counts as full. Else prove '..UptoSaid'. A law counts once. -/
mutual
def uptoBulk {H : Type} : DataW H → Nat
  | .lit (.string bytes) => bytes.length + 1
  | .lit _ => 1
  | .nil => 1
  | .ptr d => uptoBulk d + 1
  | .slice elems spare => uptoBulkAll elems + uptoBulkAll spare + 1
  | .agg parts => uptoBulkAll parts + 1
  | .iface _ d => uptoBulk d + 1
  | .map entries => uptoBulkEntries entries + 1
  | .held _ => 1
def uptoBulkAll {H : Type} : List (DataW H) → Nat
  | [] => 0
  | d :: r => uptoBulk d + uptoBulkAll r
def uptoBulkEntries {H : Type} : List (Lit × DataW H) → Nat
  | [] => 0
  | x :: r => uptoBulkEntry x + uptoBulkEntries r
def uptoBulkEntry {H : Type} : Lit × DataW H → Nat
  | (.string bytes, d) => bytes.length + uptoBulk d + 1
  | (_, d) => uptoBulk d + 1
 end
def uptoSmall : (H : Type) → List (DataW H) → Bool := fun _ ds => decide (uptoBulkAll ds ≤ 1048576)
def OpenSpec.upto (s : _root_.Go.ChangeSpec) : _root_.Go.OpenSpec := { _root_.Go.OpenSpec.ofChange s with cond := some uptoSmall }

/-- 'pontoonlaw23.RelayerSteps', WHERE WHAT IT READS IS OF BULK AT MOST 1048576: true; the input reads as it did. -/
def relayerStepsUptoRow : OpenClaim := { program := "ytnjkofmmpfehcaadoorr", sum := "a26a0ba0a106a919b590fcd8c6da33a92022f3c5dfb9099406f2fa91f0d66c10", func := "pontoon/pontoonlaw23.RelayerSteps", spec := "relayerSteps", inPlace := ["internal/abi.NoEscape", "internal/bytealg.MakeNoZero"], unfollowed := true, recurses := true, named := ["pontoon/sha.first", "pontoon/sha.constants"], plainKeys := false, apart := false, laid := [("pontoon/sha.first", laid_pontoon_sha_first), ("pontoon/sha.constants", laid_pontoon_sha_constants)], narrowed := true }
def RelayerStepsUptoSaid : Prop := relayerStepsUptoRow.holds Tryd.pinned (OpenSpec.upto relayerStepsSpec)

/-- 'pontoonlaw23.RelayerStops', WHERE WHAT IT READS IS OF BULK AT MOST 1048576: true; the input reads as it did. -/
def relayerStopsUptoRow : OpenClaim := { program := "ytnjkofmmpfehcaadoorr", sum := "a26a0ba0a106a919b590fcd8c6da33a92022f3c5dfb9099406f2fa91f0d66c10", func := "pontoon/pontoonlaw23.RelayerStops", spec := "relayerStops", inPlace := ["internal/abi.NoEscape", "internal/bytealg.MakeNoZero"], unfollowed := true, recurses := true, named := ["pontoon/sha.first", "pontoon/sha.constants"], plainKeys := false, apart := false, laid := [("pontoon/sha.first", laid_pontoon_sha_first), ("pontoon/sha.constants", laid_pontoon_sha_constants)], narrowed := true }
def RelayerStopsUptoSaid : Prop := relayerStopsUptoRow.holds Tryd.pinned (OpenSpec.upto relayerStopsSpec)

/-- 'pontoonlaw17.ReplicaTrusts', WHERE WHAT IT READS IS OF BULK AT MOST 1048576: true; the input reads as it did. -/
def replicaTrustsUptoRow : OpenClaim := { program := "ytnjkofmmpfehcaadoorr", sum := "a26a0ba0a106a919b590fcd8c6da33a92022f3c5dfb9099406f2fa91f0d66c10", func := "pontoon/pontoonlaw17.ReplicaTrusts", spec := "replicaTrusts", inPlace := ["internal/abi.NoEscape", "internal/bytealg.MakeNoZero"], unfollowed := true, recurses := true, named := ["pontoon/sha.first", "pontoon/sha.constants"], plainKeys := false, apart := false, laid := [("pontoon/sha.first", laid_pontoon_sha_first), ("pontoon/sha.constants", laid_pontoon_sha_constants)], narrowed := true }
def ReplicaTrustsUptoSaid : Prop := replicaTrustsUptoRow.holds Tryd.pinned (OpenSpec.upto replicaTrustsSpec)

/-- 'pontoonlaw17.ReplicaOnce', WHERE WHAT IT READS IS OF BULK AT MOST 1048576: true; the input reads as it did. -/
def replicaOnceUptoRow : OpenClaim := { program := "ytnjkofmmpfehcaadoorr", sum := "a26a0ba0a106a919b590fcd8c6da33a92022f3c5dfb9099406f2fa91f0d66c10", func := "pontoon/pontoonlaw17.ReplicaOnce", spec := "replicaOnce", inPlace := ["internal/abi.NoEscape", "internal/bytealg.MakeNoZero"], unfollowed := true, recurses := true, named := ["pontoon/sha.first", "pontoon/sha.constants"], plainKeys := false, apart := false, laid := [("pontoon/sha.first", laid_pontoon_sha_first), ("pontoon/sha.constants", laid_pontoon_sha_constants)], narrowed := true }
def ReplicaOnceUptoSaid : Prop := replicaOnceUptoRow.holds Tryd.pinned (OpenSpec.upto replicaOnceSpec)

/-- 'pontoonlaw28.AuditChains', WHERE WHAT IT READS IS OF BULK AT MOST 1048576: true; the input reads as it did. -/
def auditChainsUptoRow : OpenClaim := { program := "ytnjkofmmpfehcaadoorr", sum := "a26a0ba0a106a919b590fcd8c6da33a92022f3c5dfb9099406f2fa91f0d66c10", func := "pontoon/pontoonlaw28.AuditChains", spec := "auditChains", inPlace := ["slices.overlaps[pontoon/api.Token]", "math/bits.Add64", "slices.overlaps[pontoon/api.Holding]"], unfollowed := true, recurses := true, named := ["unicode/utf8.first", "unicode/utf8.acceptRanges"], plainKeys := false, apart := false, laid := [("unicode/utf8.acceptRanges", laid_unicode_utf8_acceptRanges), ("unicode/utf8.first", laid_unicode_utf8_first)], narrowed := true }
def AuditChainsUptoSaid : Prop := auditChainsUptoRow.holds Tryd.pinned (OpenSpec.upto auditChainsSpec)

/-- 'pontoonlaw28.AuditLetters', WHERE WHAT IT READS IS OF BULK AT MOST 1048576: true; the input reads as it did. -/
def auditLettersUptoRow : OpenClaim := { program := "ytnjkofmmpfehcaadoorr", sum := "a26a0ba0a106a919b590fcd8c6da33a92022f3c5dfb9099406f2fa91f0d66c10", func := "pontoon/pontoonlaw28.AuditLetters", spec := "auditLetters", inPlace := ["slices.overlaps[pontoon/api.Token]", "math/bits.Add64", "slices.overlaps[pontoon/api.Holding]"], unfollowed := true, recurses := true, named := ["unicode/utf8.first", "unicode/utf8.acceptRanges"], plainKeys := false, apart := false, laid := [("unicode/utf8.acceptRanges", laid_unicode_utf8_acceptRanges), ("unicode/utf8.first", laid_unicode_utf8_first)], narrowed := true }
def AuditLettersUptoSaid : Prop := auditLettersUptoRow.holds Tryd.pinned (OpenSpec.upto auditLettersSpec)

/-- 'pontoonlaw10.UpdateBytes', WHERE WHAT IT READS IS OF BULK AT MOST 1048576: true; the input reads as it did. -/
def updateBytesUptoRow : OpenClaim := { program := "ytnjkofmmpfehcaadoorr", sum := "a26a0ba0a106a919b590fcd8c6da33a92022f3c5dfb9099406f2fa91f0d66c10", func := "pontoon/pontoonlaw10.UpdateBytes", spec := "updateBytes", inPlace := ["internal/abi.NoEscape", "internal/bytealg.MakeNoZero"], named := ["pontoon/sha.first", "pontoon/sha.constants"], plainKeys := false, apart := false, laid := [("pontoon/sha.first", laid_pontoon_sha_first), ("pontoon/sha.constants", laid_pontoon_sha_constants)], narrowed := true }
def UpdateBytesUptoSaid : Prop := updateBytesUptoRow.holds Tryd.pinned (OpenSpec.upto updateBytesSpec)

/-- 'pontoonlaw10.UpdateBack', WHERE WHAT IT READS IS OF BULK AT MOST 1048576: true; the input reads as it did. -/
def updateBackUptoRow : OpenClaim := { program := "ytnjkofmmpfehcaadoorr", sum := "a26a0ba0a106a919b590fcd8c6da33a92022f3c5dfb9099406f2fa91f0d66c10", func := "pontoon/pontoonlaw10.UpdateBack", spec := "updateBack", inPlace := ["internal/abi.NoEscape", "internal/bytealg.MakeNoZero"], named := ["pontoon/sha.first", "pontoon/sha.constants"], plainKeys := false, apart := false, laid := [("pontoon/sha.first", laid_pontoon_sha_first), ("pontoon/sha.constants", laid_pontoon_sha_constants)], narrowed := true }
def UpdateBackUptoSaid : Prop := updateBackUptoRow.holds Tryd.pinned (OpenSpec.upto updateBackSpec)

end Rows
end Go.Proofs.YtnjkofmmpfehcaaDoorR
