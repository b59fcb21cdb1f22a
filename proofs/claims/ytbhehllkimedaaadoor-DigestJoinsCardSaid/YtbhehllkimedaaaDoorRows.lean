/-
  NARROWER THAN 'FOR EVERY INPUT', by the rows' own cells (each row's printed sentence says how): DigestInputs: laid · DigestMakes: laid · DigestJoins: laid · LamportOpens: laid · LamportBinds: laid · LamportTurns: laid · LamportKeys: laid · LamportSigns: laid.
  DERIVED. THE GIVEN ROWS OF THIS SEAT. 8 by the template 'for every input the law returns true; each argument reads behind the call as it read before'; 0 by the template 'total and deterministic' (their statements: YtbhehllkimedaaaDoorTotals.lean).
  GIVEN WITH THE SEED: the statements are not yours to turn. If you find one false, say at which input.
  Laid BY PROGRAM, IN A SANDBOX (cutbox-rows.mjs): the forced cells as the released guide's own fill.sh prints them over the translation 45c5c0771403e080… (all of the seat's roots in one cut). By AI agents, Wed Nov 11 2026. No macro, syntax, notation, axiom, sorry.
-/
import Derived.Test.YtbhehllkimedaaaDoorChecked
import GoSem.Claim
import GoSem.ClaimJoined
import GoSem.ClaimMapViews
import Derived.JoinedTies
import Derived.KernelRfl
namespace Go.Proofs.YtbhehllkimedaaaDoor
/- THE CELL 'sum', in the pinned program and in every row, IS THE sha256 OF THE DUMP (.gsa) THAT YtbhehllkimedaaaDoorProg.lean LOADS. Nothing in Lean hashes anything: it is a label: what it is worth is what the hold of that sum in a sandbox is worth. -/
noncomputable def Tryd.pinned : Pinned := { name := "ytbhehllkimedaaadoor", sum := "45c5c0771403e080433c724e58c672aff8051d2a0bc7c0fd3c8ed8b98bddc109", checked := Tryd.checked }
namespace Rows
def none {H : Type} : Left H := { results := [], args := [] }

/- WHAT THE LISTED PACKAGE-LEVEL VARIABLES READ AS WHEN THE CALL BEGINS. Each datum BY PROGRAM (the guide's laid-datum.mjs) off the statement by which the dump's own 'gosem.cut.vars' lays the variable. In a bare row this is a premise. The card (YtbhehllkimedaaaDoorCards.lean) ties it to the program's text. -/
def laid_pontoon_sha_first {H : Type} : DataW H := .agg [.lit (.int .u32 1779033703), .lit (.int .u32 3144134277), .lit (.int .u32 1013904242), .lit (.int .u32 2773480762), .lit (.int .u32 1359893119), .lit (.int .u32 2600822924), .lit (.int .u32 528734635), .lit (.int .u32 1541459225)]
def laid_pontoon_sha_constants {H : Type} : DataW H := .agg [.lit (.int .u32 1116352408), .lit (.int .u32 1899447441), .lit (.int .u32 3049323471), .lit (.int .u32 3921009573), .lit (.int .u32 961987163), .lit (.int .u32 1508970993), .lit (.int .u32 2453635748), .lit (.int .u32 2870763221), .lit (.int .u32 3624381080), .lit (.int .u32 310598401), .lit (.int .u32 607225278), .lit (.int .u32 1426881987), .lit (.int .u32 1925078388), .lit (.int .u32 2162078206), .lit (.int .u32 2614888103), .lit (.int .u32 3248222580), .lit (.int .u32 3835390401), .lit (.int .u32 4022224774), .lit (.int .u32 264347078), .lit (.int .u32 604807628), .lit (.int .u32 770255983), .lit (.int .u32 1249150122), .lit (.int .u32 1555081692), .lit (.int .u32 1996064986), .lit (.int .u32 2554220882), .lit (.int .u32 2821834349), .lit (.int .u32 2952996808), .lit (.int .u32 3210313671), .lit (.int .u32 3336571891), .lit (.int .u32 3584528711), .lit (.int .u32 113926993), .lit (.int .u32 338241895), .lit (.int .u32 666307205), .lit (.int .u32 773529912), .lit (.int .u32 1294757372), .lit (.int .u32 1396182291), .lit (.int .u32 1695183700), .lit (.int .u32 1986661051), .lit (.int .u32 2177026350), .lit (.int .u32 2456956037), .lit (.int .u32 2730485921), .lit (.int .u32 2820302411), .lit (.int .u32 3259730800), .lit (.int .u32 3345764771), .lit (.int .u32 3516065817), .lit (.int .u32 3600352804), .lit (.int .u32 4094571909), .lit (.int .u32 275423344), .lit (.int .u32 430227734), .lit (.int .u32 506948616), .lit (.int .u32 659060556), .lit (.int .u32 883997877), .lit (.int .u32 958139571), .lit (.int .u32 1322822218), .lit (.int .u32 1537002063), .lit (.int .u32 1747873779), .lit (.int .u32 1955562222), .lit (.int .u32 2024104815), .lit (.int .u32 2227730452), .lit (.int .u32 2361852424), .lit (.int .u32 2428436474), .lit (.int .u32 2756734187), .lit (.int .u32 3204031479), .lit (.int .u32 3329325298)]

/-- 'pontoonlaw04.DigestInputs': WHATEVER THE INPUT: true; the input reads as it did. -/
def digestInputsSpec : ChangeSpec := { name := "digestInputs", fn := fun _ => fun
  | [d1, d2] => { results := [.lit (.bool true)], args := [d1, d2] }
  | _ => none }
def digestInputsRow : OpenClaim := { program := "ytbhehllkimedaaadoor", sum := "45c5c0771403e080433c724e58c672aff8051d2a0bc7c0fd3c8ed8b98bddc109", func := "pontoon/pontoonlaw04.DigestInputs", spec := "digestInputs", inPlace := ["internal/abi.NoEscape", "internal/bytealg.MakeNoZero"], named := ["pontoon/sha.first", "pontoon/sha.constants"], plainKeys := false, apart := false, laid := [("pontoon/sha.first", laid_pontoon_sha_first), ("pontoon/sha.constants", laid_pontoon_sha_constants)] }
def DigestInputsSaid : Prop := digestInputsRow.holds Tryd.pinned (OpenSpec.ofChange digestInputsSpec)

/-- ITS FALSE NEIGHBOUR: 'it returns false'. Refute it at one input. -/
def digestInputsWrong : ChangeSpec := { name := "digestInputs", fn := fun _ => fun
  | [d1, d2] => { results := [.lit (.bool false)], args := [d1, d2] }
  | _ => none }
def DigestInputsWrongFalsely : Prop := digestInputsRow.holds Tryd.pinned (OpenSpec.ofChange digestInputsWrong)

/-- 'pontoonlaw04.DigestMakes': WHATEVER THE INPUT: true; the input reads as it did. -/
def digestMakesSpec : ChangeSpec := { name := "digestMakes", fn := fun _ => fun
  | [d1, d2] => { results := [.lit (.bool true)], args := [d1, d2] }
  | _ => none }
def digestMakesRow : OpenClaim := { program := "ytbhehllkimedaaadoor", sum := "45c5c0771403e080433c724e58c672aff8051d2a0bc7c0fd3c8ed8b98bddc109", func := "pontoon/pontoonlaw04.DigestMakes", spec := "digestMakes", inPlace := ["internal/abi.NoEscape", "internal/bytealg.MakeNoZero"], named := ["pontoon/sha.first", "pontoon/sha.constants"], plainKeys := false, apart := false, laid := [("pontoon/sha.first", laid_pontoon_sha_first), ("pontoon/sha.constants", laid_pontoon_sha_constants)] }
def DigestMakesSaid : Prop := digestMakesRow.holds Tryd.pinned (OpenSpec.ofChange digestMakesSpec)

/-- ITS FALSE NEIGHBOUR: 'it returns false'. Refute it at one input. -/
def digestMakesWrong : ChangeSpec := { name := "digestMakes", fn := fun _ => fun
  | [d1, d2] => { results := [.lit (.bool false)], args := [d1, d2] }
  | _ => none }
def DigestMakesWrongFalsely : Prop := digestMakesRow.holds Tryd.pinned (OpenSpec.ofChange digestMakesWrong)

/-- 'pontoonlaw04.DigestJoins': WHATEVER THE INPUT: true; the input reads as it did. -/
def digestJoinsSpec : ChangeSpec := { name := "digestJoins", fn := fun _ => fun
  | [d1, d2] => { results := [.lit (.bool true)], args := [d1, d2] }
  | _ => none }
def digestJoinsRow : OpenClaim := { program := "ytbhehllkimedaaadoor", sum := "45c5c0771403e080433c724e58c672aff8051d2a0bc7c0fd3c8ed8b98bddc109", func := "pontoon/pontoonlaw04.DigestJoins", spec := "digestJoins", inPlace := ["internal/abi.NoEscape", "internal/bytealg.MakeNoZero"], named := ["pontoon/sha.first", "pontoon/sha.constants"], plainKeys := false, apart := false, laid := [("pontoon/sha.first", laid_pontoon_sha_first), ("pontoon/sha.constants", laid_pontoon_sha_constants)] }
def DigestJoinsSaid : Prop := digestJoinsRow.holds Tryd.pinned (OpenSpec.ofChange digestJoinsSpec)

/-- ITS FALSE NEIGHBOUR: 'it returns false'. Refute it at one input. -/
def digestJoinsWrong : ChangeSpec := { name := "digestJoins", fn := fun _ => fun
  | [d1, d2] => { results := [.lit (.bool false)], args := [d1, d2] }
  | _ => none }
def DigestJoinsWrongFalsely : Prop := digestJoinsRow.holds Tryd.pinned (OpenSpec.ofChange digestJoinsWrong)

/-- 'pontoonlaw05.LamportOpens': WHATEVER THE INPUT: true; the input reads as it did. -/
def lamportOpensSpec : ChangeSpec := { name := "lamportOpens", fn := fun _ => fun
  | [d1, d2, d3] => { results := [.lit (.bool true)], args := [d1, d2, d3] }
  | _ => none }
def lamportOpensRow : OpenClaim := { program := "ytbhehllkimedaaadoor", sum := "45c5c0771403e080433c724e58c672aff8051d2a0bc7c0fd3c8ed8b98bddc109", func := "pontoon/pontoonlaw05.LamportOpens", spec := "lamportOpens", inPlace := ["internal/abi.NoEscape", "internal/bytealg.MakeNoZero"], named := ["pontoon/sha.first", "pontoon/sha.constants"], plainKeys := false, apart := false, laid := [("pontoon/sha.first", laid_pontoon_sha_first), ("pontoon/sha.constants", laid_pontoon_sha_constants)] }
def LamportOpensSaid : Prop := lamportOpensRow.holds Tryd.pinned (OpenSpec.ofChange lamportOpensSpec)

/-- ITS FALSE NEIGHBOUR: 'it returns false'. Refute it at one input. -/
def lamportOpensWrong : ChangeSpec := { name := "lamportOpens", fn := fun _ => fun
  | [d1, d2, d3] => { results := [.lit (.bool false)], args := [d1, d2, d3] }
  | _ => none }
def LamportOpensWrongFalsely : Prop := lamportOpensRow.holds Tryd.pinned (OpenSpec.ofChange lamportOpensWrong)

/-- 'pontoonlaw05.LamportBinds': WHATEVER THE INPUT: true; the input reads as it did. -/
def lamportBindsSpec : ChangeSpec := { name := "lamportBinds", fn := fun _ => fun
  | [d1, d2, d3, d4] => { results := [.lit (.bool true)], args := [d1, d2, d3, d4] }
  | _ => none }
def lamportBindsRow : OpenClaim := { program := "ytbhehllkimedaaadoor", sum := "45c5c0771403e080433c724e58c672aff8051d2a0bc7c0fd3c8ed8b98bddc109", func := "pontoon/pontoonlaw05.LamportBinds", spec := "lamportBinds", inPlace := ["internal/abi.NoEscape", "internal/bytealg.MakeNoZero"], named := ["pontoon/sha.first", "pontoon/sha.constants"], plainKeys := false, apart := false, laid := [("pontoon/sha.first", laid_pontoon_sha_first), ("pontoon/sha.constants", laid_pontoon_sha_constants)] }
def LamportBindsSaid : Prop := lamportBindsRow.holds Tryd.pinned (OpenSpec.ofChange lamportBindsSpec)

/-- ITS FALSE NEIGHBOUR: 'it returns false'. Refute it at one input. -/
def lamportBindsWrong : ChangeSpec := { name := "lamportBinds", fn := fun _ => fun
  | [d1, d2, d3, d4] => { results := [.lit (.bool false)], args := [d1, d2, d3, d4] }
  | _ => none }
def LamportBindsWrongFalsely : Prop := lamportBindsRow.holds Tryd.pinned (OpenSpec.ofChange lamportBindsWrong)

/-- 'pontoonlaw05.LamportTurns': WHATEVER THE INPUT: true; the input reads as it did. -/
def lamportTurnsSpec : ChangeSpec := { name := "lamportTurns", fn := fun _ => fun
  | [d1, d2, d3, d4, d5, d6] => { results := [.lit (.bool true)], args := [d1, d2, d3, d4, d5, d6] }
  | _ => none }
def lamportTurnsRow : OpenClaim := { program := "ytbhehllkimedaaadoor", sum := "45c5c0771403e080433c724e58c672aff8051d2a0bc7c0fd3c8ed8b98bddc109", func := "pontoon/pontoonlaw05.LamportTurns", spec := "lamportTurns", inPlace := ["internal/abi.NoEscape", "internal/bytealg.MakeNoZero"], named := ["pontoon/sha.first", "pontoon/sha.constants"], plainKeys := false, apart := false, laid := [("pontoon/sha.first", laid_pontoon_sha_first), ("pontoon/sha.constants", laid_pontoon_sha_constants)] }
def LamportTurnsSaid : Prop := lamportTurnsRow.holds Tryd.pinned (OpenSpec.ofChange lamportTurnsSpec)

/-- ITS FALSE NEIGHBOUR: 'it returns false'. Refute it at one input. -/
def lamportTurnsWrong : ChangeSpec := { name := "lamportTurns", fn := fun _ => fun
  | [d1, d2, d3, d4, d5, d6] => { results := [.lit (.bool false)], args := [d1, d2, d3, d4, d5, d6] }
  | _ => none }
def LamportTurnsWrongFalsely : Prop := lamportTurnsRow.holds Tryd.pinned (OpenSpec.ofChange lamportTurnsWrong)

/-- 'pontoonlaw05.LamportKeys': WHATEVER THE INPUT: true; the input reads as it did. -/
def lamportKeysSpec : ChangeSpec := { name := "lamportKeys", fn := fun _ => fun
  | [d1, d2, d3, d4, d5] => { results := [.lit (.bool true)], args := [d1, d2, d3, d4, d5] }
  | _ => none }
def lamportKeysRow : OpenClaim := { program := "ytbhehllkimedaaadoor", sum := "45c5c0771403e080433c724e58c672aff8051d2a0bc7c0fd3c8ed8b98bddc109", func := "pontoon/pontoonlaw05.LamportKeys", spec := "lamportKeys", inPlace := ["internal/abi.NoEscape", "internal/bytealg.MakeNoZero"], named := ["pontoon/sha.first", "pontoon/sha.constants"], plainKeys := false, apart := false, laid := [("pontoon/sha.first", laid_pontoon_sha_first), ("pontoon/sha.constants", laid_pontoon_sha_constants)] }
def LamportKeysSaid : Prop := lamportKeysRow.holds Tryd.pinned (OpenSpec.ofChange lamportKeysSpec)

/-- ITS FALSE NEIGHBOUR: 'it returns false'. Refute it at one input. -/
def lamportKeysWrong : ChangeSpec := { name := "lamportKeys", fn := fun _ => fun
  | [d1, d2, d3, d4, d5] => { results := [.lit (.bool false)], args := [d1, d2, d3, d4, d5] }
  | _ => none }
def LamportKeysWrongFalsely : Prop := lamportKeysRow.holds Tryd.pinned (OpenSpec.ofChange lamportKeysWrong)

/-- 'pontoonlaw05.LamportSigns': WHATEVER THE INPUT: true; the input reads as it did. -/
def lamportSignsSpec : ChangeSpec := { name := "lamportSigns", fn := fun _ => fun
  | [d1, d2, d3, d4, d5] => { results := [.lit (.bool true)], args := [d1, d2, d3, d4, d5] }
  | _ => none }
def lamportSignsRow : OpenClaim := { program := "ytbhehllkimedaaadoor", sum := "45c5c0771403e080433c724e58c672aff8051d2a0bc7c0fd3c8ed8b98bddc109", func := "pontoon/pontoonlaw05.LamportSigns", spec := "lamportSigns", inPlace := ["internal/abi.NoEscape", "internal/bytealg.MakeNoZero"], named := ["pontoon/sha.first", "pontoon/sha.constants"], plainKeys := false, apart := false, laid := [("pontoon/sha.first", laid_pontoon_sha_first), ("pontoon/sha.constants", laid_pontoon_sha_constants)] }
def LamportSignsSaid : Prop := lamportSignsRow.holds Tryd.pinned (OpenSpec.ofChange lamportSignsSpec)

/-- ITS FALSE NEIGHBOUR: 'it returns false'. Refute it at one input. -/
def lamportSignsWrong : ChangeSpec := { name := "lamportSigns", fn := fun _ => fun
  | [d1, d2, d3, d4, d5] => { results := [.lit (.bool false)], args := [d1, d2, d3, d4, d5] }
  | _ => none }
def LamportSignsWrongFalsely : Prop := lamportSignsRow.holds Tryd.pinned (OpenSpec.ofChange lamportSignsWrong)

/- THE SECOND FORM. 'bulk': how many values and letters a reading holds, each counted each time it is reached (what is shared counts as often as it is met; a slice's spare places count too). A statement '..UptoSaid' is the law's where the arguments, and the package variables that the reading takes, are together of bulk at most 1048576: NARROWER than '..Said'. Prove '..Said' where nothing that the law and all that it calls make is longer than what came in: it says more and counts as full. Else prove '..UptoSaid'. A law counts once. -/
mutual
def uptoBulk {H : Type} : DataW H → Nat
  | .lit (.string bytes) => bytes.length + 1
  | .lit _ => 1
  | .nil => 1
  | .ptr d => uptoBulk d + 1
  | .slice elems spare => uptoBulkAll elems + uptoBulkAll spare + 1
  | .agg parts => uptoBulkAll parts + 1
  | .iface _ d => uptoBulk d + 1
  | .map entries => uptoBulkEntries entries + 1
  | .held _ => 1
def uptoBulkAll {H : Type} : List (DataW H) → Nat
  | [] => 0
  | d :: r => uptoBulk d + uptoBulkAll r
def uptoBulkEntries {H : Type} : List (Lit × DataW H) → Nat
  | [] => 0
  | x :: r => uptoBulkEntry x + uptoBulkEntries r
def uptoBulkEntry {H : Type} : Lit × DataW H → Nat
  | (.string bytes, d) => bytes.length + uptoBulk d + 1
  | (_, d) => uptoBulk d + 1
 end
def uptoSmall : (H : Type) → List (DataW H) → Bool := fun _ ds => decide (uptoBulkAll ds ≤ 1048576)
def OpenSpec.upto (s : _root_.Go.ChangeSpec) : _root_.Go.OpenSpec := { _root_.Go.OpenSpec.ofChange s with cond := some uptoSmall }

/-- 'pontoonlaw04.DigestInputs', WHERE WHAT IT READS IS OF BULK AT MOST 1048576: true; the input reads as it did. -/
def digestInputsUptoRow : OpenClaim := { program := "ytbhehllkimedaaadoor", sum := "45c5c0771403e080433c724e58c672aff8051d2a0bc7c0fd3c8ed8b98bddc109", func := "pontoon/pontoonlaw04.DigestInputs", spec := "digestInputs", inPlace := ["internal/abi.NoEscape", "internal/bytealg.MakeNoZero"], named := ["pontoon/sha.first", "pontoon/sha.constants"], plainKeys := false, apart := false, laid := [("pontoon/sha.first", laid_pontoon_sha_first), ("pontoon/sha.constants", laid_pontoon_sha_constants)], narrowed := true }
def DigestInputsUptoSaid : Prop := digestInputsUptoRow.holds Tryd.pinned (OpenSpec.upto digestInputsSpec)

/-- 'pontoonlaw04.DigestMakes', WHERE WHAT IT READS IS OF BULK AT MOST 1048576: true; the input reads as it did. -/
def digestMakesUptoRow : OpenClaim := { program := "ytbhehllkimedaaadoor", sum := "45c5c0771403e080433c724e58c672aff8051d2a0bc7c0fd3c8ed8b98bddc109", func := "pontoon/pontoonlaw04.DigestMakes", spec := "digestMakes", inPlace := ["internal/abi.NoEscape", "internal/bytealg.MakeNoZero"], named := ["pontoon/sha.first", "pontoon/sha.constants"], plainKeys := false, apart := false, laid := [("pontoon/sha.first", laid_pontoon_sha_first), ("pontoon/sha.constants", laid_pontoon_sha_constants)], narrowed := true }
def DigestMakesUptoSaid : Prop := digestMakesUptoRow.holds Tryd.pinned (OpenSpec.upto digestMakesSpec)

/-- 'pontoonlaw04.DigestJoins', WHERE WHAT IT READS IS OF BULK AT MOST 1048576: true; the input reads as it did. -/
def digestJoinsUptoRow : OpenClaim := { program := "ytbhehllkimedaaadoor", sum := "45c5c0771403e080433c724e58c672aff8051d2a0bc7c0fd3c8ed8b98bddc109", func := "pontoon/pontoonlaw04.DigestJoins", spec := "digestJoins", inPlace := ["internal/abi.NoEscape", "internal/bytealg.MakeNoZero"], named := ["pontoon/sha.first", "pontoon/sha.constants"], plainKeys := false, apart := false, laid := [("pontoon/sha.first", laid_pontoon_sha_first), ("pontoon/sha.constants", laid_pontoon_sha_constants)], narrowed := true }
def DigestJoinsUptoSaid : Prop := digestJoinsUptoRow.holds Tryd.pinned (OpenSpec.upto digestJoinsSpec)

/-- 'pontoonlaw05.LamportOpens', WHERE WHAT IT READS IS OF BULK AT MOST 1048576: true; the input reads as it did. -/
def lamportOpensUptoRow : OpenClaim := { program := "ytbhehllkimedaaadoor", sum := "45c5c0771403e080433c724e58c672aff8051d2a0bc7c0fd3c8ed8b98bddc109", func := "pontoon/pontoonlaw05.LamportOpens", spec := "lamportOpens", inPlace := ["internal/abi.NoEscape", "internal/bytealg.MakeNoZero"], named := ["pontoon/sha.first", "pontoon/sha.constants"], plainKeys := false, apart := false, laid := [("pontoon/sha.first", laid_pontoon_sha_first), ("pontoon/sha.constants", laid_pontoon_sha_constants)], narrowed := true }
def LamportOpensUptoSaid : Prop := lamportOpensUptoRow.holds Tryd.pinned (OpenSpec.upto lamportOpensSpec)

/-- 'pontoonlaw05.LamportBinds', WHERE WHAT IT READS IS OF BULK AT MOST 1048576: true; the input reads as it did. -/
def lamportBindsUptoRow : OpenClaim := { program := "ytbhehllkimedaaadoor", sum := "45c5c0771403e080433c724e58c672aff8051d2a0bc7c0fd3c8ed8b98bddc109", func := "pontoon/pontoonlaw05.LamportBinds", spec := "lamportBinds", inPlace := ["internal/abi.NoEscape", "internal/bytealg.MakeNoZero"], named := ["pontoon/sha.first", "pontoon/sha.constants"], plainKeys := false, apart := false, laid := [("pontoon/sha.first", laid_pontoon_sha_first), ("pontoon/sha.constants", laid_pontoon_sha_constants)], narrowed := true }
def LamportBindsUptoSaid : Prop := lamportBindsUptoRow.holds Tryd.pinned (OpenSpec.upto lamportBindsSpec)

/-- 'pontoonlaw05.LamportTurns', WHERE WHAT IT READS IS OF BULK AT MOST 1048576: true; the input reads as it did. -/
def lamportTurnsUptoRow : OpenClaim := { program := "ytbhehllkimedaaadoor", sum := "45c5c0771403e080433c724e58c672aff8051d2a0bc7c0fd3c8ed8b98bddc109", func := "pontoon/pontoonlaw05.LamportTurns", spec := "lamportTurns", inPlace := ["internal/abi.NoEscape", "internal/bytealg.MakeNoZero"], named := ["pontoon/sha.first", "pontoon/sha.constants"], plainKeys := false, apart := false, laid := [("pontoon/sha.first", laid_pontoon_sha_first), ("pontoon/sha.constants", laid_pontoon_sha_constants)], narrowed := true }
def LamportTurnsUptoSaid : Prop := lamportTurnsUptoRow.holds Tryd.pinned (OpenSpec.upto lamportTurnsSpec)

/-- 'pontoonlaw05.LamportKeys', WHERE WHAT IT READS IS OF BULK AT MOST 1048576: true; the input reads as it did. -/
def lamportKeysUptoRow : OpenClaim := { program := "ytbhehllkimedaaadoor", sum := "45c5c0771403e080433c724e58c672aff8051d2a0bc7c0fd3c8ed8b98bddc109", func := "pontoon/pontoonlaw05.LamportKeys", spec := "lamportKeys", inPlace := ["internal/abi.NoEscape", "internal/bytealg.MakeNoZero"], named := ["pontoon/sha.first", "pontoon/sha.constants"], plainKeys := false, apart := false, laid := [("pontoon/sha.first", laid_pontoon_sha_first), ("pontoon/sha.constants", laid_pontoon_sha_constants)], narrowed := true }
def LamportKeysUptoSaid : Prop := lamportKeysUptoRow.holds Tryd.pinned (OpenSpec.upto lamportKeysSpec)

/-- 'pontoonlaw05.LamportSigns', WHERE WHAT IT READS IS OF BULK AT MOST 1048576: true; the input reads as it did. -/
def lamportSignsUptoRow : OpenClaim := { program := "ytbhehllkimedaaadoor", sum := "45c5c0771403e080433c724e58c672aff8051d2a0bc7c0fd3c8ed8b98bddc109", func := "pontoon/pontoonlaw05.LamportSigns", spec := "lamportSigns", inPlace := ["internal/abi.NoEscape", "internal/bytealg.MakeNoZero"], named := ["pontoon/sha.first", "pontoon/sha.constants"], plainKeys := false, apart := false, laid := [("pontoon/sha.first", laid_pontoon_sha_first), ("pontoon/sha.constants", laid_pontoon_sha_constants)], narrowed := true }
def LamportSignsUptoSaid : Prop := lamportSignsUptoRow.holds Tryd.pinned (OpenSpec.upto lamportSignsSpec)

end Rows
end Go.Proofs.YtbhehllkimedaaaDoor
