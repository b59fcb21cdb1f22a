/-
  NARROWER THAN 'FOR EVERY INPUT', by the rows' own cells (each row's printed sentence says how): KeysVerifies: laid · KeysBinds: laid · KeysMakes: laid · UpdateBinds: laid · UpdateDigests: laid · KeysBooks: laid · UpdateRights: laid · UpdateSigns: laid.
  DERIVED. THE GIVEN ROWS OF THIS SEAT. 8 by the template 'for every input the law returns true; each argument reads behind the call as it read before'; 0 by the template 'total and deterministic' (their statements: YtamnmljgcmbliaaDoorTotals.lean).
  GIVEN WITH THE SEED: the statements are not yours to turn. If you find one false, say at which input.
  Laid BY PROGRAM, IN A SANDBOX (cutbox-rows.mjs): the forced cells as the released guide's own fill.sh prints them over the translation 9bf25cf36970f2f2… (all of the seat's roots in one cut). By AI agents, Wed Nov 11 2026. No macro, syntax, notation, axiom, sorry.
-/
import Derived.Test.YtamnmljgcmbliaaDoorChecked
import GoSem.Claim
import GoSem.ClaimJoined
import GoSem.ClaimMapViews
import Derived.JoinedTies
import Derived.KernelRfl
namespace Go.Proofs.YtamnmljgcmbliaaDoor
/- THE CELL 'sum', in the pinned program and in every row, IS THE sha256 OF THE DUMP (.gsa) THAT YtamnmljgcmbliaaDoorProg.lean LOADS. Nothing in Lean hashes anything: it is a label: what it is worth is what the hold of that sum in a sandbox is worth. -/
noncomputable def Tryd.pinned : Pinned := { name := "ytamnmljgcmbliaadoor", sum := "9bf25cf36970f2f23c65bf52e4f0275930690780f3c228b2d2fef7498eb56ac2", checked := Tryd.checked }
namespace Rows
def none {H : Type} : Left H := { results := [], args := [] }

/- WHAT THE LISTED PACKAGE-LEVEL VARIABLES READ AS WHEN THE CALL BEGINS. Each datum BY PROGRAM (the guide's laid-datum.mjs) off the statement by which the dump's own 'gosem.cut.vars' lays the variable. In a bare row this is a premise. The card (YtamnmljgcmbliaaDoorCards.lean) ties it to the program's text. -/
def laid_pontoon_sha_first {H : Type} : DataW H := .agg [.lit (.int .u32 1779033703), .lit (.int .u32 3144134277), .lit (.int .u32 1013904242), .lit (.int .u32 2773480762), .lit (.int .u32 1359893119), .lit (.int .u32 2600822924), .lit (.int .u32 528734635), .lit (.int .u32 1541459225)]
def laid_pontoon_sha_constants {H : Type} : DataW H := .agg [.lit (.int .u32 1116352408), .lit (.int .u32 1899447441), .lit (.int .u32 3049323471), .lit (.int .u32 3921009573), .lit (.int .u32 961987163), .lit (.int .u32 1508970993), .lit (.int .u32 2453635748), .lit (.int .u32 2870763221), .lit (.int .u32 3624381080), .lit (.int .u32 310598401), .lit (.int .u32 607225278), .lit (.int .u32 1426881987), .lit (.int .u32 1925078388), .lit (.int .u32 2162078206), .lit (.int .u32 2614888103), .lit (.int .u32 3248222580), .lit (.int .u32 3835390401), .lit (.int .u32 4022224774), .lit (.int .u32 264347078), .lit (.int .u32 604807628), .lit (.int .u32 770255983), .lit (.int .u32 1249150122), .lit (.int .u32 1555081692), .lit (.int .u32 1996064986), .lit (.int .u32 2554220882), .lit (.int .u32 2821834349), .lit (.int .u32 2952996808), .lit (.int .u32 3210313671), .lit (.int .u32 3336571891), .lit (.int .u32 3584528711), .lit (.int .u32 113926993), .lit (.int .u32 338241895), .lit (.int .u32 666307205), .lit (.int .u32 773529912), .lit (.int .u32 1294757372), .lit (.int .u32 1396182291), .lit (.int .u32 1695183700), .lit (.int .u32 1986661051), .lit (.int .u32 2177026350), .lit (.int .u32 2456956037), .lit (.int .u32 2730485921), .lit (.int .u32 2820302411), .lit (.int .u32 3259730800), .lit (.int .u32 3345764771), .lit (.int .u32 3516065817), .lit (.int .u32 3600352804), .lit (.int .u32 4094571909), .lit (.int .u32 275423344), .lit (.int .u32 430227734), .lit (.int .u32 506948616), .lit (.int .u32 659060556), .lit (.int .u32 883997877), .lit (.int .u32 958139571), .lit (.int .u32 1322822218), .lit (.int .u32 1537002063), .lit (.int .u32 1747873779), .lit (.int .u32 1955562222), .lit (.int .u32 2024104815), .lit (.int .u32 2227730452), .lit (.int .u32 2361852424), .lit (.int .u32 2428436474), .lit (.int .u32 2756734187), .lit (.int .u32 3204031479), .lit (.int .u32 3329325298)]

/-- 'pontoonlaw06.KeysVerifies': WHATEVER THE INPUT: true; the input reads as it did. -/
def keysVerifiesSpec : ChangeSpec := { name := "keysVerifies", fn := fun _ => fun
  | [d1, d2] => { results := [.lit (.bool true)], args := [d1, d2] }
  | _ => none }
def keysVerifiesRow : OpenClaim := { program := "ytamnmljgcmbliaadoor", sum := "9bf25cf36970f2f23c65bf52e4f0275930690780f3c228b2d2fef7498eb56ac2", func := "pontoon/pontoonlaw06.KeysVerifies", spec := "keysVerifies", inPlace := ["internal/abi.NoEscape", "internal/bytealg.MakeNoZero"], named := ["pontoon/sha.first", "pontoon/sha.constants"], plainKeys := false, apart := false, laid := [("pontoon/sha.first", laid_pontoon_sha_first), ("pontoon/sha.constants", laid_pontoon_sha_constants)] }
def KeysVerifiesSaid : Prop := keysVerifiesRow.holds Tryd.pinned (OpenSpec.ofChange keysVerifiesSpec)

/-- ITS FALSE NEIGHBOUR: 'it returns false'. Refute it at one input. -/
def keysVerifiesWrong : ChangeSpec := { name := "keysVerifies", fn := fun _ => fun
  | [d1, d2] => { results := [.lit (.bool false)], args := [d1, d2] }
  | _ => none }
def KeysVerifiesWrongFalsely : Prop := keysVerifiesRow.holds Tryd.pinned (OpenSpec.ofChange keysVerifiesWrong)

/-- 'pontoonlaw06.KeysBinds': WHATEVER THE INPUT: true; the input reads as it did. -/
def keysBindsSpec : ChangeSpec := { name := "keysBinds", fn := fun _ => fun
  | [d1, d2, d3] => { results := [.lit (.bool true)], args := [d1, d2, d3] }
  | _ => none }
def keysBindsRow : OpenClaim := { program := "ytamnmljgcmbliaadoor", sum := "9bf25cf36970f2f23c65bf52e4f0275930690780f3c228b2d2fef7498eb56ac2", func := "pontoon/pontoonlaw06.KeysBinds", spec := "keysBinds", inPlace := ["internal/abi.NoEscape", "internal/bytealg.MakeNoZero"], recurses := true, named := ["pontoon/sha.first", "pontoon/sha.constants"], plainKeys := false, apart := false, laid := [("pontoon/sha.first", laid_pontoon_sha_first), ("pontoon/sha.constants", laid_pontoon_sha_constants)] }
def KeysBindsSaid : Prop := keysBindsRow.holds Tryd.pinned (OpenSpec.ofChange keysBindsSpec)

/-- ITS FALSE NEIGHBOUR: 'it returns false'. Refute it at one input. -/
def keysBindsWrong : ChangeSpec := { name := "keysBinds", fn := fun _ => fun
  | [d1, d2, d3] => { results := [.lit (.bool false)], args := [d1, d2, d3] }
  | _ => none }
def KeysBindsWrongFalsely : Prop := keysBindsRow.holds Tryd.pinned (OpenSpec.ofChange keysBindsWrong)

/-- 'pontoonlaw06.KeysMakes': WHATEVER THE INPUT: true; the input reads as it did. -/
def keysMakesSpec : ChangeSpec := { name := "keysMakes", fn := fun _ => fun
  | [d] => { results := [.lit (.bool true)], args := [d] }
  | _ => none }
def keysMakesRow : OpenClaim := { program := "ytamnmljgcmbliaadoor", sum := "9bf25cf36970f2f23c65bf52e4f0275930690780f3c228b2d2fef7498eb56ac2", func := "pontoon/pontoonlaw06.KeysMakes", spec := "keysMakes", inPlace := ["internal/abi.NoEscape", "internal/bytealg.MakeNoZero"], recurses := true, named := ["pontoon/sha.first", "pontoon/sha.constants"], plainKeys := false, apart := false, laid := [("pontoon/sha.first", laid_pontoon_sha_first), ("pontoon/sha.constants", laid_pontoon_sha_constants)] }
def KeysMakesSaid : Prop := keysMakesRow.holds Tryd.pinned (OpenSpec.ofChange keysMakesSpec)

/-- ITS FALSE NEIGHBOUR: 'it returns false'. Refute it at one input. -/
def keysMakesWrong : ChangeSpec := { name := "keysMakes", fn := fun _ => fun
  | [d] => { results := [.lit (.bool false)], args := [d] }
  | _ => none }
def KeysMakesWrongFalsely : Prop := keysMakesRow.holds Tryd.pinned (OpenSpec.ofChange keysMakesWrong)

/-- 'pontoonlaw10.UpdateBinds': WHATEVER THE INPUT: true; the input reads as it did. -/
def updateBindsSpec : ChangeSpec := { name := "updateBinds", fn := fun _ => fun
  | [d1, d2, d3, d4, d5, d6, d7] => { results := [.lit (.bool true)], args := [d1, d2, d3, d4, d5, d6, d7] }
  | _ => none }
def updateBindsRow : OpenClaim := { program := "ytamnmljgcmbliaadoor", sum := "9bf25cf36970f2f23c65bf52e4f0275930690780f3c228b2d2fef7498eb56ac2", func := "pontoon/pontoonlaw10.UpdateBinds", spec := "updateBinds", inPlace := ["internal/abi.NoEscape", "internal/bytealg.MakeNoZero"], recurses := true, named := ["pontoon/sha.first", "pontoon/sha.constants"], plainKeys := false, apart := false, laid := [("pontoon/sha.first", laid_pontoon_sha_first), ("pontoon/sha.constants", laid_pontoon_sha_constants)] }
def UpdateBindsSaid : Prop := updateBindsRow.holds Tryd.pinned (OpenSpec.ofChange updateBindsSpec)

/-- ITS FALSE NEIGHBOUR: 'it returns false'. Refute it at one input. -/
def updateBindsWrong : ChangeSpec := { name := "updateBinds", fn := fun _ => fun
  | [d1, d2, d3, d4, d5, d6, d7] => { results := [.lit (.bool false)], args := [d1, d2, d3, d4, d5, d6, d7] }
  | _ => none }
def UpdateBindsWrongFalsely : Prop := updateBindsRow.holds Tryd.pinned (OpenSpec.ofChange updateBindsWrong)

/-- 'pontoonlaw10.UpdateDigests': WHATEVER THE INPUT: true; the input reads as it did. -/
def updateDigestsSpec : ChangeSpec := { name := "updateDigests", fn := fun _ => fun
  | [d1, d2, d3, d4] => { results := [.lit (.bool true)], args := [d1, d2, d3, d4] }
  | _ => none }
def updateDigestsRow : OpenClaim := { program := "ytamnmljgcmbliaadoor", sum := "9bf25cf36970f2f23c65bf52e4f0275930690780f3c228b2d2fef7498eb56ac2", func := "pontoon/pontoonlaw10.UpdateDigests", spec := "updateDigests", inPlace := ["internal/abi.NoEscape", "internal/bytealg.MakeNoZero"], named := ["pontoon/sha.first", "pontoon/sha.constants"], plainKeys := false, apart := false, laid := [("pontoon/sha.first", laid_pontoon_sha_first), ("pontoon/sha.constants", laid_pontoon_sha_constants)] }
def UpdateDigestsSaid : Prop := updateDigestsRow.holds Tryd.pinned (OpenSpec.ofChange updateDigestsSpec)

/-- ITS FALSE NEIGHBOUR: 'it returns false'. Refute it at one input. -/
def updateDigestsWrong : ChangeSpec := { name := "updateDigests", fn := fun _ => fun
  | [d1, d2, d3, d4] => { results := [.lit (.bool false)], args := [d1, d2, d3, d4] }
  | _ => none }
def UpdateDigestsWrongFalsely : Prop := updateDigestsRow.holds Tryd.pinned (OpenSpec.ofChange updateDigestsWrong)

/-- 'pontoonlaw06.KeysBooks': WHATEVER THE INPUT: true; the input reads as it did. -/
def keysBooksSpec : ChangeSpec := { name := "keysBooks", fn := fun _ => fun
  | [d1, d2, d3] => { results := [.lit (.bool true)], args := [d1, d2, d3] }
  | _ => none }
def keysBooksRow : OpenClaim := { program := "ytamnmljgcmbliaadoor", sum := "9bf25cf36970f2f23c65bf52e4f0275930690780f3c228b2d2fef7498eb56ac2", func := "pontoon/pontoonlaw06.KeysBooks", spec := "keysBooks", inPlace := ["internal/abi.NoEscape", "internal/bytealg.MakeNoZero"], named := ["pontoon/sha.first", "pontoon/sha.constants"], plainKeys := false, apart := false, laid := [("pontoon/sha.first", laid_pontoon_sha_first), ("pontoon/sha.constants", laid_pontoon_sha_constants)] }
def KeysBooksSaid : Prop := keysBooksRow.holds Tryd.pinned (OpenSpec.ofChange keysBooksSpec)

/-- ITS FALSE NEIGHBOUR: 'it returns false'. Refute it at one input. -/
def keysBooksWrong : ChangeSpec := { name := "keysBooks", fn := fun _ => fun
  | [d1, d2, d3] => { results := [.lit (.bool false)], args := [d1, d2, d3] }
  | _ => none }
def KeysBooksWrongFalsely : Prop := keysBooksRow.holds Tryd.pinned (OpenSpec.ofChange keysBooksWrong)

/-- 'pontoonlaw10.UpdateRights': WHATEVER THE INPUT: true; the input reads as it did. -/
def updateRightsSpec : ChangeSpec := { name := "updateRights", fn := fun _ => fun
  | [d1, d2, d3, d4] => { results := [.lit (.bool true)], args := [d1, d2, d3, d4] }
  | _ => none }
def updateRightsRow : OpenClaim := { program := "ytamnmljgcmbliaadoor", sum := "9bf25cf36970f2f23c65bf52e4f0275930690780f3c228b2d2fef7498eb56ac2", func := "pontoon/pontoonlaw10.UpdateRights", spec := "updateRights", inPlace := ["internal/abi.NoEscape", "internal/bytealg.MakeNoZero"], named := ["pontoon/sha.first", "pontoon/sha.constants"], plainKeys := false, apart := false, laid := [("pontoon/sha.first", laid_pontoon_sha_first), ("pontoon/sha.constants", laid_pontoon_sha_constants)] }
def UpdateRightsSaid : Prop := updateRightsRow.holds Tryd.pinned (OpenSpec.ofChange updateRightsSpec)

/-- ITS FALSE NEIGHBOUR: 'it returns false'. Refute it at one input. -/
def updateRightsWrong : ChangeSpec := { name := "updateRights", fn := fun _ => fun
  | [d1, d2, d3, d4] => { results := [.lit (.bool false)], args := [d1, d2, d3, d4] }
  | _ => none }
def UpdateRightsWrongFalsely : Prop := updateRightsRow.holds Tryd.pinned (OpenSpec.ofChange updateRightsWrong)

/-- 'pontoonlaw10.UpdateSigns': WHATEVER THE INPUT: true; the input reads as it did. -/
def updateSignsSpec : ChangeSpec := { name := "updateSigns", fn := fun _ => fun
  | [d1, d2, d3, d4, d5] => { results := [.lit (.bool true)], args := [d1, d2, d3, d4, d5] }
  | _ => none }
def updateSignsRow : OpenClaim := { program := "ytamnmljgcmbliaadoor", sum := "9bf25cf36970f2f23c65bf52e4f0275930690780f3c228b2d2fef7498eb56ac2", func := "pontoon/pontoonlaw10.UpdateSigns", spec := "updateSigns", inPlace := ["internal/abi.NoEscape", "internal/bytealg.MakeNoZero"], recurses := true, named := ["pontoon/sha.first", "pontoon/sha.constants"], plainKeys := false, apart := false, laid := [("pontoon/sha.first", laid_pontoon_sha_first), ("pontoon/sha.constants", laid_pontoon_sha_constants)] }
def UpdateSignsSaid : Prop := updateSignsRow.holds Tryd.pinned (OpenSpec.ofChange updateSignsSpec)

/-- ITS FALSE NEIGHBOUR: 'it returns false'. Refute it at one input. -/
def updateSignsWrong : ChangeSpec := { name := "updateSigns", fn := fun _ => fun
  | [d1, d2, d3, d4, d5] => { results := [.lit (.bool false)], args := [d1, d2, d3, d4, d5] }
  | _ => none }
def UpdateSignsWrongFalsely : Prop := updateSignsRow.holds Tryd.pinned (OpenSpec.ofChange updateSignsWrong)

/- THE SECOND FORM. 'bulk': how many values and letters a reading holds, each counted each time it is reached (what is shared counts as often as it is met; a slice's spare places count too). A statement '..UptoSaid' is the law's where the arguments, and the package variables that the reading takes, are together of bulk at most 1048576: NARROWER than '..Said'. Prove '..Said' where nothing that the law and all that it calls make is longer than what came in: it says more and counts as full. Else prove '..UptoSaid'. A law counts once. -/
mutual
def uptoBulk {H : Type} : DataW H → Nat
  | .lit (.string bytes) => bytes.length + 1
  | .lit _ => 1
  | .nil => 1
  | .ptr d => uptoBulk d + 1
  | .slice elems spare => uptoBulkAll elems + uptoBulkAll spare + 1
  | .agg parts => uptoBulkAll parts + 1
  | .iface _ d => uptoBulk d + 1
  | .map entries => uptoBulkEntries entries + 1
  | .held _ => 1
def uptoBulkAll {H : Type} : List (DataW H) → Nat
  | [] => 0
  | d :: r => uptoBulk d + uptoBulkAll r
def uptoBulkEntries {H : Type} : List (Lit × DataW H) → Nat
  | [] => 0
  | x :: r => uptoBulkEntry x + uptoBulkEntries r
def uptoBulkEntry {H : Type} : Lit × DataW H → Nat
  | (.string bytes, d) => bytes.length + uptoBulk d + 1
  | (_, d) => uptoBulk d + 1
 end
def uptoSmall : (H : Type) → List (DataW H) → Bool := fun _ ds => decide (uptoBulkAll ds ≤ 1048576)
def OpenSpec.upto (s : _root_.Go.ChangeSpec) : _root_.Go.OpenSpec := { _root_.Go.OpenSpec.ofChange s with cond := some uptoSmall }

/-- 'pontoonlaw06.KeysVerifies', WHERE WHAT IT READS IS OF BULK AT MOST 1048576: true; the input reads as it did. -/
def keysVerifiesUptoRow : OpenClaim := { program := "ytamnmljgcmbliaadoor", sum := "9bf25cf36970f2f23c65bf52e4f0275930690780f3c228b2d2fef7498eb56ac2", func := "pontoon/pontoonlaw06.KeysVerifies", spec := "keysVerifies", inPlace := ["internal/abi.NoEscape", "internal/bytealg.MakeNoZero"], named := ["pontoon/sha.first", "pontoon/sha.constants"], plainKeys := false, apart := false, laid := [("pontoon/sha.first", laid_pontoon_sha_first), ("pontoon/sha.constants", laid_pontoon_sha_constants)], narrowed := true }
def KeysVerifiesUptoSaid : Prop := keysVerifiesUptoRow.holds Tryd.pinned (OpenSpec.upto keysVerifiesSpec)

/-- 'pontoonlaw06.KeysBinds', WHERE WHAT IT READS IS OF BULK AT MOST 1048576: true; the input reads as it did. -/
def keysBindsUptoRow : OpenClaim := { program := "ytamnmljgcmbliaadoor", sum := "9bf25cf36970f2f23c65bf52e4f0275930690780f3c228b2d2fef7498eb56ac2", func := "pontoon/pontoonlaw06.KeysBinds", spec := "keysBinds", inPlace := ["internal/abi.NoEscape", "internal/bytealg.MakeNoZero"], recurses := true, named := ["pontoon/sha.first", "pontoon/sha.constants"], plainKeys := false, apart := false, laid := [("pontoon/sha.first", laid_pontoon_sha_first), ("pontoon/sha.constants", laid_pontoon_sha_constants)], narrowed := true }
def KeysBindsUptoSaid : Prop := keysBindsUptoRow.holds Tryd.pinned (OpenSpec.upto keysBindsSpec)

/-- 'pontoonlaw06.KeysMakes', WHERE WHAT IT READS IS OF BULK AT MOST 1048576: true; the input reads as it did. -/
def keysMakesUptoRow : OpenClaim := { program := "ytamnmljgcmbliaadoor", sum := "9bf25cf36970f2f23c65bf52e4f0275930690780f3c228b2d2fef7498eb56ac2", func := "pontoon/pontoonlaw06.KeysMakes", spec := "keysMakes", inPlace := ["internal/abi.NoEscape", "internal/bytealg.MakeNoZero"], recurses := true, named := ["pontoon/sha.first", "pontoon/sha.constants"], plainKeys := false, apart := false, laid := [("pontoon/sha.first", laid_pontoon_sha_first), ("pontoon/sha.constants", laid_pontoon_sha_constants)], narrowed := true }
def KeysMakesUptoSaid : Prop := keysMakesUptoRow.holds Tryd.pinned (OpenSpec.upto keysMakesSpec)

/-- 'pontoonlaw10.UpdateBinds', WHERE WHAT IT READS IS OF BULK AT MOST 1048576: true; the input reads as it did. -/
def updateBindsUptoRow : OpenClaim := { program := "ytamnmljgcmbliaadoor", sum := "9bf25cf36970f2f23c65bf52e4f0275930690780f3c228b2d2fef7498eb56ac2", func := "pontoon/pontoonlaw10.UpdateBinds", spec := "updateBinds", inPlace := ["internal/abi.NoEscape", "internal/bytealg.MakeNoZero"], recurses := true, named := ["pontoon/sha.first", "pontoon/sha.constants"], plainKeys := false, apart := false, laid := [("pontoon/sha.first", laid_pontoon_sha_first), ("pontoon/sha.constants", laid_pontoon_sha_constants)], narrowed := true }
def UpdateBindsUptoSaid : Prop := updateBindsUptoRow.holds Tryd.pinned (OpenSpec.upto updateBindsSpec)

/-- 'pontoonlaw10.UpdateDigests', WHERE WHAT IT READS IS OF BULK AT MOST 1048576: true; the input reads as it did. -/
def updateDigestsUptoRow : OpenClaim := { program := "ytamnmljgcmbliaadoor", sum := "9bf25cf36970f2f23c65bf52e4f0275930690780f3c228b2d2fef7498eb56ac2", func := "pontoon/pontoonlaw10.UpdateDigests", spec := "updateDigests", inPlace := ["internal/abi.NoEscape", "internal/bytealg.MakeNoZero"], named := ["pontoon/sha.first", "pontoon/sha.constants"], plainKeys := false, apart := false, laid := [("pontoon/sha.first", laid_pontoon_sha_first), ("pontoon/sha.constants", laid_pontoon_sha_constants)], narrowed := true }
def UpdateDigestsUptoSaid : Prop := updateDigestsUptoRow.holds Tryd.pinned (OpenSpec.upto updateDigestsSpec)

/-- 'pontoonlaw06.KeysBooks', WHERE WHAT IT READS IS OF BULK AT MOST 1048576: true; the input reads as it did. -/
def keysBooksUptoRow : OpenClaim := { program := "ytamnmljgcmbliaadoor", sum := "9bf25cf36970f2f23c65bf52e4f0275930690780f3c228b2d2fef7498eb56ac2", func := "pontoon/pontoonlaw06.KeysBooks", spec := "keysBooks", inPlace := ["internal/abi.NoEscape", "internal/bytealg.MakeNoZero"], named := ["pontoon/sha.first", "pontoon/sha.constants"], plainKeys := false, apart := false, laid := [("pontoon/sha.first", laid_pontoon_sha_first), ("pontoon/sha.constants", laid_pontoon_sha_constants)], narrowed := true }
def KeysBooksUptoSaid : Prop := keysBooksUptoRow.holds Tryd.pinned (OpenSpec.upto keysBooksSpec)

/-- 'pontoonlaw10.UpdateRights', WHERE WHAT IT READS IS OF BULK AT MOST 1048576: true; the input reads as it did. -/
def updateRightsUptoRow : OpenClaim := { program := "ytamnmljgcmbliaadoor", sum := "9bf25cf36970f2f23c65bf52e4f0275930690780f3c228b2d2fef7498eb56ac2", func := "pontoon/pontoonlaw10.UpdateRights", spec := "updateRights", inPlace := ["internal/abi.NoEscape", "internal/bytealg.MakeNoZero"], named := ["pontoon/sha.first", "pontoon/sha.constants"], plainKeys := false, apart := false, laid := [("pontoon/sha.first", laid_pontoon_sha_first), ("pontoon/sha.constants", laid_pontoon_sha_constants)], narrowed := true }
def UpdateRightsUptoSaid : Prop := updateRightsUptoRow.holds Tryd.pinned (OpenSpec.upto updateRightsSpec)

/-- 'pontoonlaw10.UpdateSigns', WHERE WHAT IT READS IS OF BULK AT MOST 1048576: true; the input reads as it did. -/
def updateSignsUptoRow : OpenClaim := { program := "ytamnmljgcmbliaadoor", sum := "9bf25cf36970f2f23c65bf52e4f0275930690780f3c228b2d2fef7498eb56ac2", func := "pontoon/pontoonlaw10.UpdateSigns", spec := "updateSigns", inPlace := ["internal/abi.NoEscape", "internal/bytealg.MakeNoZero"], recurses := true, named := ["pontoon/sha.first", "pontoon/sha.constants"], plainKeys := false, apart := false, laid := [("pontoon/sha.first", laid_pontoon_sha_first), ("pontoon/sha.constants", laid_pontoon_sha_constants)], narrowed := true }
def UpdateSignsUptoSaid : Prop := updateSignsUptoRow.holds Tryd.pinned (OpenSpec.upto updateSignsSpec)

end Rows
end Go.Proofs.YtamnmljgcmbliaaDoor
