/- The functions' Lean twins and contracts, printed by this session's own program. -/
import Derived.Test.YtklikgigjdgjaaaGreatDoorRRRA21
import Derived.Test.YtklikgigjdgjaaaGreatDoorRRRA23
import Derived.Test.YtklikgigjdgjaaaGreatDoorRRRA37
import Derived.Test.YtklikgigjdgjaaaGreatDoorRRRK1
import Derived.Test.YtklikgigjdgjaaaGreatDoorRRRProg
import Derived.Shelf.Strings.Builder1
import Derived.Lib.Repeat
namespace Go.Proofs.YtklikgigjdgjaaaGreatDoorRRR
open Go Go.RowKit Go.Proofs
set_option maxRecDepth 100000
set_option linter.unusedVariables false
theorem lensC (c : Ck) (L : List Ck) : lens (c :: L) = c.n + lens L := rfl
theorem lensN : lens [] = 0 := rfl
theorem lz {Φ : Pub} {c : Ck} {L : List Ck} {xs ys : List Value} (h1 : c.rel Φ xs) (h2 : Lrel Φ ys L) : Lrel Φ (List.append xs ys) (c :: L) := ⟨xs, ys, rfl, h1, h2⟩
theorem mixed : Tryz.prog.follows .mixedOrders = true := by kernel_rfl
structure S_relayer_Relayer where
  f_Home : Int
  f_Disk : List UInt8
instance : Inhabited S_relayer_Relayer := ⟨(S_relayer_Relayer.mk (0 : Int) [])⟩
def S_relayer_Relayer.ck (x : S_relayer_Relayer) : List Ck := [one (intVP .u32 x.f_Home), one (strVP x.f_Disk)]
theorem S_relayer_Relayer.lens (x : S_relayer_Relayer) : lens (S_relayer_Relayer.ck x) = 2 := rfl
structure S_sha_State where
  f_Words : List Int
  f_Rest : List UInt8
  f_Count : Int
instance : Inhabited S_sha_State := ⟨(S_sha_State.mk (List.replicate 8 0) [] (0 : Int))⟩
def S_sha_State.ck (x : S_sha_State) : List Ck := [intsCk .u32 8 x.f_Words, one (strVP x.f_Rest), one (intVP .u64 x.f_Count)]
theorem S_sha_State.lens (x : S_sha_State) : lens (S_sha_State.ck x) = 10 := rfl
structure S_notes_Note where
  f_Kind : Int
  f_Home : Int
  f_Next : Int
  f_Old : List UInt8
  f_New : List UInt8
  f_Sent : Int
instance : Inhabited S_notes_Note := ⟨(S_notes_Note.mk (0 : Int) (0 : Int) (0 : Int) (List.replicate 32 0) (List.replicate 32 0) (0 : Int))⟩
def S_notes_Note.ck (x : S_notes_Note) : List Ck := [one (intVP .u8 x.f_Kind), one (intVP .u32 x.f_Home), one (intVP .u64 x.f_Next), bytesCk 32 x.f_Old, bytesCk 32 x.f_New, one (intVP .u64 x.f_Sent)]
theorem S_notes_Note.lens (x : S_notes_Note) : lens (S_notes_Note.ck x) = 68 := rfl
structure S_wire_Reader where
  f_s : List UInt8
  f_e : Int
instance : Inhabited S_wire_Reader := ⟨(S_wire_Reader.mk [] (0 : Int))⟩
def S_wire_Reader.ck (x : S_wire_Reader) : List Ck := [one (strVP x.f_s), one (intVP .i64 x.f_e)]
theorem S_wire_Reader.lens (x : S_wire_Reader) : lens (S_wire_Reader.ck x) = 2 := rfl
structure S_api_Sig where
  f_Index : Int
  f_Parts : List (List UInt8)
  f_Others : List (List UInt8)
  f_Path : List (List UInt8)
instance : Inhabited S_api_Sig := ⟨(S_api_Sig.mk (0 : Int) [] [] [])⟩
def S_api_Sig.ck (x : S_api_Sig) : List Ck := [one (intVP .i64 x.f_Index), one (slVP (dC 32) x.f_Parts), one (slVP (dC 32) x.f_Others), one (slVP (dC 32) x.f_Path)]
theorem S_api_Sig.lens (x : S_api_Sig) : lens (S_api_Sig.ck x) = 4 := rfl
structure S_api_Update where
  f_Home : Int
  f_Old : List UInt8
  f_New : List UInt8
  f_Sig : S_api_Sig
instance : Inhabited S_api_Update := ⟨(S_api_Update.mk (0 : Int) (List.replicate 32 0) (List.replicate 32 0) (S_api_Sig.mk (0 : Int) [] [] []))⟩
def S_api_Update.ck (x : S_api_Update) : List Ck := [one (intVP .u32 x.f_Home), bytesCk 32 x.f_Old, bytesCk 32 x.f_New, one (intVP .i64 x.f_Sig.f_Index), one (slVP (dC 32) x.f_Sig.f_Parts), one (slVP (dC 32) x.f_Sig.f_Others), one (slVP (dC 32) x.f_Sig.f_Path)]
theorem S_api_Update.lens (x : S_api_Update) : lens (S_api_Update.ck x) = 69 := rfl
structure S_api_Timed where
  f_Root : List UInt8
  f_At : Int
instance : Inhabited S_api_Timed := ⟨(S_api_Timed.mk (List.replicate 32 0) (0 : Int))⟩
def S_api_Timed.ck (x : S_api_Timed) : List Ck := [bytesCk 32 x.f_Root, one (intVP .u64 x.f_At)]
theorem S_api_Timed.lens (x : S_api_Timed) : lens (S_api_Timed.ck x) = 33 := rfl
structure S_api_State where
  f_Leaf : List UInt8
  f_Status : Int
  f_Root : List UInt8
instance : Inhabited S_api_State := ⟨(S_api_State.mk (List.replicate 32 0) (0 : Int) (List.replicate 32 0))⟩
def S_api_State.ck (x : S_api_State) : List Ck := [bytesCk 32 x.f_Leaf, one (intVP .i64 x.f_Status), bytesCk 32 x.f_Root]
theorem S_api_State.lens (x : S_api_State) : lens (S_api_State.ck x) = 65 := rfl
structure S_api_Replica where
  f_Chain : Int
  f_Here : Int
  f_Updater : List UInt8
  f_Watchers : List (List UInt8)
  f_Window : Int
  f_Committed : List UInt8
  f_Roots : List (S_api_Timed)
  f_States : List (S_api_State)
  f_Failed : Bool
  f_Cut : Bool
instance : Inhabited S_api_Replica := ⟨(S_api_Replica.mk (0 : Int) (0 : Int) (List.replicate 32 0) [] (0 : Int) (List.replicate 32 0) [] [] false false)⟩
def S_api_Replica.ck (x : S_api_Replica) : List Ck := [one (intVP .u32 x.f_Chain), one (intVP .u32 x.f_Here), bytesCk 32 x.f_Updater, one (slVP (dC 32) x.f_Watchers), one (intVP .u64 x.f_Window), bytesCk 32 x.f_Committed, one (slVP S_api_Timed.ck x.f_Roots), one (slVP S_api_State.ck x.f_States), one (boolVP x.f_Failed), one (boolVP x.f_Cut)]
theorem S_api_Replica.lens (x : S_api_Replica) : lens (S_api_Replica.ck x) = 72 := rfl
structure S_keys_Signer where
  f_Seed : List UInt8
  f_Next : Int
  f_Leaves : List (List UInt8)
instance : Inhabited S_keys_Signer := ⟨(S_keys_Signer.mk (List.replicate 32 0) (0 : Int) [])⟩
def S_keys_Signer.ck (x : S_keys_Signer) : List Ck := [bytesCk 32 x.f_Seed, one (intVP .i64 x.f_Next), one (slVP (dC 32) x.f_Leaves)]
theorem S_keys_Signer.lens (x : S_keys_Signer) : lens (S_keys_Signer.ck x) = 34 := rfl
structure S_api_Letter where
  f_From : Int
  f_Nonce : Int
  f_To : Int
  f_Sender : List UInt8
  f_Receiver : List UInt8
  f_Body : List UInt8
instance : Inhabited S_api_Letter := ⟨(S_api_Letter.mk (0 : Int) (0 : Int) (0 : Int) [] [] [])⟩
def S_api_Letter.ck (x : S_api_Letter) : List Ck := [one (intVP .u32 x.f_From), one (intVP .u32 x.f_Nonce), one (intVP .u32 x.f_To), one (strVP x.f_Sender), one (strVP x.f_Receiver), one (strVP x.f_Body)]
theorem S_api_Letter.lens (x : S_api_Letter) : lens (S_api_Letter.ck x) = 6 := rfl
theorem z23 : ∀ Φ, Lrel Φ (Value.agg #[.int .u8 0, .int .u8 0, .int .u8 0, .int .u8 0, .int .u8 0, .int .u8 0, .int .u8 0, .int .u8 0, .int .u8 0, .int .u8 0, .int .u8 0, .int .u8 0, .int .u8 0, .int .u8 0, .int .u8 0, .int .u8 0, .int .u8 0, .int .u8 0, .int .u8 0, .int .u8 0, .int .u8 0, .int .u8 0, .int .u8 0, .int .u8 0, .int .u8 0, .int .u8 0, .int .u8 0, .int .u8 0, .int .u8 0, .int .u8 0, .int .u8 0, .int .u8 0]).cells.toList [bytesCk 32 (List.replicate 32 0)] := fun _ => ⟨[.int .u8 0, .int .u8 0, .int .u8 0, .int .u8 0, .int .u8 0, .int .u8 0, .int .u8 0, .int .u8 0, .int .u8 0, .int .u8 0, .int .u8 0, .int .u8 0, .int .u8 0, .int .u8 0, .int .u8 0, .int .u8 0, .int .u8 0, .int .u8 0, .int .u8 0, .int .u8 0, .int .u8 0, .int .u8 0, .int .u8 0, .int .u8 0, .int .u8 0, .int .u8 0, .int .u8 0, .int .u8 0, .int .u8 0, .int .u8 0, .int .u8 0, .int .u8 0], _, rfl, ⟨rfl, rfl⟩, rfl⟩
theorem z29 : ∀ Φ, Lrel Φ (Value.agg #[.int .u8 0, .int .u8 0, .int .u8 0, .int .u8 0, .int .u8 0, .int .u8 0, .int .u8 0, .int .u8 0, .int .u8 0, .int .u8 0, .int .u8 0, .int .u8 0, .int .u8 0, .int .u8 0, .int .u8 0, .int .u8 0, .int .u8 0, .int .u8 0, .int .u8 0, .int .u8 0, .int .u8 0, .int .u8 0, .int .u8 0, .int .u8 0, .int .u8 0, .int .u8 0, .int .u8 0, .int .u8 0, .int .u8 0, .int .u8 0, .int .u8 0, .int .u8 0, .int .i64 0, .slice none 0 0]).cells.toList [bytesCk 32 ((S_keys_Signer.mk (List.replicate 32 0) (0 : Int) []).f_Seed), one (intVP .i64 ((S_keys_Signer.mk (List.replicate 32 0) (0 : Int) []).f_Next)), one (slVP (dC 32) ((S_keys_Signer.mk (List.replicate 32 0) (0 : Int) []).f_Leaves))] := fun _ => ⟨[.int .u8 0, .int .u8 0, .int .u8 0, .int .u8 0, .int .u8 0, .int .u8 0, .int .u8 0, .int .u8 0, .int .u8 0, .int .u8 0, .int .u8 0, .int .u8 0, .int .u8 0, .int .u8 0, .int .u8 0, .int .u8 0, .int .u8 0, .int .u8 0, .int .u8 0, .int .u8 0, .int .u8 0, .int .u8 0, .int .u8 0, .int .u8 0, .int .u8 0, .int .u8 0, .int .u8 0, .int .u8 0, .int .u8 0, .int .u8 0, .int .u8 0, .int .u8 0], _, rfl, ⟨rfl, rfl⟩, ⟨[.int .i64 0], _, rfl, ⟨_, rfl, rfl, rfl, by decide⟩, ⟨[.slice none 0 0], _, rfl, ⟨_, rfl, rfl, by decide, .inl ⟨rfl, rfl⟩⟩, rfl⟩⟩⟩
theorem z36 : ∀ Φ, Lrel Φ (Value.agg #[.int .u32 0, .int .u32 0, .int .u8 0, .int .u8 0, .int .u8 0, .int .u8 0, .int .u8 0, .int .u8 0, .int .u8 0, .int .u8 0, .int .u8 0, .int .u8 0, .int .u8 0, .int .u8 0, .int .u8 0, .int .u8 0, .int .u8 0, .int .u8 0, .int .u8 0, .int .u8 0, .int .u8 0, .int .u8 0, .int .u8 0, .int .u8 0, .int .u8 0, .int .u8 0, .int .u8 0, .int .u8 0, .int .u8 0, .int .u8 0, .int .u8 0, .int .u8 0, .int .u8 0, .int .u8 0, .slice none 0 0, .int .u64 0, .int .u8 0, .int .u8 0, .int .u8 0, .int .u8 0, .int .u8 0, .int .u8 0, .int .u8 0, .int .u8 0, .int .u8 0, .int .u8 0, .int .u8 0, .int .u8 0, .int .u8 0, .int .u8 0, .int .u8 0, .int .u8 0, .int .u8 0, .int .u8 0, .int .u8 0, .int .u8 0, .int .u8 0, .int .u8 0, .int .u8 0, .int .u8 0, .int .u8 0, .int .u8 0, .int .u8 0, .int .u8 0, .int .u8 0, .int .u8 0, .int .u8 0, .int .u8 0, .slice none 0 0, .slice none 0 0, .bool false, .bool false]).cells.toList [one (intVP .u32 ((S_api_Replica.mk (0 : Int) (0 : Int) (List.replicate 32 0) [] (0 : Int) (List.replicate 32 0) [] [] false false).f_Chain)), one (intVP .u32 ((S_api_Replica.mk (0 : Int) (0 : Int) (List.replicate 32 0) [] (0 : Int) (List.replicate 32 0) [] [] false false).f_Here)), bytesCk 32 ((S_api_Replica.mk (0 : Int) (0 : Int) (List.replicate 32 0) [] (0 : Int) (List.replicate 32 0) [] [] false false).f_Updater), one (slVP (dC 32) ((S_api_Replica.mk (0 : Int) (0 : Int) (List.replicate 32 0) [] (0 : Int) (List.replicate 32 0) [] [] false false).f_Watchers)), one (intVP .u64 ((S_api_Replica.mk (0 : Int) (0 : Int) (List.replicate 32 0) [] (0 : Int) (List.replicate 32 0) [] [] false false).f_Window)), bytesCk 32 ((S_api_Replica.mk (0 : Int) (0 : Int) (List.replicate 32 0) [] (0 : Int) (List.replicate 32 0) [] [] false false).f_Committed), one (slVP S_api_Timed.ck ((S_api_Replica.mk (0 : Int) (0 : Int) (List.replicate 32 0) [] (0 : Int) (List.replicate 32 0) [] [] false false).f_Roots)), one (slVP S_api_State.ck ((S_api_Replica.mk (0 : Int) (0 : Int) (List.replicate 32 0) [] (0 : Int) (List.replicate 32 0) [] [] false false).f_States)), one (boolVP ((S_api_Replica.mk (0 : Int) (0 : Int) (List.replicate 32 0) [] (0 : Int) (List.replicate 32 0) [] [] false false).f_Failed)), one (boolVP ((S_api_Replica.mk (0 : Int) (0 : Int) (List.replicate 32 0) [] (0 : Int) (List.replicate 32 0) [] [] false false).f_Cut))] := fun _ => ⟨[.int .u32 0], _, rfl, ⟨_, rfl, rfl, rfl, by decide⟩, ⟨[.int .u32 0], _, rfl, ⟨_, rfl, rfl, rfl, by decide⟩, ⟨[.int .u8 0, .int .u8 0, .int .u8 0, .int .u8 0, .int .u8 0, .int .u8 0, .int .u8 0, .int .u8 0, .int .u8 0, .int .u8 0, .int .u8 0, .int .u8 0, .int .u8 0, .int .u8 0, .int .u8 0, .int .u8 0, .int .u8 0, .int .u8 0, .int .u8 0, .int .u8 0, .int .u8 0, .int .u8 0, .int .u8 0, .int .u8 0, .int .u8 0, .int .u8 0, .int .u8 0, .int .u8 0, .int .u8 0, .int .u8 0, .int .u8 0, .int .u8 0], _, rfl, ⟨rfl, rfl⟩, ⟨[.slice none 0 0], _, rfl, ⟨_, rfl, rfl, by decide, .inl ⟨rfl, rfl⟩⟩, ⟨[.int .u64 0], _, rfl, ⟨_, rfl, rfl, rfl, by decide⟩, ⟨[.int .u8 0, .int .u8 0, .int .u8 0, .int .u8 0, .int .u8 0, .int .u8 0, .int .u8 0, .int .u8 0, .int .u8 0, .int .u8 0, .int .u8 0, .int .u8 0, .int .u8 0, .int .u8 0, .int .u8 0, .int .u8 0, .int .u8 0, .int .u8 0, .int .u8 0, .int .u8 0, .int .u8 0, .int .u8 0, .int .u8 0, .int .u8 0, .int .u8 0, .int .u8 0, .int .u8 0, .int .u8 0, .int .u8 0, .int .u8 0, .int .u8 0, .int .u8 0], _, rfl, ⟨rfl, rfl⟩, ⟨[.slice none 0 0], _, rfl, ⟨_, rfl, rfl, by decide, .inl ⟨rfl, rfl⟩⟩, ⟨[.slice none 0 0], _, rfl, ⟨_, rfl, rfl, by decide, .inl ⟨rfl, rfl⟩⟩, ⟨[.bool false], _, rfl, ⟨_, rfl, rfl, rfl⟩, ⟨[.bool false], _, rfl, ⟨_, rfl, rfl, rfl⟩, rfl⟩⟩⟩⟩⟩⟩⟩⟩⟩⟩
theorem z44 : ∀ Φ, Lrel Φ (Value.agg #[.int .u32 0, .int .u32 0, .int .u32 0, .string ⟨#[]⟩, .string ⟨#[]⟩, .string ⟨#[]⟩]).cells.toList [one (intVP .u32 ((S_api_Letter.mk (0 : Int) (0 : Int) (0 : Int) [] [] []).f_From)), one (intVP .u32 ((S_api_Letter.mk (0 : Int) (0 : Int) (0 : Int) [] [] []).f_Nonce)), one (intVP .u32 ((S_api_Letter.mk (0 : Int) (0 : Int) (0 : Int) [] [] []).f_To)), one (strVP ((S_api_Letter.mk (0 : Int) (0 : Int) (0 : Int) [] [] []).f_Sender)), one (strVP ((S_api_Letter.mk (0 : Int) (0 : Int) (0 : Int) [] [] []).f_Receiver)), one (strVP ((S_api_Letter.mk (0 : Int) (0 : Int) (0 : Int) [] [] []).f_Body))] := fun _ => ⟨[.int .u32 0], _, rfl, ⟨_, rfl, rfl, rfl, by decide⟩, ⟨[.int .u32 0], _, rfl, ⟨_, rfl, rfl, rfl, by decide⟩, ⟨[.int .u32 0], _, rfl, ⟨_, rfl, rfl, rfl, by decide⟩, ⟨[.string ⟨#[]⟩], _, rfl, ⟨_, rfl, rfl, rfl, by decide⟩, ⟨[.string ⟨#[]⟩], _, rfl, ⟨_, rfl, rfl, rfl, by decide⟩, ⟨[.string ⟨#[]⟩], _, rfl, ⟨_, rfl, rfl, rfl, by decide⟩, rfl⟩⟩⟩⟩⟩⟩
theorem z46 : ∀ Φ, Lrel Φ (Value.agg #[.int .i64 0, .slice none 0 0, .slice none 0 0, .slice none 0 0]).cells.toList [one (intVP .i64 ((S_api_Sig.mk (0 : Int) [] [] []).f_Index)), one (slVP (dC 32) ((S_api_Sig.mk (0 : Int) [] [] []).f_Parts)), one (slVP (dC 32) ((S_api_Sig.mk (0 : Int) [] [] []).f_Others)), one (slVP (dC 32) ((S_api_Sig.mk (0 : Int) [] [] []).f_Path))] := fun _ => ⟨[.int .i64 0], _, rfl, ⟨_, rfl, rfl, rfl, by decide⟩, ⟨[.slice none 0 0], _, rfl, ⟨_, rfl, rfl, by decide, .inl ⟨rfl, rfl⟩⟩, ⟨[.slice none 0 0], _, rfl, ⟨_, rfl, rfl, by decide, .inl ⟨rfl, rfl⟩⟩, ⟨[.slice none 0 0], _, rfl, ⟨_, rfl, rfl, by decide, .inl ⟨rfl, rfl⟩⟩, rfl⟩⟩⟩⟩
theorem z48 : ∀ Φ, Lrel Φ (Value.agg #[.int .u32 0, .int .u8 0, .int .u8 0, .int .u8 0, .int .u8 0, .int .u8 0, .int .u8 0, .int .u8 0, .int .u8 0, .int .u8 0, .int .u8 0, .int .u8 0, .int .u8 0, .int .u8 0, .int .u8 0, .int .u8 0, .int .u8 0, .int .u8 0, .int .u8 0, .int .u8 0, .int .u8 0, .int .u8 0, .int .u8 0, .int .u8 0, .int .u8 0, .int .u8 0, .int .u8 0, .int .u8 0, .int .u8 0, .int .u8 0, .int .u8 0, .int .u8 0, .int .u8 0, .int .u8 0, .int .u8 0, .int .u8 0, .int .u8 0, .int .u8 0, .int .u8 0, .int .u8 0, .int .u8 0, .int .u8 0, .int .u8 0, .int .u8 0, .int .u8 0, .int .u8 0, .int .u8 0, .int .u8 0, .int .u8 0, .int .u8 0, .int .u8 0, .int .u8 0, .int .u8 0, .int .u8 0, .int .u8 0, .int .u8 0, .int .u8 0, .int .u8 0, .int .u8 0, .int .u8 0, .int .u8 0, .int .u8 0, .int .u8 0, .int .u8 0, .int .u8 0, .int .i64 0, .slice none 0 0, .slice none 0 0, .slice none 0 0]).cells.toList [one (intVP .u32 ((S_api_Update.mk (0 : Int) (List.replicate 32 0) (List.replicate 32 0) (S_api_Sig.mk (0 : Int) [] [] [])).f_Home)), bytesCk 32 ((S_api_Update.mk (0 : Int) (List.replicate 32 0) (List.replicate 32 0) (S_api_Sig.mk (0 : Int) [] [] [])).f_Old), bytesCk 32 ((S_api_Update.mk (0 : Int) (List.replicate 32 0) (List.replicate 32 0) (S_api_Sig.mk (0 : Int) [] [] [])).f_New), one (intVP .i64 (((S_api_Update.mk (0 : Int) (List.replicate 32 0) (List.replicate 32 0) (S_api_Sig.mk (0 : Int) [] [] [])).f_Sig).f_Index)), one (slVP (dC 32) (((S_api_Update.mk (0 : Int) (List.replicate 32 0) (List.replicate 32 0) (S_api_Sig.mk (0 : Int) [] [] [])).f_Sig).f_Parts)), one (slVP (dC 32) (((S_api_Update.mk (0 : Int) (List.replicate 32 0) (List.replicate 32 0) (S_api_Sig.mk (0 : Int) [] [] [])).f_Sig).f_Others)), one (slVP (dC 32) (((S_api_Update.mk (0 : Int) (List.replicate 32 0) (List.replicate 32 0) (S_api_Sig.mk (0 : Int) [] [] [])).f_Sig).f_Path))] := fun _ => ⟨[.int .u32 0], _, rfl, ⟨_, rfl, rfl, rfl, by decide⟩, ⟨[.int .u8 0, .int .u8 0, .int .u8 0, .int .u8 0, .int .u8 0, .int .u8 0, .int .u8 0, .int .u8 0, .int .u8 0, .int .u8 0, .int .u8 0, .int .u8 0, .int .u8 0, .int .u8 0, .int .u8 0, .int .u8 0, .int .u8 0, .int .u8 0, .int .u8 0, .int .u8 0, .int .u8 0, .int .u8 0, .int .u8 0, .int .u8 0, .int .u8 0, .int .u8 0, .int .u8 0, .int .u8 0, .int .u8 0, .int .u8 0, .int .u8 0, .int .u8 0], _, rfl, ⟨rfl, rfl⟩, ⟨[.int .u8 0, .int .u8 0, .int .u8 0, .int .u8 0, .int .u8 0, .int .u8 0, .int .u8 0, .int .u8 0, .int .u8 0, .int .u8 0, .int .u8 0, .int .u8 0, .int .u8 0, .int .u8 0, .int .u8 0, .int .u8 0, .int .u8 0, .int .u8 0, .int .u8 0, .int .u8 0, .int .u8 0, .int .u8 0, .int .u8 0, .int .u8 0, .int .u8 0, .int .u8 0, .int .u8 0, .int .u8 0, .int .u8 0, .int .u8 0, .int .u8 0, .int .u8 0], _, rfl, ⟨rfl, rfl⟩, ⟨[.int .i64 0], _, rfl, ⟨_, rfl, rfl, rfl, by decide⟩, ⟨[.slice none 0 0], _, rfl, ⟨_, rfl, rfl, by decide, .inl ⟨rfl, rfl⟩⟩, ⟨[.slice none 0 0], _, rfl, ⟨_, rfl, rfl, by decide, .inl ⟨rfl, rfl⟩⟩, ⟨[.slice none 0 0], _, rfl, ⟨_, rfl, rfl, by decide, .inl ⟨rfl, rfl⟩⟩, rfl⟩⟩⟩⟩⟩⟩⟩
theorem z53 : ∀ Φ, Lrel Φ (Value.agg #[.int .u32 0, .string ⟨#[]⟩]).cells.toList [one (intVP .u32 ((S_relayer_Relayer.mk (0 : Int) []).f_Home)), one (strVP ((S_relayer_Relayer.mk (0 : Int) []).f_Disk))] := fun _ => ⟨[.int .u32 0], _, rfl, ⟨_, rfl, rfl, rfl, by decide⟩, ⟨[.string ⟨#[]⟩], _, rfl, ⟨_, rfl, rfl, rfl, by decide⟩, rfl⟩⟩
theorem z63 : ∀ Φ, Lrel Φ (Value.agg #[.int .u8 0, .int .u32 0, .int .u64 0, .int .u8 0, .int .u8 0, .int .u8 0, .int .u8 0, .int .u8 0, .int .u8 0, .int .u8 0, .int .u8 0, .int .u8 0, .int .u8 0, .int .u8 0, .int .u8 0, .int .u8 0, .int .u8 0, .int .u8 0, .int .u8 0, .int .u8 0, .int .u8 0, .int .u8 0, .int .u8 0, .int .u8 0, .int .u8 0, .int .u8 0, .int .u8 0, .int .u8 0, .int .u8 0, .int .u8 0, .int .u8 0, .int .u8 0, .int .u8 0, .int .u8 0, .int .u8 0, .int .u8 0, .int .u8 0, .int .u8 0, .int .u8 0, .int .u8 0, .int .u8 0, .int .u8 0, .int .u8 0, .int .u8 0, .int .u8 0, .int .u8 0, .int .u8 0, .int .u8 0, .int .u8 0, .int .u8 0, .int .u8 0, .int .u8 0, .int .u8 0, .int .u8 0, .int .u8 0, .int .u8 0, .int .u8 0, .int .u8 0, .int .u8 0, .int .u8 0, .int .u8 0, .int .u8 0, .int .u8 0, .int .u8 0, .int .u8 0, .int .u8 0, .int .u8 0, .int .u64 0]).cells.toList [one (intVP .u8 ((S_notes_Note.mk (0 : Int) (0 : Int) (0 : Int) (List.replicate 32 0) (List.replicate 32 0) (0 : Int)).f_Kind)), one (intVP .u32 ((S_notes_Note.mk (0 : Int) (0 : Int) (0 : Int) (List.replicate 32 0) (List.replicate 32 0) (0 : Int)).f_Home)), one (intVP .u64 ((S_notes_Note.mk (0 : Int) (0 : Int) (0 : Int) (List.replicate 32 0) (List.replicate 32 0) (0 : Int)).f_Next)), bytesCk 32 ((S_notes_Note.mk (0 : Int) (0 : Int) (0 : Int) (List.replicate 32 0) (List.replicate 32 0) (0 : Int)).f_Old), bytesCk 32 ((S_notes_Note.mk (0 : Int) (0 : Int) (0 : Int) (List.replicate 32 0) (List.replicate 32 0) (0 : Int)).f_New), one (intVP .u64 ((S_notes_Note.mk (0 : Int) (0 : Int) (0 : Int) (List.replicate 32 0) (List.replicate 32 0) (0 : Int)).f_Sent))] := fun _ => ⟨[.int .u8 0], _, rfl, ⟨_, rfl, rfl, rfl, by decide⟩, ⟨[.int .u32 0], _, rfl, ⟨_, rfl, rfl, rfl, by decide⟩, ⟨[.int .u64 0], _, rfl, ⟨_, rfl, rfl, rfl, by decide⟩, ⟨[.int .u8 0, .int .u8 0, .int .u8 0, .int .u8 0, .int .u8 0, .int .u8 0, .int .u8 0, .int .u8 0, .int .u8 0, .int .u8 0, .int .u8 0, .int .u8 0, .int .u8 0, .int .u8 0, .int .u8 0, .int .u8 0, .int .u8 0, .int .u8 0, .int .u8 0, .int .u8 0, .int .u8 0, .int .u8 0, .int .u8 0, .int .u8 0, .int .u8 0, .int .u8 0, .int .u8 0, .int .u8 0, .int .u8 0, .int .u8 0, .int .u8 0, .int .u8 0], _, rfl, ⟨rfl, rfl⟩, ⟨[.int .u8 0, .int .u8 0, .int .u8 0, .int .u8 0, .int .u8 0, .int .u8 0, .int .u8 0, .int .u8 0, .int .u8 0, .int .u8 0, .int .u8 0, .int .u8 0, .int .u8 0, .int .u8 0, .int .u8 0, .int .u8 0, .int .u8 0, .int .u8 0, .int .u8 0, .int .u8 0, .int .u8 0, .int .u8 0, .int .u8 0, .int .u8 0, .int .u8 0, .int .u8 0, .int .u8 0, .int .u8 0, .int .u8 0, .int .u8 0, .int .u8 0, .int .u8 0], _, rfl, ⟨rfl, rfl⟩, ⟨[.int .u64 0], _, rfl, ⟨_, rfl, rfl, rfl, by decide⟩, rfl⟩⟩⟩⟩⟩⟩
theorem z69 : ∀ Φ, Lrel Φ (Value.agg Tryz.zeroCells69).cells.toList [arrCk 33 32 (dC 32) (lens_dC 32) (List.replicate 33 (List.replicate 32 0))] := zarr1 (zs := [.int .u8 0, .int .u8 0, .int .u8 0, .int .u8 0, .int .u8 0, .int .u8 0, .int .u8 0, .int .u8 0, .int .u8 0, .int .u8 0, .int .u8 0, .int .u8 0, .int .u8 0, .int .u8 0, .int .u8 0, .int .u8 0, .int .u8 0, .int .u8 0, .int .u8 0, .int .u8 0, .int .u8 0, .int .u8 0, .int .u8 0, .int .u8 0, .int .u8 0, .int .u8 0, .int .u8 0, .int .u8 0, .int .u8 0, .int .u8 0, .int .u8 0, .int .u8 0]) (by kernel_rfl) (fun _ => ⟨[.int .u8 0, .int .u8 0, .int .u8 0, .int .u8 0, .int .u8 0, .int .u8 0, .int .u8 0, .int .u8 0, .int .u8 0, .int .u8 0, .int .u8 0, .int .u8 0, .int .u8 0, .int .u8 0, .int .u8 0, .int .u8 0, .int .u8 0, .int .u8 0, .int .u8 0, .int .u8 0, .int .u8 0, .int .u8 0, .int .u8 0, .int .u8 0, .int .u8 0, .int .u8 0, .int .u8 0, .int .u8 0, .int .u8 0, .int .u8 0, .int .u8 0, .int .u8 0], _, rfl, ⟨rfl, rfl⟩, rfl⟩)
theorem z86 : ∀ Φ, Lrel Φ (Value.agg #[.int .u8 0, .int .u8 0, .int .u8 0, .int .u8 0, .int .u8 0, .int .u8 0, .int .u8 0, .int .u8 0, .int .u8 0, .int .u8 0, .int .u8 0, .int .u8 0, .int .u8 0, .int .u8 0, .int .u8 0, .int .u8 0, .int .u8 0, .int .u8 0, .int .u8 0, .int .u8 0, .int .u8 0, .int .u8 0, .int .u8 0, .int .u8 0, .int .u8 0, .int .u8 0, .int .u8 0, .int .u8 0, .int .u8 0, .int .u8 0, .int .u8 0, .int .u8 0, .int .u64 0]).cells.toList [bytesCk 32 ((S_api_Timed.mk (List.replicate 32 0) (0 : Int)).f_Root), one (intVP .u64 ((S_api_Timed.mk (List.replicate 32 0) (0 : Int)).f_At))] := fun _ => ⟨[.int .u8 0, .int .u8 0, .int .u8 0, .int .u8 0, .int .u8 0, .int .u8 0, .int .u8 0, .int .u8 0, .int .u8 0, .int .u8 0, .int .u8 0, .int .u8 0, .int .u8 0, .int .u8 0, .int .u8 0, .int .u8 0, .int .u8 0, .int .u8 0, .int .u8 0, .int .u8 0, .int .u8 0, .int .u8 0, .int .u8 0, .int .u8 0, .int .u8 0, .int .u8 0, .int .u8 0, .int .u8 0, .int .u8 0, .int .u8 0, .int .u8 0, .int .u8 0], _, rfl, ⟨rfl, rfl⟩, ⟨[.int .u64 0], _, rfl, ⟨_, rfl, rfl, rfl, by decide⟩, rfl⟩⟩
theorem z90 : ∀ Φ, Lrel Φ (Value.agg Tryz.zeroCells90).cells.toList [arrCk 64 32 (dC 32) (lens_dC 32) (List.replicate 64 (List.replicate 32 0))] := zarr1 (zs := [.int .u8 0, .int .u8 0, .int .u8 0, .int .u8 0, .int .u8 0, .int .u8 0, .int .u8 0, .int .u8 0, .int .u8 0, .int .u8 0, .int .u8 0, .int .u8 0, .int .u8 0, .int .u8 0, .int .u8 0, .int .u8 0, .int .u8 0, .int .u8 0, .int .u8 0, .int .u8 0, .int .u8 0, .int .u8 0, .int .u8 0, .int .u8 0, .int .u8 0, .int .u8 0, .int .u8 0, .int .u8 0, .int .u8 0, .int .u8 0, .int .u8 0, .int .u8 0]) (by kernel_rfl) (fun _ => ⟨[.int .u8 0, .int .u8 0, .int .u8 0, .int .u8 0, .int .u8 0, .int .u8 0, .int .u8 0, .int .u8 0, .int .u8 0, .int .u8 0, .int .u8 0, .int .u8 0, .int .u8 0, .int .u8 0, .int .u8 0, .int .u8 0, .int .u8 0, .int .u8 0, .int .u8 0, .int .u8 0, .int .u8 0, .int .u8 0, .int .u8 0, .int .u8 0, .int .u8 0, .int .u8 0, .int .u8 0, .int .u8 0, .int .u8 0, .int .u8 0, .int .u8 0, .int .u8 0], _, rfl, ⟨rfl, rfl⟩, rfl⟩)
theorem z127 : ∀ Φ, Lrel Φ (Value.agg #[.int .u32 0, .int .u32 0, .int .u32 0, .int .u32 0, .int .u32 0, .int .u32 0, .int .u32 0, .int .u32 0]).cells.toList [intsCk .u32 8 (List.replicate 8 0)] := fun _ => ⟨[.int .u32 0, .int .u32 0, .int .u32 0, .int .u32 0, .int .u32 0, .int .u32 0, .int .u32 0, .int .u32 0], _, rfl, ⟨rfl, rfl, by decide⟩, rfl⟩
theorem z135 : ∀ Φ, Lrel Φ (Value.agg #[.int .u8 0, .int .u8 0, .int .u8 0, .int .u8 0, .int .u8 0, .int .u8 0, .int .u8 0, .int .u8 0]).cells.toList [bytesCk 8 (List.replicate 8 0)] := fun _ => ⟨[.int .u8 0, .int .u8 0, .int .u8 0, .int .u8 0, .int .u8 0, .int .u8 0, .int .u8 0, .int .u8 0], _, rfl, ⟨rfl, rfl⟩, rfl⟩
theorem z156 : ∀ Φ, Lrel Φ (Value.agg #[.int .u32 0, .int .u32 0, .int .u32 0, .int .u32 0, .int .u32 0, .int .u32 0, .int .u32 0, .int .u32 0, .string ⟨#[]⟩, .int .u64 0]).cells.toList [intsCk .u32 8 ((S_sha_State.mk (List.replicate 8 0) [] (0 : Int)).f_Words), one (strVP ((S_sha_State.mk (List.replicate 8 0) [] (0 : Int)).f_Rest)), one (intVP .u64 ((S_sha_State.mk (List.replicate 8 0) [] (0 : Int)).f_Count))] := fun _ => ⟨[.int .u32 0, .int .u32 0, .int .u32 0, .int .u32 0, .int .u32 0, .int .u32 0, .int .u32 0, .int .u32 0], _, rfl, ⟨rfl, rfl, by decide⟩, ⟨[.string ⟨#[]⟩], _, rfl, ⟨_, rfl, rfl, rfl, by decide⟩, ⟨[.int .u64 0], _, rfl, ⟨_, rfl, rfl, rfl, by decide⟩, rfl⟩⟩⟩
theorem z173 : ∀ Φ, Lrel Φ (Value.agg #[.int .u32 0, .int .u32 0, .int .u32 0, .int .u32 0, .int .u32 0, .int .u32 0, .int .u32 0, .int .u32 0, .int .u32 0, .int .u32 0, .int .u32 0, .int .u32 0, .int .u32 0, .int .u32 0, .int .u32 0, .int .u32 0, .int .u32 0, .int .u32 0, .int .u32 0, .int .u32 0, .int .u32 0, .int .u32 0, .int .u32 0, .int .u32 0, .int .u32 0, .int .u32 0, .int .u32 0, .int .u32 0, .int .u32 0, .int .u32 0, .int .u32 0, .int .u32 0, .int .u32 0, .int .u32 0, .int .u32 0, .int .u32 0, .int .u32 0, .int .u32 0, .int .u32 0, .int .u32 0, .int .u32 0, .int .u32 0, .int .u32 0, .int .u32 0, .int .u32 0, .int .u32 0, .int .u32 0, .int .u32 0, .int .u32 0, .int .u32 0, .int .u32 0, .int .u32 0, .int .u32 0, .int .u32 0, .int .u32 0, .int .u32 0, .int .u32 0, .int .u32 0, .int .u32 0, .int .u32 0, .int .u32 0, .int .u32 0, .int .u32 0, .int .u32 0]).cells.toList [intsCk .u32 64 (List.replicate 64 0)] := fun _ => ⟨[.int .u32 0, .int .u32 0, .int .u32 0, .int .u32 0, .int .u32 0, .int .u32 0, .int .u32 0, .int .u32 0, .int .u32 0, .int .u32 0, .int .u32 0, .int .u32 0, .int .u32 0, .int .u32 0, .int .u32 0, .int .u32 0, .int .u32 0, .int .u32 0, .int .u32 0, .int .u32 0, .int .u32 0, .int .u32 0, .int .u32 0, .int .u32 0, .int .u32 0, .int .u32 0, .int .u32 0, .int .u32 0, .int .u32 0, .int .u32 0, .int .u32 0, .int .u32 0, .int .u32 0, .int .u32 0, .int .u32 0, .int .u32 0, .int .u32 0, .int .u32 0, .int .u32 0, .int .u32 0, .int .u32 0, .int .u32 0, .int .u32 0, .int .u32 0, .int .u32 0, .int .u32 0, .int .u32 0, .int .u32 0, .int .u32 0, .int .u32 0, .int .u32 0, .int .u32 0, .int .u32 0, .int .u32 0, .int .u32 0, .int .u32 0, .int .u32 0, .int .u32 0, .int .u32 0, .int .u32 0, .int .u32 0, .int .u32 0, .int .u32 0, .int .u32 0], _, rfl, ⟨rfl, rfl, by decide⟩, rfl⟩
theorem zo29 : ∀ Φ, Lrel Φ (Value.agg #[.int .u8 0, .int .u8 0, .int .u8 0, .int .u8 0, .int .u8 0, .int .u8 0, .int .u8 0, .int .u8 0, .int .u8 0, .int .u8 0, .int .u8 0, .int .u8 0, .int .u8 0, .int .u8 0, .int .u8 0, .int .u8 0, .int .u8 0, .int .u8 0, .int .u8 0, .int .u8 0, .int .u8 0, .int .u8 0, .int .u8 0, .int .u8 0, .int .u8 0, .int .u8 0, .int .u8 0, .int .u8 0, .int .u8 0, .int .u8 0, .int .u8 0, .int .u8 0, .int .i64 0, .slice none 0 0]).cells.toList [bytesCk 32 (List.replicate 32 0), one (intVP .i64 (0 : Int)), one (eqVP (.slice none 0 0))] := fun _ => ⟨[.int .u8 0, .int .u8 0, .int .u8 0, .int .u8 0, .int .u8 0, .int .u8 0, .int .u8 0, .int .u8 0, .int .u8 0, .int .u8 0, .int .u8 0, .int .u8 0, .int .u8 0, .int .u8 0, .int .u8 0, .int .u8 0, .int .u8 0, .int .u8 0, .int .u8 0, .int .u8 0, .int .u8 0, .int .u8 0, .int .u8 0, .int .u8 0, .int .u8 0, .int .u8 0, .int .u8 0, .int .u8 0, .int .u8 0, .int .u8 0, .int .u8 0, .int .u8 0], _, rfl, ⟨rfl, rfl⟩, ⟨[.int .i64 0], _, rfl, ⟨_, rfl, rfl, rfl, by decide⟩, ⟨[.slice none 0 0], _, rfl, ⟨_, rfl, rfl, rfl⟩, rfl⟩⟩⟩
theorem zo36 : ∀ Φ, Lrel Φ (Value.agg #[.int .u32 0, .int .u32 0, .int .u8 0, .int .u8 0, .int .u8 0, .int .u8 0, .int .u8 0, .int .u8 0, .int .u8 0, .int .u8 0, .int .u8 0, .int .u8 0, .int .u8 0, .int .u8 0, .int .u8 0, .int .u8 0, .int .u8 0, .int .u8 0, .int .u8 0, .int .u8 0, .int .u8 0, .int .u8 0, .int .u8 0, .int .u8 0, .int .u8 0, .int .u8 0, .int .u8 0, .int .u8 0, .int .u8 0, .int .u8 0, .int .u8 0, .int .u8 0, .int .u8 0, .int .u8 0, .slice none 0 0, .int .u64 0, .int .u8 0, .int .u8 0, .int .u8 0, .int .u8 0, .int .u8 0, .int .u8 0, .int .u8 0, .int .u8 0, .int .u8 0, .int .u8 0, .int .u8 0, .int .u8 0, .int .u8 0, .int .u8 0, .int .u8 0, .int .u8 0, .int .u8 0, .int .u8 0, .int .u8 0, .int .u8 0, .int .u8 0, .int .u8 0, .int .u8 0, .int .u8 0, .int .u8 0, .int .u8 0, .int .u8 0, .int .u8 0, .int .u8 0, .int .u8 0, .int .u8 0, .int .u8 0, .slice none 0 0, .slice none 0 0, .bool false, .bool false]).cells.toList [one (intVP .u32 (0 : Int)), one (intVP .u32 (0 : Int)), bytesCk 32 (List.replicate 32 0), one (slVP (dC 32) []), one (intVP .u64 (0 : Int)), bytesCk 32 (List.replicate 32 0), one (slVP S_api_Timed.ck []), one (slVP S_api_State.ck []), one (boolVP false), one (boolVP false)] := fun _ => ⟨[.int .u32 0], _, rfl, ⟨_, rfl, rfl, rfl, by decide⟩, ⟨[.int .u32 0], _, rfl, ⟨_, rfl, rfl, rfl, by decide⟩, ⟨[.int .u8 0, .int .u8 0, .int .u8 0, .int .u8 0, .int .u8 0, .int .u8 0, .int .u8 0, .int .u8 0, .int .u8 0, .int .u8 0, .int .u8 0, .int .u8 0, .int .u8 0, .int .u8 0, .int .u8 0, .int .u8 0, .int .u8 0, .int .u8 0, .int .u8 0, .int .u8 0, .int .u8 0, .int .u8 0, .int .u8 0, .int .u8 0, .int .u8 0, .int .u8 0, .int .u8 0, .int .u8 0, .int .u8 0, .int .u8 0, .int .u8 0, .int .u8 0], _, rfl, ⟨rfl, rfl⟩, ⟨[.slice none 0 0], _, rfl, ⟨_, rfl, rfl, by decide, .inl ⟨rfl, rfl⟩⟩, ⟨[.int .u64 0], _, rfl, ⟨_, rfl, rfl, rfl, by decide⟩, ⟨[.int .u8 0, .int .u8 0, .int .u8 0, .int .u8 0, .int .u8 0, .int .u8 0, .int .u8 0, .int .u8 0, .int .u8 0, .int .u8 0, .int .u8 0, .int .u8 0, .int .u8 0, .int .u8 0, .int .u8 0, .int .u8 0, .int .u8 0, .int .u8 0, .int .u8 0, .int .u8 0, .int .u8 0, .int .u8 0, .int .u8 0, .int .u8 0, .int .u8 0, .int .u8 0, .int .u8 0, .int .u8 0, .int .u8 0, .int .u8 0, .int .u8 0, .int .u8 0], _, rfl, ⟨rfl, rfl⟩, ⟨[.slice none 0 0], _, rfl, ⟨_, rfl, rfl, by decide, .inl ⟨rfl, rfl⟩⟩, ⟨[.slice none 0 0], _, rfl, ⟨_, rfl, rfl, by decide, .inl ⟨rfl, rfl⟩⟩, ⟨[.bool false], _, rfl, ⟨_, rfl, rfl, rfl⟩, ⟨[.bool false], _, rfl, ⟨_, rfl, rfl, rfl⟩, rfl⟩⟩⟩⟩⟩⟩⟩⟩⟩⟩
theorem zo40 : ∀ Φ, Lrel Φ (.slice none 0 0 : Value).cells.toList [one (eqVP (.slice none 0 0))] := fun _ => ⟨[.slice none 0 0], _, rfl, ⟨_, rfl, rfl, rfl⟩, rfl⟩
theorem zo121 : ∀ Φ, Lrel Φ (Value.agg #[.pointer none, .slice none 0 0]).cells.toList [one (eqVP (.pointer none)), one (eqVP (.slice none 0 0))] := fun _ => ⟨[.pointer none], _, rfl, ⟨_, rfl, rfl, rfl⟩, ⟨[.slice none 0 0], _, rfl, ⟨_, rfl, rfl, rfl⟩, rfl⟩⟩
theorem zo168 : ∀ Φ, Lrel Φ (Value.agg #[.string ⟨#[]⟩, .int .i64 0]).cells.toList [one (strVP []), one (intVP .i64 (0 : Int))] := fun _ => ⟨[.string ⟨#[]⟩], _, rfl, ⟨_, rfl, rfl, rfl, by decide⟩, ⟨[.int .i64 0], _, rfl, ⟨_, rfl, rfl, rfl, by decide⟩, rfl⟩⟩
theorem bu23 : ∀ p, Tryz.prog.built 23 p = Instr.fill (fun i => some (i * 1, 1)) (List.replicate 32 (.int .u8 0)).toArray p := by intro p; kernel_rfl
theorem bu29 : ∀ p, Tryz.prog.built 29 p = Instr.fill (fun i => (#[(0, 32), (32, 1), (33, 1)] : Array (Nat × Nat))[i]?) (Value.agg #[.int .u8 0, .int .u8 0, .int .u8 0, .int .u8 0, .int .u8 0, .int .u8 0, .int .u8 0, .int .u8 0, .int .u8 0, .int .u8 0, .int .u8 0, .int .u8 0, .int .u8 0, .int .u8 0, .int .u8 0, .int .u8 0, .int .u8 0, .int .u8 0, .int .u8 0, .int .u8 0, .int .u8 0, .int .u8 0, .int .u8 0, .int .u8 0, .int .u8 0, .int .u8 0, .int .u8 0, .int .u8 0, .int .u8 0, .int .u8 0, .int .u8 0, .int .u8 0, .int .i64 0, .slice none 0 0]).cells.toList.toArray p := by intro p; kernel_rfl
theorem bu36 : ∀ p, Tryz.prog.built 36 p = Instr.fill (fun i => (#[(0, 1), (1, 1), (2, 32), (34, 1), (35, 1), (36, 32), (68, 1), (69, 1), (70, 1), (71, 1)] : Array (Nat × Nat))[i]?) (Value.agg #[.int .u32 0, .int .u32 0, .int .u8 0, .int .u8 0, .int .u8 0, .int .u8 0, .int .u8 0, .int .u8 0, .int .u8 0, .int .u8 0, .int .u8 0, .int .u8 0, .int .u8 0, .int .u8 0, .int .u8 0, .int .u8 0, .int .u8 0, .int .u8 0, .int .u8 0, .int .u8 0, .int .u8 0, .int .u8 0, .int .u8 0, .int .u8 0, .int .u8 0, .int .u8 0, .int .u8 0, .int .u8 0, .int .u8 0, .int .u8 0, .int .u8 0, .int .u8 0, .int .u8 0, .int .u8 0, .slice none 0 0, .int .u64 0, .int .u8 0, .int .u8 0, .int .u8 0, .int .u8 0, .int .u8 0, .int .u8 0, .int .u8 0, .int .u8 0, .int .u8 0, .int .u8 0, .int .u8 0, .int .u8 0, .int .u8 0, .int .u8 0, .int .u8 0, .int .u8 0, .int .u8 0, .int .u8 0, .int .u8 0, .int .u8 0, .int .u8 0, .int .u8 0, .int .u8 0, .int .u8 0, .int .u8 0, .int .u8 0, .int .u8 0, .int .u8 0, .int .u8 0, .int .u8 0, .int .u8 0, .int .u8 0, .slice none 0 0, .slice none 0 0, .bool false, .bool false]).cells.toList.toArray p := by intro p; kernel_rfl
theorem bu44 : ∀ p, Tryz.prog.built 44 p = Instr.fill (fun i => (#[(0, 1), (1, 1), (2, 1), (3, 1), (4, 1), (5, 1)] : Array (Nat × Nat))[i]?) (Value.agg #[.int .u32 0, .int .u32 0, .int .u32 0, .string ⟨#[]⟩, .string ⟨#[]⟩, .string ⟨#[]⟩]).cells.toList.toArray p := by intro p; kernel_rfl
theorem bu46 : ∀ p, Tryz.prog.built 46 p = Instr.fill (fun i => (#[(0, 1), (1, 1), (2, 1), (3, 1)] : Array (Nat × Nat))[i]?) (Value.agg #[.int .i64 0, .slice none 0 0, .slice none 0 0, .slice none 0 0]).cells.toList.toArray p := by intro p; kernel_rfl
theorem bu48 : ∀ p, Tryz.prog.built 48 p = Instr.fill (fun i => (#[(0, 1), (1, 32), (33, 32), (65, 4)] : Array (Nat × Nat))[i]?) (Value.agg #[.int .u32 0, .int .u8 0, .int .u8 0, .int .u8 0, .int .u8 0, .int .u8 0, .int .u8 0, .int .u8 0, .int .u8 0, .int .u8 0, .int .u8 0, .int .u8 0, .int .u8 0, .int .u8 0, .int .u8 0, .int .u8 0, .int .u8 0, .int .u8 0, .int .u8 0, .int .u8 0, .int .u8 0, .int .u8 0, .int .u8 0, .int .u8 0, .int .u8 0, .int .u8 0, .int .u8 0, .int .u8 0, .int .u8 0, .int .u8 0, .int .u8 0, .int .u8 0, .int .u8 0, .int .u8 0, .int .u8 0, .int .u8 0, .int .u8 0, .int .u8 0, .int .u8 0, .int .u8 0, .int .u8 0, .int .u8 0, .int .u8 0, .int .u8 0, .int .u8 0, .int .u8 0, .int .u8 0, .int .u8 0, .int .u8 0, .int .u8 0, .int .u8 0, .int .u8 0, .int .u8 0, .int .u8 0, .int .u8 0, .int .u8 0, .int .u8 0, .int .u8 0, .int .u8 0, .int .u8 0, .int .u8 0, .int .u8 0, .int .u8 0, .int .u8 0, .int .u8 0, .int .i64 0, .slice none 0 0, .slice none 0 0, .slice none 0 0]).cells.toList.toArray p := by intro p; kernel_rfl
theorem bu53 : ∀ p, Tryz.prog.built 53 p = Instr.fill (fun i => (#[(0, 1), (1, 1)] : Array (Nat × Nat))[i]?) (Value.agg #[.int .u32 0, .string ⟨#[]⟩]).cells.toList.toArray p := by intro p; kernel_rfl
theorem bu63 : ∀ p, Tryz.prog.built 63 p = Instr.fill (fun i => (#[(0, 1), (1, 1), (2, 1), (3, 32), (35, 32), (67, 1)] : Array (Nat × Nat))[i]?) (Value.agg #[.int .u8 0, .int .u32 0, .int .u64 0, .int .u8 0, .int .u8 0, .int .u8 0, .int .u8 0, .int .u8 0, .int .u8 0, .int .u8 0, .int .u8 0, .int .u8 0, .int .u8 0, .int .u8 0, .int .u8 0, .int .u8 0, .int .u8 0, .int .u8 0, .int .u8 0, .int .u8 0, .int .u8 0, .int .u8 0, .int .u8 0, .int .u8 0, .int .u8 0, .int .u8 0, .int .u8 0, .int .u8 0, .int .u8 0, .int .u8 0, .int .u8 0, .int .u8 0, .int .u8 0, .int .u8 0, .int .u8 0, .int .u8 0, .int .u8 0, .int .u8 0, .int .u8 0, .int .u8 0, .int .u8 0, .int .u8 0, .int .u8 0, .int .u8 0, .int .u8 0, .int .u8 0, .int .u8 0, .int .u8 0, .int .u8 0, .int .u8 0, .int .u8 0, .int .u8 0, .int .u8 0, .int .u8 0, .int .u8 0, .int .u8 0, .int .u8 0, .int .u8 0, .int .u8 0, .int .u8 0, .int .u8 0, .int .u8 0, .int .u8 0, .int .u8 0, .int .u8 0, .int .u8 0, .int .u8 0, .int .u64 0]).cells.toList.toArray p := by intro p; kernel_rfl
theorem bu86 : ∀ p, Tryz.prog.built 86 p = Instr.fill (fun i => (#[(0, 32), (32, 1)] : Array (Nat × Nat))[i]?) (Value.agg #[.int .u8 0, .int .u8 0, .int .u8 0, .int .u8 0, .int .u8 0, .int .u8 0, .int .u8 0, .int .u8 0, .int .u8 0, .int .u8 0, .int .u8 0, .int .u8 0, .int .u8 0, .int .u8 0, .int .u8 0, .int .u8 0, .int .u8 0, .int .u8 0, .int .u8 0, .int .u8 0, .int .u8 0, .int .u8 0, .int .u8 0, .int .u8 0, .int .u8 0, .int .u8 0, .int .u8 0, .int .u8 0, .int .u8 0, .int .u8 0, .int .u8 0, .int .u8 0, .int .u64 0]).cells.toList.toArray p := by intro p; kernel_rfl
theorem bu127 : ∀ p, Tryz.prog.built 127 p = Instr.fill (fun i => some (i * 1, 1)) (List.replicate 8 (.int .u32 0)).toArray p := by intro p; kernel_rfl
theorem bu156 : ∀ p, Tryz.prog.built 156 p = Instr.fill (fun i => (#[(0, 8), (8, 1), (9, 1)] : Array (Nat × Nat))[i]?) (Value.agg #[.int .u32 0, .int .u32 0, .int .u32 0, .int .u32 0, .int .u32 0, .int .u32 0, .int .u32 0, .int .u32 0, .string ⟨#[]⟩, .int .u64 0]).cells.toList.toArray p := by intro p; kernel_rfl
theorem bu168 : ∀ p, Tryz.prog.built 168 p = Instr.fill (fun i => (#[(0, 1), (1, 1)] : Array (Nat × Nat))[i]?) (Value.agg #[.string ⟨#[]⟩, .int .i64 0]).cells.toList.toArray p := by intro p; kernel_rfl
theorem bu173 : ∀ p, Tryz.prog.built 173 p = Instr.fill (fun i => some (i * 1, 1)) (List.replicate 64 (.int .u32 0)).toArray p := by intro p; kernel_rfl
structure O_Bld where
  f_buf : List (UInt8)
def Bld_h (p : Value) (v1 : Value) (s : O_Bld) : RP := RP.sep (lb p 121 [one (selfVP p), one (eqVP v1)]) (acc v1 5 1 bC s.f_buf)
def Bld_o (p : Value) (v1 : Value) (o : Option O_Bld) : RP := match o with | none => RP.is (p = .pointer none) | some s => Bld_h p v1 s
def Bld_e (p : Value) (o : Option O_Bld) : RP := RP.ex fun v1 => Bld_o p v1 o
theorem Bld_packo {p : Value} {v1 : Value} {o : Option O_Bld} : RP.le (Bld_o p v1 o) (Bld_e p o) := fun _ _ _ q => ⟨v1, q⟩
theorem Bld_nil : ∀ Φ w, PubOk Φ w → (Bld_e (.pointer none) none).p Φ [] w := fun _ _ _ => ⟨.pointer none, rfl, rfl⟩
theorem Bld_lp {p : Value} {v1 : Value} {s : O_Bld} : ∀ Φ f w, (Bld_h p v1 s).p Φ f w → ∃ b, p = .pointer (some ⟨b, 0, none⟩) := fun _ _ _ ⟨_, _, _, ⟨b, _, h, _⟩, _⟩ => ⟨b, h⟩
theorem Bld_new {p : Value} : RP.le (lb p 121 [one (eqVP (.pointer none)), one (eqVP (.slice none 0 0))]) (Bld_e p (some ⟨[]⟩)) := by
  rintro Φ f w ⟨b, cs, hp, hf, hb, ⟨c1, c2, rfl, ⟨q, rfl, h1, h2⟩, d1, d2, rfl, ⟨x, rfl, g1, g2⟩, hd⟩, hn⟩
  exact ⟨.slice none 0 0, f, [], by simp, ⟨b, _, hp, hf, hb, ⟨[q], _, rfl, ⟨q, rfl, h1, .inl h2, b, hp⟩, [x], d2, rfl, ⟨x, rfl, g1, g2⟩, hd⟩, hn⟩, by simp [mxl], .inl ⟨rfl, rfl, rfl⟩⟩
structure O_Log where
  f_inputs : List ((List UInt8) × (List UInt8))
  f_others : List ((List UInt8) × Bool)
def Log_h (p : Value) (v0 : Value) (v1 : Value) (s : O_Log) : RP := RP.sep (lb p 163 [one (eqVP v0), one (eqVP v1)]) (RP.sep (mapR v0 arrK (fun l => l.length = 32) (fun u y => RP.val (strVP y) u) s.f_inputs) (mapR v1 strK (fun _ => True) (fun u y => RP.val (boolVP y) u) s.f_others))
def Log_o (p : Value) (v0 : Value) (v1 : Value) (o : Option O_Log) : RP := match o with | none => RP.is (p = .pointer none) | some s => Log_h p v0 v1 s
def Log_e (p : Value) (o : Option O_Log) : RP := RP.ex fun v0 => RP.ex fun v1 => Log_o p v0 v1 o
theorem Log_packo {p : Value} {v0 : Value} {v1 : Value} {o : Option O_Log} : RP.le (Log_o p v0 v1 o) (Log_e p o) := fun _ _ _ q => ⟨v0, v1, q⟩
theorem Log_nil : ∀ Φ w, PubOk Φ w → (Log_e (.pointer none) none).p Φ [] w := fun _ _ _ => ⟨.pointer none, .pointer none, rfl, rfl⟩
theorem Log_lp {p : Value} {v0 : Value} {v1 : Value} {s : O_Log} : ∀ Φ f w, (Log_h p v0 v1 s).p Φ f w → ∃ b, p = .pointer (some ⟨b, 0, none⟩) := fun _ _ _ ⟨_, _, _, ⟨b, _, h, _⟩, _⟩ => ⟨b, h⟩
structure O_RLog where
  f_Inputs : List (List UInt8)
  f_Digests : List ((List UInt8) × (List (List UInt8)))
def RLog_h (p : Value) (v0 : Value) (v1 : Value) (s : O_RLog) : RP := RP.sep (lb p 134 [one (eqVP v0), one (eqVP v1)]) (RP.sep (acc v0 9 1 strC s.f_Inputs) (mapR v1 arrK (fun l => l.length = 32) (fun u y => acc u 9 1 strC y) s.f_Digests))
def RLog_o (p : Value) (v0 : Value) (v1 : Value) (o : Option O_RLog) : RP := match o with | none => RP.is (p = .pointer none) | some s => RLog_h p v0 v1 s
def RLog_e (p : Value) (o : Option O_RLog) : RP := RP.ex fun v0 => RP.ex fun v1 => RLog_o p v0 v1 o
theorem RLog_packo {p : Value} {v0 : Value} {v1 : Value} {o : Option O_RLog} : RP.le (RLog_o p v0 v1 o) (RLog_e p o) := fun _ _ _ q => ⟨v0, v1, q⟩
theorem RLog_nil : ∀ Φ w, PubOk Φ w → (RLog_e (.pointer none) none).p Φ [] w := fun _ _ _ => ⟨.pointer none, .pointer none, rfl, rfl⟩
theorem RLog_lp {p : Value} {v0 : Value} {v1 : Value} {s : O_RLog} : ∀ Φ f w, (RLog_h p v0 v1 s).p Φ f w → ∃ b, p = .pointer (some ⟨b, 0, none⟩) := fun _ _ _ ⟨_, _, _, ⟨b, _, h, _⟩, _⟩ => ⟨b, h⟩
structure O_Rdr where
  f_s : List UInt8
  f_e : Int
def Rdr_h (p : Value) (s : O_Rdr) : RP := (lb p 168 [one (strVP s.f_s), one (intVP .i64 s.f_e)])
def Rdr_o (p : Value) (o : Option O_Rdr) : RP := match o with | none => RP.is (p = .pointer none) | some s => Rdr_h p s
def Rdr_e (p : Value) (o : Option O_Rdr) : RP := Rdr_o p o
theorem Rdr_packo {p : Value} {o : Option O_Rdr} : RP.le (Rdr_o p o) (Rdr_e p o) := fun _ _ _ q => q
theorem Rdr_nil : ∀ Φ w, PubOk Φ w → (Rdr_e (.pointer none) none).p Φ [] w := fun _ _ _ => ⟨rfl, rfl⟩
theorem Rdr_lp {p : Value} {s : O_Rdr} : ∀ Φ f w, (Rdr_h p s).p Φ f w → ∃ b, p = .pointer (some ⟨b, 0, none⟩) := fun _ _ _ ⟨b, _, h, _⟩ => ⟨b, h⟩
def Sgn_h (p : Value) (v2 : Value) (s : S_keys_Signer) : RP := RP.sep (lb p 29 [bytesCk 32 s.f_Seed, one (intVP .i64 s.f_Next), one (eqVP v2)]) (acc v2 23 32 (dC 32) s.f_Leaves)
def Sgn_o (p : Value) (v2 : Value) (o : Option S_keys_Signer) : RP := match o with | none => RP.is (p = .pointer none) | some s => Sgn_h p v2 s
def Sgn_e (p : Value) (o : Option S_keys_Signer) : RP := RP.ex fun v2 => Sgn_o p v2 o
theorem Sgn_packo {p : Value} {v2 : Value} {o : Option S_keys_Signer} : RP.le (Sgn_o p v2 o) (Sgn_e p o) := fun _ _ _ q => ⟨v2, q⟩
theorem Sgn_nil : ∀ Φ w, PubOk Φ w → (Sgn_e (.pointer none) none).p Φ [] w := fun _ _ _ => ⟨.pointer none, rfl, rfl⟩
theorem Sgn_lp {p : Value} {v2 : Value} {s : S_keys_Signer} : ∀ Φ f w, (Sgn_h p v2 s).p Φ f w → ∃ b, p = .pointer (some ⟨b, 0, none⟩) := fun _ _ _ ⟨_, _, _, ⟨b, _, h, _⟩, _⟩ => ⟨b, h⟩
structure O_SnC where
  f_v : List (S_api_Update)
def SnC_h (p : Value) (v0 : Value) (s : O_SnC) : RP := RP.sep (lb p 40 [one (eqVP v0)]) (acc v0 48 69 S_api_Update.ck s.f_v)
def SnC_o (p : Value) (v0 : Value) (o : Option O_SnC) : RP := match o with | none => RP.is (p = .pointer none) | some s => SnC_h p v0 s
def SnC_e (p : Value) (o : Option O_SnC) : RP := RP.ex fun v0 => SnC_o p v0 o
theorem SnC_packo {p : Value} {v0 : Value} {o : Option O_SnC} : RP.le (SnC_o p v0 o) (SnC_e p o) := fun _ _ _ q => ⟨v0, q⟩
theorem SnC_nil : ∀ Φ w, PubOk Φ w → (SnC_e (.pointer none) none).p Φ [] w := fun _ _ _ => ⟨.pointer none, rfl, rfl⟩
theorem SnC_lp {p : Value} {v0 : Value} {s : O_SnC} : ∀ Φ f w, (SnC_h p v0 s).p Φ f w → ∃ b, p = .pointer (some ⟨b, 0, none⟩) := fun _ _ _ ⟨_, _, _, ⟨b, _, h, _⟩, _⟩ => ⟨b, h⟩
def AtC_h (p : Value) (s : S_api_Replica) : RP := (lb p 36 [one (intVP .u32 s.f_Chain), one (intVP .u32 s.f_Here), bytesCk 32 s.f_Updater, one (slVP (dC 32) s.f_Watchers), one (intVP .u64 s.f_Window), bytesCk 32 s.f_Committed, one (slVP S_api_Timed.ck s.f_Roots), one (slVP S_api_State.ck s.f_States), one (boolVP s.f_Failed), one (boolVP s.f_Cut)])
def AtC_o (p : Value) (o : Option S_api_Replica) : RP := match o with | none => RP.is (p = .pointer none) | some s => AtC_h p s
def AtC_e (p : Value) (o : Option S_api_Replica) : RP := AtC_o p o
theorem AtC_packo {p : Value} {o : Option S_api_Replica} : RP.le (AtC_o p o) (AtC_e p o) := fun _ _ _ q => q
theorem AtC_nil : ∀ Φ w, PubOk Φ w → (AtC_e (.pointer none) none).p Φ [] w := fun _ _ _ => ⟨rfl, rfl⟩
theorem AtC_lp {p : Value} {s : S_api_Replica} : ∀ Φ f w, (AtC_h p s).p Φ f w → ∃ b, p = .pointer (some ⟨b, 0, none⟩) := fun _ _ _ ⟨b, _, h, _⟩ => ⟨b, h⟩
def gFirst : List Int := [1779033703, 3144134277, 1013904242, 2773480762, 1359893119, 2600822924, 528734635, 1541459225]
def gConst : List Int := [1116352408, 1899447441, 3049323471, 3921009573, 961987163, 1508970993, 2453635748, 2870763221, 3624381080, 310598401, 607225278, 1426881987, 1925078388, 2162078206, 2614888103, 3248222580, 3835390401, 4022224774, 264347078, 604807628, 770255983, 1249150122, 1555081692, 1996064986, 2554220882, 2821834349, 2952996808, 3210313671, 3336571891, 3584528711, 113926993, 338241895, 666307205, 773529912, 1294757372, 1396182291, 1695183700, 1986661051, 2177026350, 2456956037, 2730485921, 2820302411, 3259730800, 3345764771, 3516065817, 3600352804, 4094571909, 275423344, 430227734, 506948616, 659060556, 883997877, 958139571, 1322822218, 1537002063, 1747873779, 1955562222, 2024104815, 2227730452, 2361852424, 2428436474, 2756734187, 3204031479, 3329325298]
def KG : FP := ⟨fun Φ => (ppVP [intsCk .u32 8 gFirst]).p Φ (.pointer (some ⟨0, 0, none⟩)) ∧ (ppVP [intsCk .u32 64 gConst]).p Φ (.pointer (some ⟨1, 0, none⟩)), fun hle h => ⟨(ppVP _).mono hle h.1, (ppVP _).mono hle h.2⟩⟩
set_option maxHeartbeats 1000000 in
set_option maxRecDepth 100000 in
theorem copyFresh (b : Nat) (w : World) (h0 : w.cell? ⟨b, 0, none⟩ = some (.pointer none)) (hsh : w.shape? b = some (121, 2)) (hfz : w.frozen? ⟨b, 0, none⟩ = false) :
    Calls Tryz.prog 78 #[.pointer (some ⟨b, 0, none⟩)] w fun e w' => e = .returned (.tuple #[]) ∧ w' = w.setCell ⟨b, 0, none⟩ (.pointer (some ⟨b, 0, none⟩)) := by
  have hsz : (Tryz.prog.info? 121).map (·.size) = some 2 := by kernel_rfl
  have hlies : liesAt Tryz.prog Tryz.prog.depth 121 (2 / Tryz.prog.cellsOf 121) 0 121 1 = true := by kernel_rfl
  obtain ⟨j, hj, hjs⟩ := Option.map_eq_some_iff.1 hsz
  have mixed : Tryz.prog.follows .mixedOrders = true := by kernel_rfl
  go_enter Tryz.func78, Tryz.ntmps78
  go_wp2
  rw [Lib.run_to_unsafe w ⟨b, 0, none⟩ Tryz.underlying118 Tryz.underlying171 hj (by rw [hjs]; decide) hsh (Nat.zero_lt_succ 1)]
  simp only [Result.andThen]
  rw [Oper.upon_value]
  go_wp2
  rw [run_callFunc_extern Tryz.func91 (by kernel_rfl) (by kernel_rfl) (by kernel_rfl) (e := Extern.AbiNoEscape.same) (by kernel_rfl)]
  rw [Lib.run_noEscape]
  simp only [Result.andThen]
  rw [Oper.upon_value]
  go_wp2
  rw [Lib.run_from_unsafe w ⟨b, 0, none⟩ Tryz.underlying171 Tryz.underlying118 hj hsh hlies]
  simp only [Result.andThen]
  rw [Oper.upon_value]
  go_wp2
  go_end0
  exact ⟨rfl, rfl⟩
set_option maxHeartbeats 1000000 in
set_option maxRecDepth 100000 in
theorem copyUsed (b : Nat) (w : World) (h0 : w.cell? ⟨b, 0, none⟩ = some (.pointer (some ⟨b, 0, none⟩))) :
    Calls Tryz.prog 78 #[.pointer (some ⟨b, 0, none⟩)] w fun e w' => e = .returned (.tuple #[]) ∧ w' = w := by
  have hsz : (Tryz.prog.info? 121).map (·.size) = some 2 := by kernel_rfl
  obtain ⟨j, hj, _⟩ := Option.map_eq_some_iff.1 hsz
  have mixed : Tryz.prog.follows .mixedOrders = true := by kernel_rfl
  go_enter Tryz.func78, Tryz.ntmps78
  go_wp2
  rw [Lib.run_neq_ptr_same w _ Tryz.underlying118 hj]
  go_wp2
  go_end0
  exact ⟨rfl, rfl⟩
theorem copyCheck_ok {p v : Value} : CallOk Tryz.prog KG 78 [eqVP p] [lb p 121 [one (selfVP p), one (eqVP v)]] (fun _ => [lb p 121 [one (selfVP p), one (eqVP v)]]) (tupVP []) := copyCheck_of copyFresh copyUsed

theorem add64_run (a b c : Int) (w : World) (ha : 0 ≤ a) (hb : 0 ≤ b) (hc : 0 ≤ c) (h1 : c ≤ 1) : (callFunc 53 #[.int .u64 a, .int .u64 b, .int .u64 c]).run Tryz.prog w = .ok (.value (.tuple #[.int .u64 ((a + b + c) % 18446744073709551616), .int .u64 ((a + b + c) / 18446744073709551616)])) w := by
  rw [run_callFunc_extern Tryz.func53 (by kernel_rfl) (by kernel_rfl) (by kernel_rfl) (e := add64Entry) (by kernel_rfl), run_add64 a b c ha hb hc h1]
  rfl

end Go.Proofs.YtklikgigjdgjaaaGreatDoorRRR
