/- The functions' Lean twins and contracts, printed by this session's own program. -/
import Derived.Test.YtamnmljgcmbliaaDoorA21
import Derived.Test.YtamnmljgcmbliaaDoorA23
import Derived.Test.YtamnmljgcmbliaaDoorA34
import Derived.Test.YtamnmljgcmbliaaDoorK1
import Derived.Test.YtamnmljgcmbliaaDoorProg
import Derived.Shelf.Strings.Builder1
import Derived.Lib.Repeat
namespace Go.Proofs.YtamnmljgcmbliaaDoor
open Go Go.RowKit Go.Proofs
set_option maxRecDepth 100000
set_option linter.unusedVariables false
theorem mixed : Tryd.prog.follows .mixedOrders = true := by kernel_rfl
structure S_sha_State where
  f_Words : List Int
  f_Rest : List UInt8
  f_Count : Int
instance : Inhabited S_sha_State := ⟨(S_sha_State.mk (List.replicate 8 0) [] (0 : Int))⟩
def S_sha_State.ck (x : S_sha_State) : List Ck := [intsCk .u32 8 x.f_Words, one (strVP x.f_Rest), one (intVP .u64 x.f_Count)]
theorem S_sha_State.lens (x : S_sha_State) : lens (S_sha_State.ck x) = 10 := rfl
structure S_keys_Signer where
  f_Seed : List UInt8
  f_Next : Int
  f_Leaves : List (List UInt8)
instance : Inhabited S_keys_Signer := ⟨(S_keys_Signer.mk (List.replicate 32 0) (0 : Int) [])⟩
def S_keys_Signer.ck (x : S_keys_Signer) : List Ck := [bytesCk 32 x.f_Seed, one (intVP .i64 x.f_Next), one (slVP (dC 32) x.f_Leaves)]
theorem S_keys_Signer.lens (x : S_keys_Signer) : lens (S_keys_Signer.ck x) = 34 := rfl
structure S_api_Sig where
  f_Index : Int
  f_Parts : List (List UInt8)
  f_Others : List (List UInt8)
  f_Path : List (List UInt8)
instance : Inhabited S_api_Sig := ⟨(S_api_Sig.mk (0 : Int) [] [] [])⟩
def S_api_Sig.ck (x : S_api_Sig) : List Ck := [one (intVP .i64 x.f_Index), one (slVP (dC 32) x.f_Parts), one (slVP (dC 32) x.f_Others), one (slVP (dC 32) x.f_Path)]
theorem S_api_Sig.lens (x : S_api_Sig) : lens (S_api_Sig.ck x) = 4 := rfl
structure S_api_Update where
  f_Home : Int
  f_Old : List UInt8
  f_New : List UInt8
  f_Sig : S_api_Sig
instance : Inhabited S_api_Update := ⟨(S_api_Update.mk (0 : Int) (List.replicate 32 0) (List.replicate 32 0) (S_api_Sig.mk (0 : Int) [] [] []))⟩
def S_api_Update.ck (x : S_api_Update) : List Ck := [one (intVP .u32 x.f_Home), bytesCk 32 x.f_Old, bytesCk 32 x.f_New, one (intVP .i64 x.f_Sig.f_Index), one (slVP (dC 32) x.f_Sig.f_Parts), one (slVP (dC 32) x.f_Sig.f_Others), one (slVP (dC 32) x.f_Sig.f_Path)]
theorem S_api_Update.lens (x : S_api_Update) : lens (S_api_Update.ck x) = 69 := rfl
structure S_ref06_Signer where
  f_Seed : List UInt8
  f_Next : Int
  f_Leaves : List (List UInt8)
instance : Inhabited S_ref06_Signer := ⟨(S_ref06_Signer.mk (List.replicate 32 0) (0 : Int) [])⟩
def S_ref06_Signer.ck (x : S_ref06_Signer) : List Ck := [bytesCk 32 x.f_Seed, one (intVP .i64 x.f_Next), one (slVP (dC 32) x.f_Leaves)]
theorem S_ref06_Signer.lens (x : S_ref06_Signer) : lens (S_ref06_Signer.ck x) = 34 := rfl
structure S_api_Stop where
  f_Home : Int
  f_Key : List UInt8
  f_Watcher : Int
  f_Sig : S_api_Sig
instance : Inhabited S_api_Stop := ⟨(S_api_Stop.mk (0 : Int) (List.replicate 32 0) (0 : Int) (S_api_Sig.mk (0 : Int) [] [] []))⟩
def S_api_Stop.ck (x : S_api_Stop) : List Ck := [one (intVP .u32 x.f_Home), bytesCk 32 x.f_Key, one (intVP .i64 x.f_Watcher), one (intVP .i64 x.f_Sig.f_Index), one (slVP (dC 32) x.f_Sig.f_Parts), one (slVP (dC 32) x.f_Sig.f_Others), one (slVP (dC 32) x.f_Sig.f_Path)]
theorem S_api_Stop.lens (x : S_api_Stop) : lens (S_api_Stop.ck x) = 38 := rfl
theorem z23 : ∀ Φ, Lrel Φ (Value.agg #[.int .u8 0, .int .u8 0, .int .u8 0, .int .u8 0, .int .u8 0, .int .u8 0, .int .u8 0, .int .u8 0, .int .u8 0, .int .u8 0, .int .u8 0, .int .u8 0, .int .u8 0, .int .u8 0, .int .u8 0, .int .u8 0, .int .u8 0, .int .u8 0, .int .u8 0, .int .u8 0, .int .u8 0, .int .u8 0, .int .u8 0, .int .u8 0, .int .u8 0, .int .u8 0, .int .u8 0, .int .u8 0, .int .u8 0, .int .u8 0, .int .u8 0, .int .u8 0]).cells.toList [bytesCk 32 (List.replicate 32 0)] := fun _ => ⟨[.int .u8 0, .int .u8 0, .int .u8 0, .int .u8 0, .int .u8 0, .int .u8 0, .int .u8 0, .int .u8 0, .int .u8 0, .int .u8 0, .int .u8 0, .int .u8 0, .int .u8 0, .int .u8 0, .int .u8 0, .int .u8 0, .int .u8 0, .int .u8 0, .int .u8 0, .int .u8 0, .int .u8 0, .int .u8 0, .int .u8 0, .int .u8 0, .int .u8 0, .int .u8 0, .int .u8 0, .int .u8 0, .int .u8 0, .int .u8 0, .int .u8 0, .int .u8 0], _, rfl, ⟨rfl, rfl⟩, rfl⟩
theorem z27 : ∀ Φ, Lrel Φ (Value.agg #[.int .u8 0, .int .u8 0, .int .u8 0, .int .u8 0, .int .u8 0, .int .u8 0, .int .u8 0, .int .u8 0, .int .u8 0, .int .u8 0, .int .u8 0, .int .u8 0, .int .u8 0, .int .u8 0, .int .u8 0, .int .u8 0, .int .u8 0, .int .u8 0, .int .u8 0, .int .u8 0, .int .u8 0, .int .u8 0, .int .u8 0, .int .u8 0, .int .u8 0, .int .u8 0, .int .u8 0, .int .u8 0, .int .u8 0, .int .u8 0, .int .u8 0, .int .u8 0, .int .i64 0, .slice none 0 0]).cells.toList [bytesCk 32 ((S_keys_Signer.mk (List.replicate 32 0) (0 : Int) []).f_Seed), one (intVP .i64 ((S_keys_Signer.mk (List.replicate 32 0) (0 : Int) []).f_Next)), one (slVP (dC 32) ((S_keys_Signer.mk (List.replicate 32 0) (0 : Int) []).f_Leaves))] := fun _ => ⟨[.int .u8 0, .int .u8 0, .int .u8 0, .int .u8 0, .int .u8 0, .int .u8 0, .int .u8 0, .int .u8 0, .int .u8 0, .int .u8 0, .int .u8 0, .int .u8 0, .int .u8 0, .int .u8 0, .int .u8 0, .int .u8 0, .int .u8 0, .int .u8 0, .int .u8 0, .int .u8 0, .int .u8 0, .int .u8 0, .int .u8 0, .int .u8 0, .int .u8 0, .int .u8 0, .int .u8 0, .int .u8 0, .int .u8 0, .int .u8 0, .int .u8 0, .int .u8 0], _, rfl, ⟨rfl, rfl⟩, ⟨[.int .i64 0], _, rfl, ⟨_, rfl, rfl, rfl, by decide⟩, ⟨[.slice none 0 0], _, rfl, ⟨_, rfl, rfl, by decide, .inl ⟨rfl, rfl⟩⟩, rfl⟩⟩⟩
theorem z31 : ∀ Φ, Lrel Φ (Value.agg #[.int .i64 0, .slice none 0 0, .slice none 0 0, .slice none 0 0]).cells.toList [one (intVP .i64 ((S_api_Sig.mk (0 : Int) [] [] []).f_Index)), one (slVP (dC 32) ((S_api_Sig.mk (0 : Int) [] [] []).f_Parts)), one (slVP (dC 32) ((S_api_Sig.mk (0 : Int) [] [] []).f_Others)), one (slVP (dC 32) ((S_api_Sig.mk (0 : Int) [] [] []).f_Path))] := fun _ => ⟨[.int .i64 0], _, rfl, ⟨_, rfl, rfl, rfl, by decide⟩, ⟨[.slice none 0 0], _, rfl, ⟨_, rfl, rfl, by decide, .inl ⟨rfl, rfl⟩⟩, ⟨[.slice none 0 0], _, rfl, ⟨_, rfl, rfl, by decide, .inl ⟨rfl, rfl⟩⟩, ⟨[.slice none 0 0], _, rfl, ⟨_, rfl, rfl, by decide, .inl ⟨rfl, rfl⟩⟩, rfl⟩⟩⟩⟩
theorem z36 : ∀ Φ, Lrel Φ (Value.agg #[.int .u8 0, .int .u8 0, .int .u8 0, .int .u8 0, .int .u8 0, .int .u8 0, .int .u8 0, .int .u8 0, .int .u8 0, .int .u8 0, .int .u8 0, .int .u8 0, .int .u8 0, .int .u8 0, .int .u8 0, .int .u8 0, .int .u8 0, .int .u8 0, .int .u8 0, .int .u8 0, .int .u8 0, .int .u8 0, .int .u8 0, .int .u8 0, .int .u8 0, .int .u8 0, .int .u8 0, .int .u8 0, .int .u8 0, .int .u8 0, .int .u8 0, .int .u8 0, .int .i64 0, .slice none 0 0]).cells.toList [bytesCk 32 ((S_ref06_Signer.mk (List.replicate 32 0) (0 : Int) []).f_Seed), one (intVP .i64 ((S_ref06_Signer.mk (List.replicate 32 0) (0 : Int) []).f_Next)), one (slVP (dC 32) ((S_ref06_Signer.mk (List.replicate 32 0) (0 : Int) []).f_Leaves))] := fun _ => ⟨[.int .u8 0, .int .u8 0, .int .u8 0, .int .u8 0, .int .u8 0, .int .u8 0, .int .u8 0, .int .u8 0, .int .u8 0, .int .u8 0, .int .u8 0, .int .u8 0, .int .u8 0, .int .u8 0, .int .u8 0, .int .u8 0, .int .u8 0, .int .u8 0, .int .u8 0, .int .u8 0, .int .u8 0, .int .u8 0, .int .u8 0, .int .u8 0, .int .u8 0, .int .u8 0, .int .u8 0, .int .u8 0, .int .u8 0, .int .u8 0, .int .u8 0, .int .u8 0], _, rfl, ⟨rfl, rfl⟩, ⟨[.int .i64 0], _, rfl, ⟨_, rfl, rfl, rfl, by decide⟩, ⟨[.slice none 0 0], _, rfl, ⟨_, rfl, rfl, by decide, .inl ⟨rfl, rfl⟩⟩, rfl⟩⟩⟩
theorem z53 : ∀ Φ, Lrel Φ (Value.agg #[.int .u32 0, .int .u8 0, .int .u8 0, .int .u8 0, .int .u8 0, .int .u8 0, .int .u8 0, .int .u8 0, .int .u8 0, .int .u8 0, .int .u8 0, .int .u8 0, .int .u8 0, .int .u8 0, .int .u8 0, .int .u8 0, .int .u8 0, .int .u8 0, .int .u8 0, .int .u8 0, .int .u8 0, .int .u8 0, .int .u8 0, .int .u8 0, .int .u8 0, .int .u8 0, .int .u8 0, .int .u8 0, .int .u8 0, .int .u8 0, .int .u8 0, .int .u8 0, .int .u8 0, .int .u8 0, .int .u8 0, .int .u8 0, .int .u8 0, .int .u8 0, .int .u8 0, .int .u8 0, .int .u8 0, .int .u8 0, .int .u8 0, .int .u8 0, .int .u8 0, .int .u8 0, .int .u8 0, .int .u8 0, .int .u8 0, .int .u8 0, .int .u8 0, .int .u8 0, .int .u8 0, .int .u8 0, .int .u8 0, .int .u8 0, .int .u8 0, .int .u8 0, .int .u8 0, .int .u8 0, .int .u8 0, .int .u8 0, .int .u8 0, .int .u8 0, .int .u8 0, .int .i64 0, .slice none 0 0, .slice none 0 0, .slice none 0 0]).cells.toList [one (intVP .u32 ((S_api_Update.mk (0 : Int) (List.replicate 32 0) (List.replicate 32 0) (S_api_Sig.mk (0 : Int) [] [] [])).f_Home)), bytesCk 32 ((S_api_Update.mk (0 : Int) (List.replicate 32 0) (List.replicate 32 0) (S_api_Sig.mk (0 : Int) [] [] [])).f_Old), bytesCk 32 ((S_api_Update.mk (0 : Int) (List.replicate 32 0) (List.replicate 32 0) (S_api_Sig.mk (0 : Int) [] [] [])).f_New), one (intVP .i64 (((S_api_Update.mk (0 : Int) (List.replicate 32 0) (List.replicate 32 0) (S_api_Sig.mk (0 : Int) [] [] [])).f_Sig).f_Index)), one (slVP (dC 32) (((S_api_Update.mk (0 : Int) (List.replicate 32 0) (List.replicate 32 0) (S_api_Sig.mk (0 : Int) [] [] [])).f_Sig).f_Parts)), one (slVP (dC 32) (((S_api_Update.mk (0 : Int) (List.replicate 32 0) (List.replicate 32 0) (S_api_Sig.mk (0 : Int) [] [] [])).f_Sig).f_Others)), one (slVP (dC 32) (((S_api_Update.mk (0 : Int) (List.replicate 32 0) (List.replicate 32 0) (S_api_Sig.mk (0 : Int) [] [] [])).f_Sig).f_Path))] := fun _ => ⟨[.int .u32 0], _, rfl, ⟨_, rfl, rfl, rfl, by decide⟩, ⟨[.int .u8 0, .int .u8 0, .int .u8 0, .int .u8 0, .int .u8 0, .int .u8 0, .int .u8 0, .int .u8 0, .int .u8 0, .int .u8 0, .int .u8 0, .int .u8 0, .int .u8 0, .int .u8 0, .int .u8 0, .int .u8 0, .int .u8 0, .int .u8 0, .int .u8 0, .int .u8 0, .int .u8 0, .int .u8 0, .int .u8 0, .int .u8 0, .int .u8 0, .int .u8 0, .int .u8 0, .int .u8 0, .int .u8 0, .int .u8 0, .int .u8 0, .int .u8 0], _, rfl, ⟨rfl, rfl⟩, ⟨[.int .u8 0, .int .u8 0, .int .u8 0, .int .u8 0, .int .u8 0, .int .u8 0, .int .u8 0, .int .u8 0, .int .u8 0, .int .u8 0, .int .u8 0, .int .u8 0, .int .u8 0, .int .u8 0, .int .u8 0, .int .u8 0, .int .u8 0, .int .u8 0, .int .u8 0, .int .u8 0, .int .u8 0, .int .u8 0, .int .u8 0, .int .u8 0, .int .u8 0, .int .u8 0, .int .u8 0, .int .u8 0, .int .u8 0, .int .u8 0, .int .u8 0, .int .u8 0], _, rfl, ⟨rfl, rfl⟩, ⟨[.int .i64 0], _, rfl, ⟨_, rfl, rfl, rfl, by decide⟩, ⟨[.slice none 0 0], _, rfl, ⟨_, rfl, rfl, by decide, .inl ⟨rfl, rfl⟩⟩, ⟨[.slice none 0 0], _, rfl, ⟨_, rfl, rfl, by decide, .inl ⟨rfl, rfl⟩⟩, ⟨[.slice none 0 0], _, rfl, ⟨_, rfl, rfl, by decide, .inl ⟨rfl, rfl⟩⟩, rfl⟩⟩⟩⟩⟩⟩⟩
theorem z74 : ∀ Φ, Lrel Φ (Value.agg #[.int .u32 0, .int .u8 0, .int .u8 0, .int .u8 0, .int .u8 0, .int .u8 0, .int .u8 0, .int .u8 0, .int .u8 0, .int .u8 0, .int .u8 0, .int .u8 0, .int .u8 0, .int .u8 0, .int .u8 0, .int .u8 0, .int .u8 0, .int .u8 0, .int .u8 0, .int .u8 0, .int .u8 0, .int .u8 0, .int .u8 0, .int .u8 0, .int .u8 0, .int .u8 0, .int .u8 0, .int .u8 0, .int .u8 0, .int .u8 0, .int .u8 0, .int .u8 0, .int .u8 0, .int .i64 0, .int .i64 0, .slice none 0 0, .slice none 0 0, .slice none 0 0]).cells.toList [one (intVP .u32 ((S_api_Stop.mk (0 : Int) (List.replicate 32 0) (0 : Int) (S_api_Sig.mk (0 : Int) [] [] [])).f_Home)), bytesCk 32 ((S_api_Stop.mk (0 : Int) (List.replicate 32 0) (0 : Int) (S_api_Sig.mk (0 : Int) [] [] [])).f_Key), one (intVP .i64 ((S_api_Stop.mk (0 : Int) (List.replicate 32 0) (0 : Int) (S_api_Sig.mk (0 : Int) [] [] [])).f_Watcher)), one (intVP .i64 (((S_api_Stop.mk (0 : Int) (List.replicate 32 0) (0 : Int) (S_api_Sig.mk (0 : Int) [] [] [])).f_Sig).f_Index)), one (slVP (dC 32) (((S_api_Stop.mk (0 : Int) (List.replicate 32 0) (0 : Int) (S_api_Sig.mk (0 : Int) [] [] [])).f_Sig).f_Parts)), one (slVP (dC 32) (((S_api_Stop.mk (0 : Int) (List.replicate 32 0) (0 : Int) (S_api_Sig.mk (0 : Int) [] [] [])).f_Sig).f_Others)), one (slVP (dC 32) (((S_api_Stop.mk (0 : Int) (List.replicate 32 0) (0 : Int) (S_api_Sig.mk (0 : Int) [] [] [])).f_Sig).f_Path))] := fun _ => ⟨[.int .u32 0], _, rfl, ⟨_, rfl, rfl, rfl, by decide⟩, ⟨[.int .u8 0, .int .u8 0, .int .u8 0, .int .u8 0, .int .u8 0, .int .u8 0, .int .u8 0, .int .u8 0, .int .u8 0, .int .u8 0, .int .u8 0, .int .u8 0, .int .u8 0, .int .u8 0, .int .u8 0, .int .u8 0, .int .u8 0, .int .u8 0, .int .u8 0, .int .u8 0, .int .u8 0, .int .u8 0, .int .u8 0, .int .u8 0, .int .u8 0, .int .u8 0, .int .u8 0, .int .u8 0, .int .u8 0, .int .u8 0, .int .u8 0, .int .u8 0], _, rfl, ⟨rfl, rfl⟩, ⟨[.int .i64 0], _, rfl, ⟨_, rfl, rfl, rfl, by decide⟩, ⟨[.int .i64 0], _, rfl, ⟨_, rfl, rfl, rfl, by decide⟩, ⟨[.slice none 0 0], _, rfl, ⟨_, rfl, rfl, by decide, .inl ⟨rfl, rfl⟩⟩, ⟨[.slice none 0 0], _, rfl, ⟨_, rfl, rfl, by decide, .inl ⟨rfl, rfl⟩⟩, ⟨[.slice none 0 0], _, rfl, ⟨_, rfl, rfl, by decide, .inl ⟨rfl, rfl⟩⟩, rfl⟩⟩⟩⟩⟩⟩⟩
theorem z122 : ∀ Φ, Lrel Φ (Value.agg Tryd.zeroCells122).cells.toList [arrCk 64 32 (dC 32) (lens_dC 32) (List.replicate 64 (List.replicate 32 0))] := zarr1 (zs := [.int .u8 0, .int .u8 0, .int .u8 0, .int .u8 0, .int .u8 0, .int .u8 0, .int .u8 0, .int .u8 0, .int .u8 0, .int .u8 0, .int .u8 0, .int .u8 0, .int .u8 0, .int .u8 0, .int .u8 0, .int .u8 0, .int .u8 0, .int .u8 0, .int .u8 0, .int .u8 0, .int .u8 0, .int .u8 0, .int .u8 0, .int .u8 0, .int .u8 0, .int .u8 0, .int .u8 0, .int .u8 0, .int .u8 0, .int .u8 0, .int .u8 0, .int .u8 0]) (by kernel_rfl) (fun _ => ⟨[.int .u8 0, .int .u8 0, .int .u8 0, .int .u8 0, .int .u8 0, .int .u8 0, .int .u8 0, .int .u8 0, .int .u8 0, .int .u8 0, .int .u8 0, .int .u8 0, .int .u8 0, .int .u8 0, .int .u8 0, .int .u8 0, .int .u8 0, .int .u8 0, .int .u8 0, .int .u8 0, .int .u8 0, .int .u8 0, .int .u8 0, .int .u8 0, .int .u8 0, .int .u8 0, .int .u8 0, .int .u8 0, .int .u8 0, .int .u8 0, .int .u8 0, .int .u8 0], _, rfl, ⟨rfl, rfl⟩, rfl⟩)
theorem z135 : ∀ Φ, Lrel Φ (Value.agg #[.int .u8 0, .int .u8 0, .int .u8 0, .int .u8 0, .int .u8 0, .int .u8 0, .int .u8 0, .int .u8 0]).cells.toList [bytesCk 8 (List.replicate 8 0)] := fun _ => ⟨[.int .u8 0, .int .u8 0, .int .u8 0, .int .u8 0, .int .u8 0, .int .u8 0, .int .u8 0, .int .u8 0], _, rfl, ⟨rfl, rfl⟩, rfl⟩
theorem z150 : ∀ Φ, Lrel Φ (Value.agg #[.int .u32 0, .int .u32 0, .int .u32 0, .int .u32 0, .int .u32 0, .int .u32 0, .int .u32 0, .int .u32 0]).cells.toList [intsCk .u32 8 (List.replicate 8 0)] := fun _ => ⟨[.int .u32 0, .int .u32 0, .int .u32 0, .int .u32 0, .int .u32 0, .int .u32 0, .int .u32 0, .int .u32 0], _, rfl, ⟨rfl, rfl, by decide⟩, rfl⟩
theorem z158 : ∀ Φ, Lrel Φ (Value.agg #[.int .u32 0, .int .u32 0, .int .u32 0, .int .u32 0, .int .u32 0, .int .u32 0, .int .u32 0, .int .u32 0, .string ⟨#[]⟩, .int .u64 0]).cells.toList [intsCk .u32 8 ((S_sha_State.mk (List.replicate 8 0) [] (0 : Int)).f_Words), one (strVP ((S_sha_State.mk (List.replicate 8 0) [] (0 : Int)).f_Rest)), one (intVP .u64 ((S_sha_State.mk (List.replicate 8 0) [] (0 : Int)).f_Count))] := fun _ => ⟨[.int .u32 0, .int .u32 0, .int .u32 0, .int .u32 0, .int .u32 0, .int .u32 0, .int .u32 0, .int .u32 0], _, rfl, ⟨rfl, rfl, by decide⟩, ⟨[.string ⟨#[]⟩], _, rfl, ⟨_, rfl, rfl, rfl, by decide⟩, ⟨[.int .u64 0], _, rfl, ⟨_, rfl, rfl, rfl, by decide⟩, rfl⟩⟩⟩
theorem z170 : ∀ Φ, Lrel Φ (Value.agg #[.int .u32 0, .int .u32 0, .int .u32 0, .int .u32 0, .int .u32 0, .int .u32 0, .int .u32 0, .int .u32 0, .int .u32 0, .int .u32 0, .int .u32 0, .int .u32 0, .int .u32 0, .int .u32 0, .int .u32 0, .int .u32 0, .int .u32 0, .int .u32 0, .int .u32 0, .int .u32 0, .int .u32 0, .int .u32 0, .int .u32 0, .int .u32 0, .int .u32 0, .int .u32 0, .int .u32 0, .int .u32 0, .int .u32 0, .int .u32 0, .int .u32 0, .int .u32 0, .int .u32 0, .int .u32 0, .int .u32 0, .int .u32 0, .int .u32 0, .int .u32 0, .int .u32 0, .int .u32 0, .int .u32 0, .int .u32 0, .int .u32 0, .int .u32 0, .int .u32 0, .int .u32 0, .int .u32 0, .int .u32 0, .int .u32 0, .int .u32 0, .int .u32 0, .int .u32 0, .int .u32 0, .int .u32 0, .int .u32 0, .int .u32 0, .int .u32 0, .int .u32 0, .int .u32 0, .int .u32 0, .int .u32 0, .int .u32 0, .int .u32 0, .int .u32 0]).cells.toList [intsCk .u32 64 (List.replicate 64 0)] := fun _ => ⟨[.int .u32 0, .int .u32 0, .int .u32 0, .int .u32 0, .int .u32 0, .int .u32 0, .int .u32 0, .int .u32 0, .int .u32 0, .int .u32 0, .int .u32 0, .int .u32 0, .int .u32 0, .int .u32 0, .int .u32 0, .int .u32 0, .int .u32 0, .int .u32 0, .int .u32 0, .int .u32 0, .int .u32 0, .int .u32 0, .int .u32 0, .int .u32 0, .int .u32 0, .int .u32 0, .int .u32 0, .int .u32 0, .int .u32 0, .int .u32 0, .int .u32 0, .int .u32 0, .int .u32 0, .int .u32 0, .int .u32 0, .int .u32 0, .int .u32 0, .int .u32 0, .int .u32 0, .int .u32 0, .int .u32 0, .int .u32 0, .int .u32 0, .int .u32 0, .int .u32 0, .int .u32 0, .int .u32 0, .int .u32 0, .int .u32 0, .int .u32 0, .int .u32 0, .int .u32 0, .int .u32 0, .int .u32 0, .int .u32 0, .int .u32 0, .int .u32 0, .int .u32 0, .int .u32 0, .int .u32 0, .int .u32 0, .int .u32 0, .int .u32 0, .int .u32 0], _, rfl, ⟨rfl, rfl, by decide⟩, rfl⟩
theorem zo27 : ∀ Φ, Lrel Φ (Value.agg #[.int .u8 0, .int .u8 0, .int .u8 0, .int .u8 0, .int .u8 0, .int .u8 0, .int .u8 0, .int .u8 0, .int .u8 0, .int .u8 0, .int .u8 0, .int .u8 0, .int .u8 0, .int .u8 0, .int .u8 0, .int .u8 0, .int .u8 0, .int .u8 0, .int .u8 0, .int .u8 0, .int .u8 0, .int .u8 0, .int .u8 0, .int .u8 0, .int .u8 0, .int .u8 0, .int .u8 0, .int .u8 0, .int .u8 0, .int .u8 0, .int .u8 0, .int .u8 0, .int .i64 0, .slice none 0 0]).cells.toList [bytesCk 32 (List.replicate 32 0), one (intVP .i64 (0 : Int)), one (eqVP (.slice none 0 0))] := fun _ => ⟨[.int .u8 0, .int .u8 0, .int .u8 0, .int .u8 0, .int .u8 0, .int .u8 0, .int .u8 0, .int .u8 0, .int .u8 0, .int .u8 0, .int .u8 0, .int .u8 0, .int .u8 0, .int .u8 0, .int .u8 0, .int .u8 0, .int .u8 0, .int .u8 0, .int .u8 0, .int .u8 0, .int .u8 0, .int .u8 0, .int .u8 0, .int .u8 0, .int .u8 0, .int .u8 0, .int .u8 0, .int .u8 0, .int .u8 0, .int .u8 0, .int .u8 0, .int .u8 0], _, rfl, ⟨rfl, rfl⟩, ⟨[.int .i64 0], _, rfl, ⟨_, rfl, rfl, rfl, by decide⟩, ⟨[.slice none 0 0], _, rfl, ⟨_, rfl, rfl, rfl⟩, rfl⟩⟩⟩
theorem zo31 : ∀ Φ, Lrel Φ (Value.agg #[.int .i64 0, .slice none 0 0, .slice none 0 0, .slice none 0 0]).cells.toList [one (intVP .i64 (0 : Int)), one (slVP (dC 32) []), one (slVP (dC 32) []), one (eqVP (.slice none 0 0))] := fun _ => ⟨[.int .i64 0], _, rfl, ⟨_, rfl, rfl, rfl, by decide⟩, ⟨[.slice none 0 0], _, rfl, ⟨_, rfl, rfl, by decide, .inl ⟨rfl, rfl⟩⟩, ⟨[.slice none 0 0], _, rfl, ⟨_, rfl, rfl, by decide, .inl ⟨rfl, rfl⟩⟩, ⟨[.slice none 0 0], _, rfl, ⟨_, rfl, rfl, rfl⟩, rfl⟩⟩⟩⟩
theorem zo143 : ∀ Φ, Lrel Φ (Value.agg #[.pointer none, .slice none 0 0]).cells.toList [one (eqVP (.pointer none)), one (eqVP (.slice none 0 0))] := fun _ => ⟨[.pointer none], _, rfl, ⟨_, rfl, rfl, rfl⟩, ⟨[.slice none 0 0], _, rfl, ⟨_, rfl, rfl, rfl⟩, rfl⟩⟩
theorem bu23 : ∀ p, Tryd.prog.built 23 p = Instr.fill (fun i => some (i * 1, 1)) (List.replicate 32 (.int .u8 0)).toArray p := by intro p; kernel_rfl
theorem bu27 : ∀ p, Tryd.prog.built 27 p = Instr.fill (fun i => (#[(0, 32), (32, 1), (33, 1)] : Array (Nat × Nat))[i]?) (Value.agg #[.int .u8 0, .int .u8 0, .int .u8 0, .int .u8 0, .int .u8 0, .int .u8 0, .int .u8 0, .int .u8 0, .int .u8 0, .int .u8 0, .int .u8 0, .int .u8 0, .int .u8 0, .int .u8 0, .int .u8 0, .int .u8 0, .int .u8 0, .int .u8 0, .int .u8 0, .int .u8 0, .int .u8 0, .int .u8 0, .int .u8 0, .int .u8 0, .int .u8 0, .int .u8 0, .int .u8 0, .int .u8 0, .int .u8 0, .int .u8 0, .int .u8 0, .int .u8 0, .int .i64 0, .slice none 0 0]).cells.toList.toArray p := by intro p; kernel_rfl
theorem bu31 : ∀ p, Tryd.prog.built 31 p = Instr.fill (fun i => (#[(0, 1), (1, 1), (2, 1), (3, 1)] : Array (Nat × Nat))[i]?) (Value.agg #[.int .i64 0, .slice none 0 0, .slice none 0 0, .slice none 0 0]).cells.toList.toArray p := by intro p; kernel_rfl
theorem bu53 : ∀ p, Tryd.prog.built 53 p = Instr.fill (fun i => (#[(0, 1), (1, 32), (33, 32), (65, 4)] : Array (Nat × Nat))[i]?) (Value.agg #[.int .u32 0, .int .u8 0, .int .u8 0, .int .u8 0, .int .u8 0, .int .u8 0, .int .u8 0, .int .u8 0, .int .u8 0, .int .u8 0, .int .u8 0, .int .u8 0, .int .u8 0, .int .u8 0, .int .u8 0, .int .u8 0, .int .u8 0, .int .u8 0, .int .u8 0, .int .u8 0, .int .u8 0, .int .u8 0, .int .u8 0, .int .u8 0, .int .u8 0, .int .u8 0, .int .u8 0, .int .u8 0, .int .u8 0, .int .u8 0, .int .u8 0, .int .u8 0, .int .u8 0, .int .u8 0, .int .u8 0, .int .u8 0, .int .u8 0, .int .u8 0, .int .u8 0, .int .u8 0, .int .u8 0, .int .u8 0, .int .u8 0, .int .u8 0, .int .u8 0, .int .u8 0, .int .u8 0, .int .u8 0, .int .u8 0, .int .u8 0, .int .u8 0, .int .u8 0, .int .u8 0, .int .u8 0, .int .u8 0, .int .u8 0, .int .u8 0, .int .u8 0, .int .u8 0, .int .u8 0, .int .u8 0, .int .u8 0, .int .u8 0, .int .u8 0, .int .u8 0, .int .i64 0, .slice none 0 0, .slice none 0 0, .slice none 0 0]).cells.toList.toArray p := by intro p; kernel_rfl
theorem bu74 : ∀ p, Tryd.prog.built 74 p = Instr.fill (fun i => (#[(0, 1), (1, 32), (33, 1), (34, 4)] : Array (Nat × Nat))[i]?) (Value.agg #[.int .u32 0, .int .u8 0, .int .u8 0, .int .u8 0, .int .u8 0, .int .u8 0, .int .u8 0, .int .u8 0, .int .u8 0, .int .u8 0, .int .u8 0, .int .u8 0, .int .u8 0, .int .u8 0, .int .u8 0, .int .u8 0, .int .u8 0, .int .u8 0, .int .u8 0, .int .u8 0, .int .u8 0, .int .u8 0, .int .u8 0, .int .u8 0, .int .u8 0, .int .u8 0, .int .u8 0, .int .u8 0, .int .u8 0, .int .u8 0, .int .u8 0, .int .u8 0, .int .u8 0, .int .i64 0, .int .i64 0, .slice none 0 0, .slice none 0 0, .slice none 0 0]).cells.toList.toArray p := by intro p; kernel_rfl
theorem bu150 : ∀ p, Tryd.prog.built 150 p = Instr.fill (fun i => some (i * 1, 1)) (List.replicate 8 (.int .u32 0)).toArray p := by intro p; kernel_rfl
theorem bu158 : ∀ p, Tryd.prog.built 158 p = Instr.fill (fun i => (#[(0, 8), (8, 1), (9, 1)] : Array (Nat × Nat))[i]?) (Value.agg #[.int .u32 0, .int .u32 0, .int .u32 0, .int .u32 0, .int .u32 0, .int .u32 0, .int .u32 0, .int .u32 0, .string ⟨#[]⟩, .int .u64 0]).cells.toList.toArray p := by intro p; kernel_rfl
theorem bu170 : ∀ p, Tryd.prog.built 170 p = Instr.fill (fun i => some (i * 1, 1)) (List.replicate 64 (.int .u32 0)).toArray p := by intro p; kernel_rfl
structure O_Bld where
  f_buf : List (UInt8)
def Bld_h (p : Value) (v1 : Value) (s : O_Bld) : RP := RP.sep (lb p 143 [one (selfVP p), one (eqVP v1)]) (acc v1 5 1 bC s.f_buf)
def Bld_o (p : Value) (v1 : Value) (o : Option O_Bld) : RP := match o with | none => RP.is (p = .pointer none) | some s => Bld_h p v1 s
def Bld_e (p : Value) (o : Option O_Bld) : RP := RP.ex fun v1 => Bld_o p v1 o
theorem Bld_packo {p : Value} {v1 : Value} {o : Option O_Bld} : RP.le (Bld_o p v1 o) (Bld_e p o) := fun _ _ _ q => ⟨v1, q⟩
theorem Bld_nil : ∀ Φ w, PubOk Φ w → (Bld_e (.pointer none) none).p Φ [] w := fun _ _ _ => ⟨.pointer none, rfl, rfl⟩
theorem Bld_lp {p : Value} {v1 : Value} {s : O_Bld} : ∀ Φ f w, (Bld_h p v1 s).p Φ f w → ∃ b, p = .pointer (some ⟨b, 0, none⟩) := fun _ _ _ ⟨_, _, _, ⟨b, _, h, _⟩, _⟩ => ⟨b, h⟩
theorem Bld_new {p : Value} : RP.le (lb p 143 [one (eqVP (.pointer none)), one (eqVP (.slice none 0 0))]) (Bld_e p (some ⟨[]⟩)) := by
  rintro Φ f w ⟨b, cs, hp, hf, hb, ⟨c1, c2, rfl, ⟨q, rfl, h1, h2⟩, d1, d2, rfl, ⟨x, rfl, g1, g2⟩, hd⟩, hn⟩
  exact ⟨.slice none 0 0, f, [], by simp, ⟨b, _, hp, hf, hb, ⟨[q], _, rfl, ⟨q, rfl, h1, .inl h2, b, hp⟩, [x], d2, rfl, ⟨x, rfl, g1, g2⟩, hd⟩, hn⟩, by simp [mxl], .inl ⟨rfl, rfl, rfl⟩⟩
structure O_Log where
  f_inputs : List ((List UInt8) × (List UInt8))
  f_others : List ((List UInt8) × Bool)
def Log_h (p : Value) (v0 : Value) (v1 : Value) (s : O_Log) : RP := RP.sep (lb p 111 [one (eqVP v0), one (eqVP v1)]) (RP.sep (mapR v0 arrK (fun l => l.length = 32) (fun u y => RP.val (strVP y) u) s.f_inputs) (mapR v1 strK (fun _ => True) (fun u y => RP.val (boolVP y) u) s.f_others))
def Log_o (p : Value) (v0 : Value) (v1 : Value) (o : Option O_Log) : RP := match o with | none => RP.is (p = .pointer none) | some s => Log_h p v0 v1 s
def Log_e (p : Value) (o : Option O_Log) : RP := RP.ex fun v0 => RP.ex fun v1 => Log_o p v0 v1 o
theorem Log_packo {p : Value} {v0 : Value} {v1 : Value} {o : Option O_Log} : RP.le (Log_o p v0 v1 o) (Log_e p o) := fun _ _ _ q => ⟨v0, v1, q⟩
theorem Log_nil : ∀ Φ w, PubOk Φ w → (Log_e (.pointer none) none).p Φ [] w := fun _ _ _ => ⟨.pointer none, .pointer none, rfl, rfl⟩
theorem Log_lp {p : Value} {v0 : Value} {v1 : Value} {s : O_Log} : ∀ Φ f w, (Log_h p v0 v1 s).p Φ f w → ∃ b, p = .pointer (some ⟨b, 0, none⟩) := fun _ _ _ ⟨_, _, _, ⟨b, _, h, _⟩, _⟩ => ⟨b, h⟩
structure O_RLog where
  f_Inputs : List (List UInt8)
  f_Digests : List ((List UInt8) × (List (List UInt8)))
def RLog_h (p : Value) (v0 : Value) (v1 : Value) (s : O_RLog) : RP := RP.sep (lb p 103 [one (eqVP v0), one (eqVP v1)]) (RP.sep (acc v0 9 1 strC s.f_Inputs) (mapR v1 arrK (fun l => l.length = 32) (fun u y => acc u 9 1 strC y) s.f_Digests))
def RLog_o (p : Value) (v0 : Value) (v1 : Value) (o : Option O_RLog) : RP := match o with | none => RP.is (p = .pointer none) | some s => RLog_h p v0 v1 s
def RLog_e (p : Value) (o : Option O_RLog) : RP := RP.ex fun v0 => RP.ex fun v1 => RLog_o p v0 v1 o
theorem RLog_packo {p : Value} {v0 : Value} {v1 : Value} {o : Option O_RLog} : RP.le (RLog_o p v0 v1 o) (RLog_e p o) := fun _ _ _ q => ⟨v0, v1, q⟩
theorem RLog_nil : ∀ Φ w, PubOk Φ w → (RLog_e (.pointer none) none).p Φ [] w := fun _ _ _ => ⟨.pointer none, .pointer none, rfl, rfl⟩
theorem RLog_lp {p : Value} {v0 : Value} {v1 : Value} {s : O_RLog} : ∀ Φ f w, (RLog_h p v0 v1 s).p Φ f w → ∃ b, p = .pointer (some ⟨b, 0, none⟩) := fun _ _ _ ⟨_, _, _, ⟨b, _, h, _⟩, _⟩ => ⟨b, h⟩
def Sgn_h (p : Value) (v2 : Value) (s : S_keys_Signer) : RP := RP.sep (lb p 27 [bytesCk 32 s.f_Seed, one (intVP .i64 s.f_Next), one (eqVP v2)]) (acc v2 23 32 (dC 32) s.f_Leaves)
def Sgn_o (p : Value) (v2 : Value) (o : Option S_keys_Signer) : RP := match o with | none => RP.is (p = .pointer none) | some s => Sgn_h p v2 s
def Sgn_e (p : Value) (o : Option S_keys_Signer) : RP := RP.ex fun v2 => Sgn_o p v2 o
theorem Sgn_packo {p : Value} {v2 : Value} {o : Option S_keys_Signer} : RP.le (Sgn_o p v2 o) (Sgn_e p o) := fun _ _ _ q => ⟨v2, q⟩
theorem Sgn_nil : ∀ Φ w, PubOk Φ w → (Sgn_e (.pointer none) none).p Φ [] w := fun _ _ _ => ⟨.pointer none, rfl, rfl⟩
theorem Sgn_lp {p : Value} {v2 : Value} {s : S_keys_Signer} : ∀ Φ f w, (Sgn_h p v2 s).p Φ f w → ∃ b, p = .pointer (some ⟨b, 0, none⟩) := fun _ _ _ ⟨_, _, _, ⟨b, _, h, _⟩, _⟩ => ⟨b, h⟩
def RSg_h (p : Value) (v3 : Value) (s : S_api_Sig) : RP := RP.sep (lb p 31 [one (intVP .i64 s.f_Index), one (slVP (dC 32) s.f_Parts), one (slVP (dC 32) s.f_Others), one (eqVP v3)]) (acc v3 23 32 (dC 32) s.f_Path)
def RSg_o (p : Value) (v3 : Value) (o : Option S_api_Sig) : RP := match o with | none => RP.is (p = .pointer none) | some s => RSg_h p v3 s
def RSg_e (p : Value) (o : Option S_api_Sig) : RP := RP.ex fun v3 => RSg_o p v3 o
theorem RSg_packo {p : Value} {v3 : Value} {o : Option S_api_Sig} : RP.le (RSg_o p v3 o) (RSg_e p o) := fun _ _ _ q => ⟨v3, q⟩
theorem RSg_nil : ∀ Φ w, PubOk Φ w → (RSg_e (.pointer none) none).p Φ [] w := fun _ _ _ => ⟨.pointer none, rfl, rfl⟩
theorem RSg_lp {p : Value} {v3 : Value} {s : S_api_Sig} : ∀ Φ f w, (RSg_h p v3 s).p Φ f w → ∃ b, p = .pointer (some ⟨b, 0, none⟩) := fun _ _ _ ⟨_, _, _, ⟨b, _, h, _⟩, _⟩ => ⟨b, h⟩
def gFirst : List Int := [1779033703, 3144134277, 1013904242, 2773480762, 1359893119, 2600822924, 528734635, 1541459225]
def gConst : List Int := [1116352408, 1899447441, 3049323471, 3921009573, 961987163, 1508970993, 2453635748, 2870763221, 3624381080, 310598401, 607225278, 1426881987, 1925078388, 2162078206, 2614888103, 3248222580, 3835390401, 4022224774, 264347078, 604807628, 770255983, 1249150122, 1555081692, 1996064986, 2554220882, 2821834349, 2952996808, 3210313671, 3336571891, 3584528711, 113926993, 338241895, 666307205, 773529912, 1294757372, 1396182291, 1695183700, 1986661051, 2177026350, 2456956037, 2730485921, 2820302411, 3259730800, 3345764771, 3516065817, 3600352804, 4094571909, 275423344, 430227734, 506948616, 659060556, 883997877, 958139571, 1322822218, 1537002063, 1747873779, 1955562222, 2024104815, 2227730452, 2361852424, 2428436474, 2756734187, 3204031479, 3329325298]
def KG : FP := ⟨fun Φ => (ppVP [intsCk .u32 8 gFirst]).p Φ (.pointer (some ⟨0, 0, none⟩)) ∧ (ppVP [intsCk .u32 64 gConst]).p Φ (.pointer (some ⟨1, 0, none⟩)), fun hle h => ⟨(ppVP _).mono hle h.1, (ppVP _).mono hle h.2⟩⟩
set_option maxHeartbeats 1000000 in
set_option maxRecDepth 100000 in
theorem copyFresh (b : Nat) (w : World) (h0 : w.cell? ⟨b, 0, none⟩ = some (.pointer none)) (hsh : w.shape? b = some (143, 2)) (hfz : w.frozen? ⟨b, 0, none⟩ = false) :
    Calls Tryd.prog 100 #[.pointer (some ⟨b, 0, none⟩)] w fun e w' => e = .returned (.tuple #[]) ∧ w' = w.setCell ⟨b, 0, none⟩ (.pointer (some ⟨b, 0, none⟩)) := by
  have hsz : (Tryd.prog.info? 143).map (·.size) = some 2 := by kernel_rfl
  have hlies : liesAt Tryd.prog Tryd.prog.depth 143 (2 / Tryd.prog.cellsOf 143) 0 143 1 = true := by kernel_rfl
  obtain ⟨j, hj, hjs⟩ := Option.map_eq_some_iff.1 hsz
  have mixed : Tryd.prog.follows .mixedOrders = true := by kernel_rfl
  go_enter Tryd.func100, Tryd.ntmps100
  go_wp2
  rw [Lib.run_to_unsafe w ⟨b, 0, none⟩ Tryd.underlying141 Tryd.underlying168 hj (by rw [hjs]; decide) hsh (Nat.zero_lt_succ 1)]
  simp only [Result.andThen]
  rw [Oper.upon_value]
  go_wp2
  rw [run_callFunc_extern Tryd.func104 (by kernel_rfl) (by kernel_rfl) (by kernel_rfl) (e := Extern.AbiNoEscape.same) (by kernel_rfl)]
  rw [Lib.run_noEscape]
  simp only [Result.andThen]
  rw [Oper.upon_value]
  go_wp2
  rw [Lib.run_from_unsafe w ⟨b, 0, none⟩ Tryd.underlying168 Tryd.underlying141 hj hsh hlies]
  simp only [Result.andThen]
  rw [Oper.upon_value]
  go_wp2
  go_end0
  exact ⟨rfl, rfl⟩
set_option maxHeartbeats 1000000 in
set_option maxRecDepth 100000 in
theorem copyUsed (b : Nat) (w : World) (h0 : w.cell? ⟨b, 0, none⟩ = some (.pointer (some ⟨b, 0, none⟩))) :
    Calls Tryd.prog 100 #[.pointer (some ⟨b, 0, none⟩)] w fun e w' => e = .returned (.tuple #[]) ∧ w' = w := by
  have hsz : (Tryd.prog.info? 143).map (·.size) = some 2 := by kernel_rfl
  obtain ⟨j, hj, _⟩ := Option.map_eq_some_iff.1 hsz
  have mixed : Tryd.prog.follows .mixedOrders = true := by kernel_rfl
  go_enter Tryd.func100, Tryd.ntmps100
  go_wp2
  rw [Lib.run_neq_ptr_same w _ Tryd.underlying141 hj]
  go_wp2
  go_end0
  exact ⟨rfl, rfl⟩
theorem copyCheck_ok {p v : Value} : CallOk Tryd.prog KG 100 [eqVP p] [lb p 143 [one (selfVP p), one (eqVP v)]] (fun _ => [lb p 143 [one (selfVP p), one (eqVP v)]]) (tupVP []) := copyCheck_of copyFresh copyUsed


end Go.Proofs.YtamnmljgcmbliaaDoor
