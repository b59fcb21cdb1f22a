/- The functions' Lean twins and contracts, printed by this session's own program. -/
import Derived.Test.YteboiefnflipjaaGreatDoorM2
import Derived.Test.YteboiefnflipjaaGreatDoorK1
import Derived.Test.YteboiefnflipjaaGreatDoorProg
import Derived.Shelf.Strings.Builder1
import Derived.Lib.Repeat
namespace Go.Proofs.YteboiefnflipjaaGreatDoor
open _root_.Go.Proofs.Tryz
open Go Go.RowKit Go.Proofs
set_option maxRecDepth 100000
set_option linter.unusedVariables false
set_option linter.unusedSimpArgs false
theorem Pe (c : Ck) (L : List Ck) : lens (c :: L) = c.n + lens L := rfl
theorem Pd : lens [] = 0 := rfl
theorem lz {Φ : Cg} {c : Ck} {L : List Ck} {xs ys : List Value} (h1 : c.rel Φ xs) (h2 : Cl Φ ys L) : Cl Φ (List.append xs ys) (c :: L) := ⟨xs, ys, rfl, h1, h2⟩
theorem mixed : prog.follows .mixedOrders = true := by kernel_rfl
structure Ar where
 D3 : Int
 G3 : Int
 FQ : Int
 Gw : List UInt8
 EZ : List UInt8
 G4 : List UInt8
instance : Inhabited Ar := ⟨(Ar.mk (0 : Int) (0 : Int) (0 : Int) [] [] [])⟩
def Ar.ck (x : Ar) : List Ck := [one (Ag .u32 x.D3), one (Ag .u32 x.G3), one (Ag .u32 x.FQ), one (Br x.Gw), one (Br x.EZ), one (Br x.G4)]
theorem Ar.lens (x : Ar) : lens (Ar.ck x) = 6 := rfl
structure Ao where
 Bt : List UInt8
 GU : Int
instance : Inhabited Ao := ⟨(Ao.mk (List.replicate 32 0) (0 : Int))⟩
def Ao.ck (x : Ao) : List Ck := [Af 32 x.Bt, one (Ag .u64 x.GU)]
theorem Ao.lens (x : Ao) : lens (Ao.ck x) = 33 := rfl
structure Al where
 BJ : List UInt8
 BD : Int
 Bt : List UInt8
instance : Inhabited Al := ⟨(Al.mk (List.replicate 32 0) (0 : Int) (List.replicate 32 0))⟩
def Al.ck (x : Al) : List Ck := [Af 32 x.BJ, one (Ag .i64 x.BD), Af 32 x.Bt]
theorem Al.lens (x : Al) : lens (Al.ck x) = 65 := rfl
structure Aa where
 AX : Int
 BC : Int
 AQ : List UInt8
 AP : List (List UInt8)
 A4 : Int
 AN : List UInt8
 Ay : List (Ao)
 Ah : List (Al)
 Bj : Bool
 BR : Bool
instance : Inhabited Aa := ⟨(Aa.mk (0 : Int) (0 : Int) (List.replicate 32 0) [] (0 : Int) (List.replicate 32 0) [] [] false false)⟩
def Aa.ck (x : Aa) : List Ck := [one (Ag .u32 x.AX), one (Ag .u32 x.BC), Af 32 x.AQ, one (AJ (dC 32) x.AP), one (Ag .u64 x.A4), Af 32 x.AN, one (AJ Ao.ck x.Ay), one (AJ Al.ck x.Ah), one (AL x.Bj), one (AL x.BR)]
theorem Aa.lens (x : Aa) : lens (Aa.ck x) = 72 := rfl
structure AO where
 Cb : List Int
 B3 : List UInt8
 Cz : Int
instance : Inhabited AO := ⟨(AO.mk (List.replicate 8 0) [] (0 : Int))⟩
def AO.ck (x : AO) : List Ck := [AY .u32 8 x.Cb, one (Br x.B3), one (Ag .u64 x.Cz)]
theorem AO.lens (x : AO) : lens (AO.ck x) = 10 := rfl
structure Am where
 CV : List UInt8
 CH : Int
 Bi : List (List UInt8)
instance : Inhabited Am := ⟨(Am.mk (List.replicate 32 0) (0 : Int) [])⟩
def Am.ck (x : Am) : List Ck := [Af 32 x.CV, one (Ag .i64 x.CH), one (AJ (dC 32) x.Bi)]
theorem Am.lens (x : Am) : lens (Am.ck x) = 34 := rfl
structure AE where
 Cc : Int
 Dl : List (List UInt8)
 CZ : List (List UInt8)
 Dk : List (List UInt8)
instance : Inhabited AE := ⟨(AE.mk (0 : Int) [] [] [])⟩
def AE.ck (x : AE) : List Ck := [one (Ag .i64 x.Cc), one (AJ (dC 32) x.Dl), one (AJ (dC 32) x.CZ), one (AJ (dC 32) x.Dk)]
theorem AE.lens (x : AE) : lens (AE.ck x) = 4 := rfl
structure AI where
 B0 : Int
 Eu : List UInt8
 BN : List UInt8
 C1 : AE
instance : Inhabited AI := ⟨(AI.mk (0 : Int) (List.replicate 32 0) (List.replicate 32 0) (AE.mk (0 : Int) [] [] []))⟩
def AI.ck (x : AI) : List Ck := [one (Ag .u32 x.B0), Af 32 x.Eu, Af 32 x.BN, one (Ag .i64 x.C1.Cc), one (AJ (dC 32) x.C1.Dl), one (AJ (dC 32) x.C1.CZ), one (AJ (dC 32) x.C1.Dk)]
theorem AI.lens (x : AI) : lens (AI.ck x) = 69 := rfl
structure A1 where
 B0 : Int
 EP : List UInt8
 Bn : Int
 C1 : AE
instance : Inhabited A1 := ⟨(A1.mk (0 : Int) (List.replicate 32 0) (0 : Int) (AE.mk (0 : Int) [] [] []))⟩
def A1.ck (x : A1) : List Ck := [one (Ag .u32 x.B0), Af 32 x.EP, one (Ag .i64 x.Bn), one (Ag .i64 x.C1.Cc), one (AJ (dC 32) x.C1.Dl), one (AJ (dC 32) x.C1.CZ), one (AJ (dC 32) x.C1.Dk)]
theorem A1.lens (x : A1) : lens (A1.ck x) = 38 := rfl
structure AW where
 EM : Int
 FZ : Int
instance : Inhabited AW := ⟨(AW.mk (0 : Int) (0 : Int))⟩
def AW.ck (x : AW) : List Ck := [one (Ag .i64 x.EM), one (Ag .i64 x.FZ)]
theorem AW.lens (x : AW) : lens (AW.ck x) = 2 := rfl
theorem z31 : ∀ Φ, Cl Φ (Value.agg #[.int .u32 0, .int .u32 0, .int .u32 0, .string ⟨#[]⟩, .string ⟨#[]⟩, .string ⟨#[]⟩]).cells.toList [one (Ag .u32 ((Ar.mk (0 : Int) (0 : Int) (0 : Int) [] [] []).D3)), one (Ag .u32 ((Ar.mk (0 : Int) (0 : Int) (0 : Int) [] [] []).G3)), one (Ag .u32 ((Ar.mk (0 : Int) (0 : Int) (0 : Int) [] [] []).FQ)), one (Br ((Ar.mk (0 : Int) (0 : Int) (0 : Int) [] [] []).Gw)), one (Br ((Ar.mk (0 : Int) (0 : Int) (0 : Int) [] [] []).EZ)), one (Br ((Ar.mk (0 : Int) (0 : Int) (0 : Int) [] [] []).G4))] := fun _ => ⟨[.int .u32 0], _, rfl, ⟨_, rfl, rfl, rfl, by decide⟩, ⟨[.int .u32 0], _, rfl, ⟨_, rfl, rfl, rfl, by decide⟩, ⟨[.int .u32 0], _, rfl, ⟨_, rfl, rfl, rfl, by decide⟩, ⟨[.string ⟨#[]⟩], _, rfl, ⟨_, rfl, rfl, rfl, by decide⟩, ⟨[.string ⟨#[]⟩], _, rfl, ⟨_, rfl, rfl, rfl, by decide⟩, ⟨[.string ⟨#[]⟩], _, rfl, ⟨_, rfl, rfl, rfl, by decide⟩, rfl⟩⟩⟩⟩⟩⟩
theorem FT : ∀ Φ, Cl Φ (Value.agg #[.int .u8 0, .int .u8 0, .int .u8 0, .int .u8 0, .int .u8 0, .int .u8 0, .int .u8 0, .int .u8 0, .int .u8 0, .int .u8 0, .int .u8 0, .int .u8 0, .int .u8 0, .int .u8 0, .int .u8 0, .int .u8 0, .int .u8 0, .int .u8 0, .int .u8 0, .int .u8 0, .int .u8 0, .int .u8 0, .int .u8 0, .int .u8 0, .int .u8 0, .int .u8 0, .int .u8 0, .int .u8 0, .int .u8 0, .int .u8 0, .int .u8 0, .int .u8 0]).cells.toList [Af 32 (List.replicate 32 0)] := fun _ => ⟨[.int .u8 0, .int .u8 0, .int .u8 0, .int .u8 0, .int .u8 0, .int .u8 0, .int .u8 0, .int .u8 0, .int .u8 0, .int .u8 0, .int .u8 0, .int .u8 0, .int .u8 0, .int .u8 0, .int .u8 0, .int .u8 0, .int .u8 0, .int .u8 0, .int .u8 0, .int .u8 0, .int .u8 0, .int .u8 0, .int .u8 0, .int .u8 0, .int .u8 0, .int .u8 0, .int .u8 0, .int .u8 0, .int .u8 0, .int .u8 0, .int .u8 0, .int .u8 0], _, rfl, ⟨rfl, rfl⟩, rfl⟩
theorem z37 : ∀ Φ, Cl Φ (Value.agg #[.int .u8 0, .int .u8 0, .int .u8 0, .int .u8 0, .int .u8 0, .int .u8 0, .int .u8 0, .int .u8 0, .int .u8 0, .int .u8 0, .int .u8 0, .int .u8 0, .int .u8 0, .int .u8 0, .int .u8 0, .int .u8 0, .int .u8 0, .int .u8 0, .int .u8 0, .int .u8 0, .int .u8 0, .int .u8 0, .int .u8 0, .int .u8 0, .int .u8 0, .int .u8 0, .int .u8 0, .int .u8 0, .int .u8 0, .int .u8 0, .int .u8 0, .int .u8 0, .int .u64 0]).cells.toList [Af 32 ((Ao.mk (List.replicate 32 0) (0 : Int)).Bt), one (Ag .u64 ((Ao.mk (List.replicate 32 0) (0 : Int)).GU))] := fun _ => ⟨[.int .u8 0, .int .u8 0, .int .u8 0, .int .u8 0, .int .u8 0, .int .u8 0, .int .u8 0, .int .u8 0, .int .u8 0, .int .u8 0, .int .u8 0, .int .u8 0, .int .u8 0, .int .u8 0, .int .u8 0, .int .u8 0, .int .u8 0, .int .u8 0, .int .u8 0, .int .u8 0, .int .u8 0, .int .u8 0, .int .u8 0, .int .u8 0, .int .u8 0, .int .u8 0, .int .u8 0, .int .u8 0, .int .u8 0, .int .u8 0, .int .u8 0, .int .u8 0], _, rfl, ⟨rfl, rfl⟩, ⟨[.int .u64 0], _, rfl, ⟨_, rfl, rfl, rfl, by decide⟩, rfl⟩⟩
theorem MN : ∀ Φ, Cl Φ (Value.agg #[.int .u32 0, .int .u32 0, .int .u8 0, .int .u8 0, .int .u8 0, .int .u8 0, .int .u8 0, .int .u8 0, .int .u8 0, .int .u8 0, .int .u8 0, .int .u8 0, .int .u8 0, .int .u8 0, .int .u8 0, .int .u8 0, .int .u8 0, .int .u8 0, .int .u8 0, .int .u8 0, .int .u8 0, .int .u8 0, .int .u8 0, .int .u8 0, .int .u8 0, .int .u8 0, .int .u8 0, .int .u8 0, .int .u8 0, .int .u8 0, .int .u8 0, .int .u8 0, .int .u8 0, .int .u8 0, .slice none 0 0, .int .u64 0, .int .u8 0, .int .u8 0, .int .u8 0, .int .u8 0, .int .u8 0, .int .u8 0, .int .u8 0, .int .u8 0, .int .u8 0, .int .u8 0, .int .u8 0, .int .u8 0, .int .u8 0, .int .u8 0, .int .u8 0, .int .u8 0, .int .u8 0, .int .u8 0, .int .u8 0, .int .u8 0, .int .u8 0, .int .u8 0, .int .u8 0, .int .u8 0, .int .u8 0, .int .u8 0, .int .u8 0, .int .u8 0, .int .u8 0, .int .u8 0, .int .u8 0, .int .u8 0, .slice none 0 0, .slice none 0 0, .bool false, .bool false]).cells.toList [one (Ag .u32 ((Aa.mk (0 : Int) (0 : Int) (List.replicate 32 0) [] (0 : Int) (List.replicate 32 0) [] [] false false).AX)), one (Ag .u32 ((Aa.mk (0 : Int) (0 : Int) (List.replicate 32 0) [] (0 : Int) (List.replicate 32 0) [] [] false false).BC)), Af 32 ((Aa.mk (0 : Int) (0 : Int) (List.replicate 32 0) [] (0 : Int) (List.replicate 32 0) [] [] false false).AQ), one (AJ (dC 32) ((Aa.mk (0 : Int) (0 : Int) (List.replicate 32 0) [] (0 : Int) (List.replicate 32 0) [] [] false false).AP)), one (Ag .u64 ((Aa.mk (0 : Int) (0 : Int) (List.replicate 32 0) [] (0 : Int) (List.replicate 32 0) [] [] false false).A4)), Af 32 ((Aa.mk (0 : Int) (0 : Int) (List.replicate 32 0) [] (0 : Int) (List.replicate 32 0) [] [] false false).AN), one (AJ Ao.ck ((Aa.mk (0 : Int) (0 : Int) (List.replicate 32 0) [] (0 : Int) (List.replicate 32 0) [] [] false false).Ay)), one (AJ Al.ck ((Aa.mk (0 : Int) (0 : Int) (List.replicate 32 0) [] (0 : Int) (List.replicate 32 0) [] [] false false).Ah)), one (AL ((Aa.mk (0 : Int) (0 : Int) (List.replicate 32 0) [] (0 : Int) (List.replicate 32 0) [] [] false false).Bj)), one (AL ((Aa.mk (0 : Int) (0 : Int) (List.replicate 32 0) [] (0 : Int) (List.replicate 32 0) [] [] false false).BR))] := fun _ => ⟨[.int .u32 0], _, rfl, ⟨_, rfl, rfl, rfl, by decide⟩, ⟨[.int .u32 0], _, rfl, ⟨_, rfl, rfl, rfl, by decide⟩, ⟨[.int .u8 0, .int .u8 0, .int .u8 0, .int .u8 0, .int .u8 0, .int .u8 0, .int .u8 0, .int .u8 0, .int .u8 0, .int .u8 0, .int .u8 0, .int .u8 0, .int .u8 0, .int .u8 0, .int .u8 0, .int .u8 0, .int .u8 0, .int .u8 0, .int .u8 0, .int .u8 0, .int .u8 0, .int .u8 0, .int .u8 0, .int .u8 0, .int .u8 0, .int .u8 0, .int .u8 0, .int .u8 0, .int .u8 0, .int .u8 0, .int .u8 0, .int .u8 0], _, rfl, ⟨rfl, rfl⟩, ⟨[.slice none 0 0], _, rfl, ⟨_, rfl, rfl, by decide, .inl ⟨rfl, rfl⟩⟩, ⟨[.int .u64 0], _, rfl, ⟨_, rfl, rfl, rfl, by decide⟩, ⟨[.int .u8 0, .int .u8 0, .int .u8 0, .int .u8 0, .int .u8 0, .int .u8 0, .int .u8 0, .int .u8 0, .int .u8 0, .int .u8 0, .int .u8 0, .int .u8 0, .int .u8 0, .int .u8 0, .int .u8 0, .int .u8 0, .int .u8 0, .int .u8 0, .int .u8 0, .int .u8 0, .int .u8 0, .int .u8 0, .int .u8 0, .int .u8 0, .int .u8 0, .int .u8 0, .int .u8 0, .int .u8 0, .int .u8 0, .int .u8 0, .int .u8 0, .int .u8 0], _, rfl, ⟨rfl, rfl⟩, ⟨[.slice none 0 0], _, rfl, ⟨_, rfl, rfl, by decide, .inl ⟨rfl, rfl⟩⟩, ⟨[.slice none 0 0], _, rfl, ⟨_, rfl, rfl, by decide, .inl ⟨rfl, rfl⟩⟩, ⟨[.bool false], _, rfl, ⟨_, rfl, rfl, rfl⟩, ⟨[.bool false], _, rfl, ⟨_, rfl, rfl, rfl⟩, rfl⟩⟩⟩⟩⟩⟩⟩⟩⟩⟩
theorem PJ : ∀ Φ, Cl Φ (Value.agg #[.int .u8 0, .int .u8 0, .int .u8 0, .int .u8 0, .int .u8 0, .int .u8 0, .int .u8 0, .int .u8 0, .int .u8 0, .int .u8 0, .int .u8 0, .int .u8 0, .int .u8 0, .int .u8 0, .int .u8 0, .int .u8 0, .int .u8 0, .int .u8 0, .int .u8 0, .int .u8 0, .int .u8 0, .int .u8 0, .int .u8 0, .int .u8 0, .int .u8 0, .int .u8 0, .int .u8 0, .int .u8 0, .int .u8 0, .int .u8 0, .int .u8 0, .int .u8 0, .int .i64 0, .slice none 0 0]).cells.toList [Af 32 ((Am.mk (List.replicate 32 0) (0 : Int) []).CV), one (Ag .i64 ((Am.mk (List.replicate 32 0) (0 : Int) []).CH)), one (AJ (dC 32) ((Am.mk (List.replicate 32 0) (0 : Int) []).Bi))] := fun _ => ⟨[.int .u8 0, .int .u8 0, .int .u8 0, .int .u8 0, .int .u8 0, .int .u8 0, .int .u8 0, .int .u8 0, .int .u8 0, .int .u8 0, .int .u8 0, .int .u8 0, .int .u8 0, .int .u8 0, .int .u8 0, .int .u8 0, .int .u8 0, .int .u8 0, .int .u8 0, .int .u8 0, .int .u8 0, .int .u8 0, .int .u8 0, .int .u8 0, .int .u8 0, .int .u8 0, .int .u8 0, .int .u8 0, .int .u8 0, .int .u8 0, .int .u8 0, .int .u8 0], _, rfl, ⟨rfl, rfl⟩, ⟨[.int .i64 0], _, rfl, ⟨_, rfl, rfl, rfl, by decide⟩, ⟨[.slice none 0 0], _, rfl, ⟨_, rfl, rfl, by decide, .inl ⟨rfl, rfl⟩⟩, rfl⟩⟩⟩
theorem z66 : ∀ Φ, Cl Φ (Value.agg #[.int .i64 0, .int .i64 0]).cells.toList [one (Ag .i64 ((AW.mk (0 : Int) (0 : Int)).EM)), one (Ag .i64 ((AW.mk (0 : Int) (0 : Int)).FZ))] := fun _ => ⟨[.int .i64 0], _, rfl, ⟨_, rfl, rfl, rfl, by decide⟩, ⟨[.int .i64 0], _, rfl, ⟨_, rfl, rfl, rfl, by decide⟩, rfl⟩⟩
theorem PM : ∀ Φ, Cl Φ (Value.agg #[.int .i64 0, .slice none 0 0, .slice none 0 0, .slice none 0 0]).cells.toList [one (Ag .i64 ((AE.mk (0 : Int) [] [] []).Cc)), one (AJ (dC 32) ((AE.mk (0 : Int) [] [] []).Dl)), one (AJ (dC 32) ((AE.mk (0 : Int) [] [] []).CZ)), one (AJ (dC 32) ((AE.mk (0 : Int) [] [] []).Dk))] := fun _ => ⟨[.int .i64 0], _, rfl, ⟨_, rfl, rfl, rfl, by decide⟩, ⟨[.slice none 0 0], _, rfl, ⟨_, rfl, rfl, by decide, .inl ⟨rfl, rfl⟩⟩, ⟨[.slice none 0 0], _, rfl, ⟨_, rfl, rfl, by decide, .inl ⟨rfl, rfl⟩⟩, ⟨[.slice none 0 0], _, rfl, ⟨_, rfl, rfl, by decide, .inl ⟨rfl, rfl⟩⟩, rfl⟩⟩⟩⟩
theorem RG : ∀ Φ, Cl Φ (Value.agg #[.int .u32 0, .int .u8 0, .int .u8 0, .int .u8 0, .int .u8 0, .int .u8 0, .int .u8 0, .int .u8 0, .int .u8 0, .int .u8 0, .int .u8 0, .int .u8 0, .int .u8 0, .int .u8 0, .int .u8 0, .int .u8 0, .int .u8 0, .int .u8 0, .int .u8 0, .int .u8 0, .int .u8 0, .int .u8 0, .int .u8 0, .int .u8 0, .int .u8 0, .int .u8 0, .int .u8 0, .int .u8 0, .int .u8 0, .int .u8 0, .int .u8 0, .int .u8 0, .int .u8 0, .int .u8 0, .int .u8 0, .int .u8 0, .int .u8 0, .int .u8 0, .int .u8 0, .int .u8 0, .int .u8 0, .int .u8 0, .int .u8 0, .int .u8 0, .int .u8 0, .int .u8 0, .int .u8 0, .int .u8 0, .int .u8 0, .int .u8 0, .int .u8 0, .int .u8 0, .int .u8 0, .int .u8 0, .int .u8 0, .int .u8 0, .int .u8 0, .int .u8 0, .int .u8 0, .int .u8 0, .int .u8 0, .int .u8 0, .int .u8 0, .int .u8 0, .int .u8 0, .int .i64 0, .slice none 0 0, .slice none 0 0, .slice none 0 0]).cells.toList [one (Ag .u32 ((AI.mk (0 : Int) (List.replicate 32 0) (List.replicate 32 0) (AE.mk (0 : Int) [] [] [])).B0)), Af 32 ((AI.mk (0 : Int) (List.replicate 32 0) (List.replicate 32 0) (AE.mk (0 : Int) [] [] [])).Eu), Af 32 ((AI.mk (0 : Int) (List.replicate 32 0) (List.replicate 32 0) (AE.mk (0 : Int) [] [] [])).BN), one (Ag .i64 (((AI.mk (0 : Int) (List.replicate 32 0) (List.replicate 32 0) (AE.mk (0 : Int) [] [] [])).C1).Cc)), one (AJ (dC 32) (((AI.mk (0 : Int) (List.replicate 32 0) (List.replicate 32 0) (AE.mk (0 : Int) [] [] [])).C1).Dl)), one (AJ (dC 32) (((AI.mk (0 : Int) (List.replicate 32 0) (List.replicate 32 0) (AE.mk (0 : Int) [] [] [])).C1).CZ)), one (AJ (dC 32) (((AI.mk (0 : Int) (List.replicate 32 0) (List.replicate 32 0) (AE.mk (0 : Int) [] [] [])).C1).Dk))] := fun _ => ⟨[.int .u32 0], _, rfl, ⟨_, rfl, rfl, rfl, by decide⟩, ⟨[.int .u8 0, .int .u8 0, .int .u8 0, .int .u8 0, .int .u8 0, .int .u8 0, .int .u8 0, .int .u8 0, .int .u8 0, .int .u8 0, .int .u8 0, .int .u8 0, .int .u8 0, .int .u8 0, .int .u8 0, .int .u8 0, .int .u8 0, .int .u8 0, .int .u8 0, .int .u8 0, .int .u8 0, .int .u8 0, .int .u8 0, .int .u8 0, .int .u8 0, .int .u8 0, .int .u8 0, .int .u8 0, .int .u8 0, .int .u8 0, .int .u8 0, .int .u8 0], _, rfl, ⟨rfl, rfl⟩, ⟨[.int .u8 0, .int .u8 0, .int .u8 0, .int .u8 0, .int .u8 0, .int .u8 0, .int .u8 0, .int .u8 0, .int .u8 0, .int .u8 0, .int .u8 0, .int .u8 0, .int .u8 0, .int .u8 0, .int .u8 0, .int .u8 0, .int .u8 0, .int .u8 0, .int .u8 0, .int .u8 0, .int .u8 0, .int .u8 0, .int .u8 0, .int .u8 0, .int .u8 0, .int .u8 0, .int .u8 0, .int .u8 0, .int .u8 0, .int .u8 0, .int .u8 0, .int .u8 0], _, rfl, ⟨rfl, rfl⟩, ⟨[.int .i64 0], _, rfl, ⟨_, rfl, rfl, rfl, by decide⟩, ⟨[.slice none 0 0], _, rfl, ⟨_, rfl, rfl, by decide, .inl ⟨rfl, rfl⟩⟩, ⟨[.slice none 0 0], _, rfl, ⟨_, rfl, rfl, by decide, .inl ⟨rfl, rfl⟩⟩, ⟨[.slice none 0 0], _, rfl, ⟨_, rfl, rfl, by decide, .inl ⟨rfl, rfl⟩⟩, rfl⟩⟩⟩⟩⟩⟩⟩
theorem Se : ∀ Φ, Cl Φ (Value.agg #[.int .u32 0, .int .u8 0, .int .u8 0, .int .u8 0, .int .u8 0, .int .u8 0, .int .u8 0, .int .u8 0, .int .u8 0, .int .u8 0, .int .u8 0, .int .u8 0, .int .u8 0, .int .u8 0, .int .u8 0, .int .u8 0, .int .u8 0, .int .u8 0, .int .u8 0, .int .u8 0, .int .u8 0, .int .u8 0, .int .u8 0, .int .u8 0, .int .u8 0, .int .u8 0, .int .u8 0, .int .u8 0, .int .u8 0, .int .u8 0, .int .u8 0, .int .u8 0, .int .u8 0, .int .i64 0, .int .i64 0, .slice none 0 0, .slice none 0 0, .slice none 0 0]).cells.toList [one (Ag .u32 ((A1.mk (0 : Int) (List.replicate 32 0) (0 : Int) (AE.mk (0 : Int) [] [] [])).B0)), Af 32 ((A1.mk (0 : Int) (List.replicate 32 0) (0 : Int) (AE.mk (0 : Int) [] [] [])).EP), one (Ag .i64 ((A1.mk (0 : Int) (List.replicate 32 0) (0 : Int) (AE.mk (0 : Int) [] [] [])).Bn)), one (Ag .i64 (((A1.mk (0 : Int) (List.replicate 32 0) (0 : Int) (AE.mk (0 : Int) [] [] [])).C1).Cc)), one (AJ (dC 32) (((A1.mk (0 : Int) (List.replicate 32 0) (0 : Int) (AE.mk (0 : Int) [] [] [])).C1).Dl)), one (AJ (dC 32) (((A1.mk (0 : Int) (List.replicate 32 0) (0 : Int) (AE.mk (0 : Int) [] [] [])).C1).CZ)), one (AJ (dC 32) (((A1.mk (0 : Int) (List.replicate 32 0) (0 : Int) (AE.mk (0 : Int) [] [] [])).C1).Dk))] := fun _ => ⟨[.int .u32 0], _, rfl, ⟨_, rfl, rfl, rfl, by decide⟩, ⟨[.int .u8 0, .int .u8 0, .int .u8 0, .int .u8 0, .int .u8 0, .int .u8 0, .int .u8 0, .int .u8 0, .int .u8 0, .int .u8 0, .int .u8 0, .int .u8 0, .int .u8 0, .int .u8 0, .int .u8 0, .int .u8 0, .int .u8 0, .int .u8 0, .int .u8 0, .int .u8 0, .int .u8 0, .int .u8 0, .int .u8 0, .int .u8 0, .int .u8 0, .int .u8 0, .int .u8 0, .int .u8 0, .int .u8 0, .int .u8 0, .int .u8 0, .int .u8 0], _, rfl, ⟨rfl, rfl⟩, ⟨[.int .i64 0], _, rfl, ⟨_, rfl, rfl, rfl, by decide⟩, ⟨[.int .i64 0], _, rfl, ⟨_, rfl, rfl, rfl, by decide⟩, ⟨[.slice none 0 0], _, rfl, ⟨_, rfl, rfl, by decide, .inl ⟨rfl, rfl⟩⟩, ⟨[.slice none 0 0], _, rfl, ⟨_, rfl, rfl, by decide, .inl ⟨rfl, rfl⟩⟩, ⟨[.slice none 0 0], _, rfl, ⟨_, rfl, rfl, by decide, .inl ⟨rfl, rfl⟩⟩, rfl⟩⟩⟩⟩⟩⟩⟩
theorem LU : ∀ Φ, Cl Φ (Value.agg #[.int .u8 0, .int .u8 0, .int .u8 0, .int .u8 0, .int .u8 0, .int .u8 0, .int .u8 0, .int .u8 0, .int .u8 0, .int .u8 0, .int .u8 0, .int .u8 0, .int .u8 0, .int .u8 0, .int .u8 0, .int .u8 0, .int .u8 0, .int .u8 0, .int .u8 0, .int .u8 0, .int .u8 0, .int .u8 0, .int .u8 0, .int .u8 0, .int .u8 0, .int .u8 0, .int .u8 0, .int .u8 0, .int .u8 0, .int .u8 0, .int .u8 0, .int .u8 0, .int .i64 0, .int .u8 0, .int .u8 0, .int .u8 0, .int .u8 0, .int .u8 0, .int .u8 0, .int .u8 0, .int .u8 0, .int .u8 0, .int .u8 0, .int .u8 0, .int .u8 0, .int .u8 0, .int .u8 0, .int .u8 0, .int .u8 0, .int .u8 0, .int .u8 0, .int .u8 0, .int .u8 0, .int .u8 0, .int .u8 0, .int .u8 0, .int .u8 0, .int .u8 0, .int .u8 0, .int .u8 0, .int .u8 0, .int .u8 0, .int .u8 0, .int .u8 0, .int .u8 0]).cells.toList [Af 32 ((Al.mk (List.replicate 32 0) (0 : Int) (List.replicate 32 0)).BJ), one (Ag .i64 ((Al.mk (List.replicate 32 0) (0 : Int) (List.replicate 32 0)).BD)), Af 32 ((Al.mk (List.replicate 32 0) (0 : Int) (List.replicate 32 0)).Bt)] := fun _ => ⟨[.int .u8 0, .int .u8 0, .int .u8 0, .int .u8 0, .int .u8 0, .int .u8 0, .int .u8 0, .int .u8 0, .int .u8 0, .int .u8 0, .int .u8 0, .int .u8 0, .int .u8 0, .int .u8 0, .int .u8 0, .int .u8 0, .int .u8 0, .int .u8 0, .int .u8 0, .int .u8 0, .int .u8 0, .int .u8 0, .int .u8 0, .int .u8 0, .int .u8 0, .int .u8 0, .int .u8 0, .int .u8 0, .int .u8 0, .int .u8 0, .int .u8 0, .int .u8 0], _, rfl, ⟨rfl, rfl⟩, ⟨[.int .i64 0], _, rfl, ⟨_, rfl, rfl, rfl, by decide⟩, ⟨[.int .u8 0, .int .u8 0, .int .u8 0, .int .u8 0, .int .u8 0, .int .u8 0, .int .u8 0, .int .u8 0, .int .u8 0, .int .u8 0, .int .u8 0, .int .u8 0, .int .u8 0, .int .u8 0, .int .u8 0, .int .u8 0, .int .u8 0, .int .u8 0, .int .u8 0, .int .u8 0, .int .u8 0, .int .u8 0, .int .u8 0, .int .u8 0, .int .u8 0, .int .u8 0, .int .u8 0, .int .u8 0, .int .u8 0, .int .u8 0, .int .u8 0, .int .u8 0], _, rfl, ⟨rfl, rfl⟩, rfl⟩⟩⟩
theorem PO : ∀ Φ, Cl Φ (Value.agg zeroCells113).cells.toList [C7 33 32 (dC 32) (Bk 32) (List.replicate 33 (List.replicate 32 0))] := QD (zs := [.int .u8 0, .int .u8 0, .int .u8 0, .int .u8 0, .int .u8 0, .int .u8 0, .int .u8 0, .int .u8 0, .int .u8 0, .int .u8 0, .int .u8 0, .int .u8 0, .int .u8 0, .int .u8 0, .int .u8 0, .int .u8 0, .int .u8 0, .int .u8 0, .int .u8 0, .int .u8 0, .int .u8 0, .int .u8 0, .int .u8 0, .int .u8 0, .int .u8 0, .int .u8 0, .int .u8 0, .int .u8 0, .int .u8 0, .int .u8 0, .int .u8 0, .int .u8 0]) (by kernel_rfl) (fun _ => ⟨[.int .u8 0, .int .u8 0, .int .u8 0, .int .u8 0, .int .u8 0, .int .u8 0, .int .u8 0, .int .u8 0, .int .u8 0, .int .u8 0, .int .u8 0, .int .u8 0, .int .u8 0, .int .u8 0, .int .u8 0, .int .u8 0, .int .u8 0, .int .u8 0, .int .u8 0, .int .u8 0, .int .u8 0, .int .u8 0, .int .u8 0, .int .u8 0, .int .u8 0, .int .u8 0, .int .u8 0, .int .u8 0, .int .u8 0, .int .u8 0, .int .u8 0, .int .u8 0], _, rfl, ⟨rfl, rfl⟩, rfl⟩)
theorem RH : ∀ Φ, Cl Φ (Value.agg zeroCells187).cells.toList [C7 64 32 (dC 32) (Bk 32) (List.replicate 64 (List.replicate 32 0))] := QD (zs := [.int .u8 0, .int .u8 0, .int .u8 0, .int .u8 0, .int .u8 0, .int .u8 0, .int .u8 0, .int .u8 0, .int .u8 0, .int .u8 0, .int .u8 0, .int .u8 0, .int .u8 0, .int .u8 0, .int .u8 0, .int .u8 0, .int .u8 0, .int .u8 0, .int .u8 0, .int .u8 0, .int .u8 0, .int .u8 0, .int .u8 0, .int .u8 0, .int .u8 0, .int .u8 0, .int .u8 0, .int .u8 0, .int .u8 0, .int .u8 0, .int .u8 0, .int .u8 0]) (by kernel_rfl) (fun _ => ⟨[.int .u8 0, .int .u8 0, .int .u8 0, .int .u8 0, .int .u8 0, .int .u8 0, .int .u8 0, .int .u8 0, .int .u8 0, .int .u8 0, .int .u8 0, .int .u8 0, .int .u8 0, .int .u8 0, .int .u8 0, .int .u8 0, .int .u8 0, .int .u8 0, .int .u8 0, .int .u8 0, .int .u8 0, .int .u8 0, .int .u8 0, .int .u8 0, .int .u8 0, .int .u8 0, .int .u8 0, .int .u8 0, .int .u8 0, .int .u8 0, .int .u8 0, .int .u8 0], _, rfl, ⟨rfl, rfl⟩, rfl⟩)
theorem z208 : ∀ Φ, Cl Φ (Value.agg #[.int .u32 0, .int .u32 0, .int .u32 0, .int .u32 0, .int .u32 0, .int .u32 0, .int .u32 0, .int .u32 0]).cells.toList [AY .u32 8 (List.replicate 8 0)] := fun _ => ⟨[.int .u32 0, .int .u32 0, .int .u32 0, .int .u32 0, .int .u32 0, .int .u32 0, .int .u32 0, .int .u32 0], _, rfl, ⟨rfl, rfl, by decide⟩, rfl⟩
theorem QZ : ∀ Φ, Cl Φ (Value.agg #[.int .u8 0, .int .u8 0, .int .u8 0, .int .u8 0, .int .u8 0, .int .u8 0, .int .u8 0, .int .u8 0]).cells.toList [Af 8 (List.replicate 8 0)] := fun _ => ⟨[.int .u8 0, .int .u8 0, .int .u8 0, .int .u8 0, .int .u8 0, .int .u8 0, .int .u8 0, .int .u8 0], _, rfl, ⟨rfl, rfl⟩, rfl⟩
theorem PN : ∀ Φ, Cl Φ (Value.agg #[.int .u32 0, .int .u32 0, .int .u32 0, .int .u32 0, .int .u32 0, .int .u32 0, .int .u32 0, .int .u32 0, .string ⟨#[]⟩, .int .u64 0]).cells.toList [AY .u32 8 ((AO.mk (List.replicate 8 0) [] (0 : Int)).Cb), one (Br ((AO.mk (List.replicate 8 0) [] (0 : Int)).B3)), one (Ag .u64 ((AO.mk (List.replicate 8 0) [] (0 : Int)).Cz))] := fun _ => ⟨[.int .u32 0, .int .u32 0, .int .u32 0, .int .u32 0, .int .u32 0, .int .u32 0, .int .u32 0, .int .u32 0], _, rfl, ⟨rfl, rfl, by decide⟩, ⟨[.string ⟨#[]⟩], _, rfl, ⟨_, rfl, rfl, rfl, by decide⟩, ⟨[.int .u64 0], _, rfl, ⟨_, rfl, rfl, rfl, by decide⟩, rfl⟩⟩⟩
theorem NX : ∀ Φ, Cl Φ (Value.agg #[.int .u32 0, .int .u32 0, .int .u32 0, .int .u32 0, .int .u32 0, .int .u32 0, .int .u32 0, .int .u32 0, .int .u32 0, .int .u32 0, .int .u32 0, .int .u32 0, .int .u32 0, .int .u32 0, .int .u32 0, .int .u32 0, .int .u32 0, .int .u32 0, .int .u32 0, .int .u32 0, .int .u32 0, .int .u32 0, .int .u32 0, .int .u32 0, .int .u32 0, .int .u32 0, .int .u32 0, .int .u32 0, .int .u32 0, .int .u32 0, .int .u32 0, .int .u32 0, .int .u32 0, .int .u32 0, .int .u32 0, .int .u32 0, .int .u32 0, .int .u32 0, .int .u32 0, .int .u32 0, .int .u32 0, .int .u32 0, .int .u32 0, .int .u32 0, .int .u32 0, .int .u32 0, .int .u32 0, .int .u32 0, .int .u32 0, .int .u32 0, .int .u32 0, .int .u32 0, .int .u32 0, .int .u32 0, .int .u32 0, .int .u32 0, .int .u32 0, .int .u32 0, .int .u32 0, .int .u32 0, .int .u32 0, .int .u32 0, .int .u32 0, .int .u32 0]).cells.toList [AY .u32 64 (List.replicate 64 0)] := fun _ => ⟨[.int .u32 0, .int .u32 0, .int .u32 0, .int .u32 0, .int .u32 0, .int .u32 0, .int .u32 0, .int .u32 0, .int .u32 0, .int .u32 0, .int .u32 0, .int .u32 0, .int .u32 0, .int .u32 0, .int .u32 0, .int .u32 0, .int .u32 0, .int .u32 0, .int .u32 0, .int .u32 0, .int .u32 0, .int .u32 0, .int .u32 0, .int .u32 0, .int .u32 0, .int .u32 0, .int .u32 0, .int .u32 0, .int .u32 0, .int .u32 0, .int .u32 0, .int .u32 0, .int .u32 0, .int .u32 0, .int .u32 0, .int .u32 0, .int .u32 0, .int .u32 0, .int .u32 0, .int .u32 0, .int .u32 0, .int .u32 0, .int .u32 0, .int .u32 0, .int .u32 0, .int .u32 0, .int .u32 0, .int .u32 0, .int .u32 0, .int .u32 0, .int .u32 0, .int .u32 0, .int .u32 0, .int .u32 0, .int .u32 0, .int .u32 0, .int .u32 0, .int .u32 0, .int .u32 0, .int .u32 0, .int .u32 0, .int .u32 0, .int .u32 0, .int .u32 0], _, rfl, ⟨rfl, rfl, by decide⟩, rfl⟩
theorem QY : ∀ Φ, Cl Φ (Value.agg #[.int .u8 0, .int .u8 0, .int .u8 0, .int .u8 0, .int .u8 0, .int .u8 0, .int .u8 0, .int .u8 0, .int .u8 0, .int .u8 0, .int .u8 0, .int .u8 0, .int .u8 0, .int .u8 0, .int .u8 0, .int .u8 0, .int .u8 0, .int .u8 0, .int .u8 0, .int .u8 0, .int .u8 0, .int .u8 0, .int .u8 0, .int .u8 0, .int .u8 0, .int .u8 0, .int .u8 0, .int .u8 0, .int .u8 0, .int .u8 0, .int .u8 0, .int .u8 0, .int .i64 0, .slice none 0 0]).cells.toList [Af 32 (List.replicate 32 0), one (Ag .i64 (0 : Int)), one (Az (.slice none 0 0))] := fun _ => ⟨[.int .u8 0, .int .u8 0, .int .u8 0, .int .u8 0, .int .u8 0, .int .u8 0, .int .u8 0, .int .u8 0, .int .u8 0, .int .u8 0, .int .u8 0, .int .u8 0, .int .u8 0, .int .u8 0, .int .u8 0, .int .u8 0, .int .u8 0, .int .u8 0, .int .u8 0, .int .u8 0, .int .u8 0, .int .u8 0, .int .u8 0, .int .u8 0, .int .u8 0, .int .u8 0, .int .u8 0, .int .u8 0, .int .u8 0, .int .u8 0, .int .u8 0, .int .u8 0], _, rfl, ⟨rfl, rfl⟩, ⟨[.int .i64 0], _, rfl, ⟨_, rfl, rfl, rfl, by decide⟩, ⟨[.slice none 0 0], _, rfl, ⟨_, rfl, rfl, rfl⟩, rfl⟩⟩⟩
theorem QC : ∀ Φ, Cl Φ (Value.agg #[.pointer none, .slice none 0 0]).cells.toList [one (Az (.pointer none)), one (Az (.slice none 0 0))] := fun _ => ⟨[.pointer none], _, rfl, ⟨_, rfl, rfl, rfl⟩, ⟨[.slice none 0 0], _, rfl, ⟨_, rfl, rfl, rfl⟩, rfl⟩⟩
theorem R8 : ∀ p, prog.built 31 p = Instr.fill (fun i => (#[(0, 1), (1, 1), (2, 1), (3, 1), (4, 1), (5, 1)] : Array (Nat × Nat))[i]?) (Value.agg #[.int .u32 0, .int .u32 0, .int .u32 0, .string ⟨#[]⟩, .string ⟨#[]⟩, .string ⟨#[]⟩]).cells.toList.toArray p := by intro p; kernel_rfl
theorem Rw : ∀ p, prog.built 33 p = Instr.fill (fun i => some (i * 1, 1)) (List.replicate 32 (.int .u8 0)).toArray p := by intro p; kernel_rfl
theorem R7 : ∀ p, prog.built 37 p = Instr.fill (fun i => (#[(0, 32), (32, 1)] : Array (Nat × Nat))[i]?) (Value.agg #[.int .u8 0, .int .u8 0, .int .u8 0, .int .u8 0, .int .u8 0, .int .u8 0, .int .u8 0, .int .u8 0, .int .u8 0, .int .u8 0, .int .u8 0, .int .u8 0, .int .u8 0, .int .u8 0, .int .u8 0, .int .u8 0, .int .u8 0, .int .u8 0, .int .u8 0, .int .u8 0, .int .u8 0, .int .u8 0, .int .u8 0, .int .u8 0, .int .u8 0, .int .u8 0, .int .u8 0, .int .u8 0, .int .u8 0, .int .u8 0, .int .u8 0, .int .u8 0, .int .u64 0]).cells.toList.toArray p := by intro p; kernel_rfl
theorem SB : ∀ p, prog.built 41 p = Instr.fill (fun i => (#[(0, 1), (1, 1), (2, 32), (34, 1), (35, 1), (36, 32), (68, 1), (69, 1), (70, 1), (71, 1)] : Array (Nat × Nat))[i]?) (Value.agg #[.int .u32 0, .int .u32 0, .int .u8 0, .int .u8 0, .int .u8 0, .int .u8 0, .int .u8 0, .int .u8 0, .int .u8 0, .int .u8 0, .int .u8 0, .int .u8 0, .int .u8 0, .int .u8 0, .int .u8 0, .int .u8 0, .int .u8 0, .int .u8 0, .int .u8 0, .int .u8 0, .int .u8 0, .int .u8 0, .int .u8 0, .int .u8 0, .int .u8 0, .int .u8 0, .int .u8 0, .int .u8 0, .int .u8 0, .int .u8 0, .int .u8 0, .int .u8 0, .int .u8 0, .int .u8 0, .slice none 0 0, .int .u64 0, .int .u8 0, .int .u8 0, .int .u8 0, .int .u8 0, .int .u8 0, .int .u8 0, .int .u8 0, .int .u8 0, .int .u8 0, .int .u8 0, .int .u8 0, .int .u8 0, .int .u8 0, .int .u8 0, .int .u8 0, .int .u8 0, .int .u8 0, .int .u8 0, .int .u8 0, .int .u8 0, .int .u8 0, .int .u8 0, .int .u8 0, .int .u8 0, .int .u8 0, .int .u8 0, .int .u8 0, .int .u8 0, .int .u8 0, .int .u8 0, .int .u8 0, .int .u8 0, .slice none 0 0, .slice none 0 0, .bool false, .bool false]).cells.toList.toArray p := by intro p; kernel_rfl
theorem SA : ∀ p, prog.built 58 p = Instr.fill (fun i => (#[(0, 32), (32, 1), (33, 1)] : Array (Nat × Nat))[i]?) (Value.agg #[.int .u8 0, .int .u8 0, .int .u8 0, .int .u8 0, .int .u8 0, .int .u8 0, .int .u8 0, .int .u8 0, .int .u8 0, .int .u8 0, .int .u8 0, .int .u8 0, .int .u8 0, .int .u8 0, .int .u8 0, .int .u8 0, .int .u8 0, .int .u8 0, .int .u8 0, .int .u8 0, .int .u8 0, .int .u8 0, .int .u8 0, .int .u8 0, .int .u8 0, .int .u8 0, .int .u8 0, .int .u8 0, .int .u8 0, .int .u8 0, .int .u8 0, .int .u8 0, .int .i64 0, .slice none 0 0]).cells.toList.toArray p := by intro p; kernel_rfl
theorem Qw : ∀ p, prog.built 69 p = Instr.fill (fun i => (#[(0, 1), (1, 1), (2, 1), (3, 1)] : Array (Nat × Nat))[i]?) (Value.agg #[.int .i64 0, .slice none 0 0, .slice none 0 0, .slice none 0 0]).cells.toList.toArray p := by intro p; kernel_rfl
theorem R6 : ∀ p, prog.built 71 p = Instr.fill (fun i => (#[(0, 1), (1, 32), (33, 32), (65, 4)] : Array (Nat × Nat))[i]?) (Value.agg #[.int .u32 0, .int .u8 0, .int .u8 0, .int .u8 0, .int .u8 0, .int .u8 0, .int .u8 0, .int .u8 0, .int .u8 0, .int .u8 0, .int .u8 0, .int .u8 0, .int .u8 0, .int .u8 0, .int .u8 0, .int .u8 0, .int .u8 0, .int .u8 0, .int .u8 0, .int .u8 0, .int .u8 0, .int .u8 0, .int .u8 0, .int .u8 0, .int .u8 0, .int .u8 0, .int .u8 0, .int .u8 0, .int .u8 0, .int .u8 0, .int .u8 0, .int .u8 0, .int .u8 0, .int .u8 0, .int .u8 0, .int .u8 0, .int .u8 0, .int .u8 0, .int .u8 0, .int .u8 0, .int .u8 0, .int .u8 0, .int .u8 0, .int .u8 0, .int .u8 0, .int .u8 0, .int .u8 0, .int .u8 0, .int .u8 0, .int .u8 0, .int .u8 0, .int .u8 0, .int .u8 0, .int .u8 0, .int .u8 0, .int .u8 0, .int .u8 0, .int .u8 0, .int .u8 0, .int .u8 0, .int .u8 0, .int .u8 0, .int .u8 0, .int .u8 0, .int .u8 0, .int .i64 0, .slice none 0 0, .slice none 0 0, .slice none 0 0]).cells.toList.toArray p := by intro p; kernel_rfl
theorem R5 : ∀ p, prog.built 84 p = Instr.fill (fun i => (#[(0, 1), (1, 32), (33, 1), (34, 4)] : Array (Nat × Nat))[i]?) (Value.agg #[.int .u32 0, .int .u8 0, .int .u8 0, .int .u8 0, .int .u8 0, .int .u8 0, .int .u8 0, .int .u8 0, .int .u8 0, .int .u8 0, .int .u8 0, .int .u8 0, .int .u8 0, .int .u8 0, .int .u8 0, .int .u8 0, .int .u8 0, .int .u8 0, .int .u8 0, .int .u8 0, .int .u8 0, .int .u8 0, .int .u8 0, .int .u8 0, .int .u8 0, .int .u8 0, .int .u8 0, .int .u8 0, .int .u8 0, .int .u8 0, .int .u8 0, .int .u8 0, .int .u8 0, .int .i64 0, .int .i64 0, .slice none 0 0, .slice none 0 0, .slice none 0 0]).cells.toList.toArray p := by intro p; kernel_rfl
theorem Pt : ∀ p, prog.built 110 p = Instr.fill (fun i => (#[(0, 32), (32, 1), (33, 32)] : Array (Nat × Nat))[i]?) (Value.agg #[.int .u8 0, .int .u8 0, .int .u8 0, .int .u8 0, .int .u8 0, .int .u8 0, .int .u8 0, .int .u8 0, .int .u8 0, .int .u8 0, .int .u8 0, .int .u8 0, .int .u8 0, .int .u8 0, .int .u8 0, .int .u8 0, .int .u8 0, .int .u8 0, .int .u8 0, .int .u8 0, .int .u8 0, .int .u8 0, .int .u8 0, .int .u8 0, .int .u8 0, .int .u8 0, .int .u8 0, .int .u8 0, .int .u8 0, .int .u8 0, .int .u8 0, .int .u8 0, .int .i64 0, .int .u8 0, .int .u8 0, .int .u8 0, .int .u8 0, .int .u8 0, .int .u8 0, .int .u8 0, .int .u8 0, .int .u8 0, .int .u8 0, .int .u8 0, .int .u8 0, .int .u8 0, .int .u8 0, .int .u8 0, .int .u8 0, .int .u8 0, .int .u8 0, .int .u8 0, .int .u8 0, .int .u8 0, .int .u8 0, .int .u8 0, .int .u8 0, .int .u8 0, .int .u8 0, .int .u8 0, .int .u8 0, .int .u8 0, .int .u8 0, .int .u8 0, .int .u8 0]).cells.toList.toArray p := by intro p; kernel_rfl
theorem QM : ∀ p, prog.built 208 p = Instr.fill (fun i => some (i * 1, 1)) (List.replicate 8 (.int .u32 0)).toArray p := by intro p; kernel_rfl
theorem Sa : ∀ p, prog.built 247 p = Instr.fill (fun i => (#[(0, 8), (8, 1), (9, 1)] : Array (Nat × Nat))[i]?) (Value.agg #[.int .u32 0, .int .u32 0, .int .u32 0, .int .u32 0, .int .u32 0, .int .u32 0, .int .u32 0, .int .u32 0, .string ⟨#[]⟩, .int .u64 0]).cells.toList.toArray p := by intro p; kernel_rfl
theorem R9 : ∀ p, prog.built 262 p = Instr.fill (fun i => some (i * 1, 1)) (List.replicate 64 (.int .u32 0)).toArray p := by intro p; kernel_rfl
structure Ea where
 DF : List (UInt8)
def QX (p : Value) (v1 : Value) (s : Ea) : RP := RP.sep (lb p 222 [one (DL p), one (Az v1)]) (acc v1 5 1 bC s.DF)
def Ll (p : Value) (v1 : Value) (o : Option Ea) : RP := match o with | none => RP.is (p = .pointer none) | some s => QX p v1 s
def DJ (p : Value) (o : Option Ea) : RP := RP.ex fun v1 => Ll p v1 o
theorem Ji {p : Value} {v1 : Value} {o : Option Ea} : RP.le (Ll p v1 o) (DJ p o) := fun _ _ _ q => ⟨v1, q⟩
theorem So : ∀ Φ w, Dc Φ w → (DJ (.pointer none) none).p Φ [] w := fun _ _ _ => ⟨.pointer none, rfl, rfl⟩
theorem LQ {p : Value} {v1 : Value} {s : Ea} : ∀ Φ f w, (QX p v1 s).p Φ f w → ∃ b, p = .pointer (some ⟨b, 0, none⟩) := fun _ _ _ ⟨_, _, _, ⟨b, _, h, _⟩, _⟩ => ⟨b, h⟩
theorem NW {p : Value} : RP.le (lb p 222 [one (Az (.pointer none)), one (Az (.slice none 0 0))]) (DJ p (some ⟨[]⟩)) := by
 rintro Φ f w ⟨b, cs, hp, hf, hb, ⟨c1, c2, rfl, ⟨q, rfl, h1, h2⟩, d1, d2, rfl, ⟨x, rfl, g1, g2⟩, hd⟩, hn⟩
 exact ⟨.slice none 0 0, f, [], by simp, ⟨b, _, hp, hf, hb, ⟨[q], _, rfl, ⟨q, rfl, h1, .inl h2, b, hp⟩, [x], d2, rfl, ⟨x, rfl, g1, g2⟩, hd⟩, hn⟩, by simp [CW], .inl ⟨rfl, rfl, rfl⟩⟩
structure AD where
 Ei : List ((List UInt8) × (List UInt8))
 Fm : List ((List UInt8) × Bool)
def QV (p : Value) (v0 : Value) (v1 : Value) (s : AD) : RP := RP.sep (lb p 254 [one (Az v0), one (Az v1)]) (RP.sep (D7 v0 FR (fun l => l.length = 32) (fun u y => RP.val (Br y) u) s.Ei) (D7 v1 Il (fun _ => True) (fun u y => RP.val (AL y) u) s.Fm))
def NT (p : Value) (v0 : Value) (v1 : Value) (o : Option AD) : RP := match o with | none => RP.is (p = .pointer none) | some s => QV p v0 v1 s
def AK (p : Value) (o : Option AD) : RP := RP.ex fun v0 => RP.ex fun v1 => NT p v0 v1 o
theorem Lk {p : Value} {v0 : Value} {v1 : Value} {o : Option AD} : RP.le (NT p v0 v1 o) (AK p o) := fun _ _ _ q => ⟨v0, v1, q⟩
theorem NU : ∀ Φ w, Dc Φ w → (AK (.pointer none) none).p Φ [] w := fun _ _ _ => ⟨.pointer none, .pointer none, rfl, rfl⟩
theorem RB {p : Value} {v0 : Value} {v1 : Value} {s : AD} : ∀ Φ f w, (QV p v0 v1 s).p Φ f w → ∃ b, p = .pointer (some ⟨b, 0, none⟩) := fun _ _ _ ⟨_, _, _, ⟨b, _, h, _⟩, _⟩ => ⟨b, h⟩
structure A2 where
 DM : List (List UInt8)
 BV : List ((List UInt8) × (List (List UInt8)))
def PH (p : Value) (v0 : Value) (v1 : Value) (s : A2) : RP := RP.sep (lb p 215 [one (Az v0), one (Az v1)]) (RP.sep (acc v0 9 1 Ed s.DM) (D7 v1 FR (fun l => l.length = 32) (fun u y => acc u 9 1 Ed y) s.BV))
def LO (p : Value) (v0 : Value) (v1 : Value) (o : Option A2) : RP := match o with | none => RP.is (p = .pointer none) | some s => PH p v0 v1 s
def AZ (p : Value) (o : Option A2) : RP := RP.ex fun v0 => RP.ex fun v1 => LO p v0 v1 o
theorem Ie {p : Value} {v0 : Value} {v1 : Value} {o : Option A2} : RP.le (LO p v0 v1 o) (AZ p o) := fun _ _ _ q => ⟨v0, v1, q⟩
theorem GV : ∀ Φ w, Dc Φ w → (AZ (.pointer none) none).p Φ [] w := fun _ _ _ => ⟨.pointer none, .pointer none, rfl, rfl⟩
theorem QB {p : Value} {v0 : Value} {v1 : Value} {s : A2} : ∀ Φ f w, (PH p v0 v1 s).p Φ f w → ∃ b, p = .pointer (some ⟨b, 0, none⟩) := fun _ _ _ ⟨_, _, _, ⟨b, _, h, _⟩, _⟩ => ⟨b, h⟩
structure MK where
 f_s : List UInt8
 f_e : Int
def QT (p : Value) (s : MK) : RP := (lb p 259 [one (Br s.f_s), one (Ag .i64 s.f_e)])
def QS (p : Value) (o : Option MK) : RP := match o with | none => RP.is (p = .pointer none) | some s => QT p s
def QU (p : Value) (o : Option MK) : RP := QS p o
theorem RE {p : Value} {o : Option MK} : RP.le (QS p o) (QU p o) := fun _ _ _ q => q
theorem Sn : ∀ Φ w, Dc Φ w → (QU (.pointer none) none).p Φ [] w := fun _ _ _ => ⟨rfl, rfl⟩
theorem SE {p : Value} {s : MK} : ∀ Φ f w, (QT p s).p Φ f w → ∃ b, p = .pointer (some ⟨b, 0, none⟩) := fun _ _ _ ⟨b, _, h, _⟩ => ⟨b, h⟩
def QR (p : Value) (v2 : Value) (s : Am) : RP := RP.sep (lb p 58 [Af 32 s.CV, one (Ag .i64 s.CH), one (Az v2)]) (acc v2 33 32 (dC 32) s.Bi)
def QQ (p : Value) (v2 : Value) (o : Option Am) : RP := match o with | none => RP.is (p = .pointer none) | some s => QR p v2 s
def HZ (p : Value) (o : Option Am) : RP := RP.ex fun v2 => QQ p v2 o
theorem Li {p : Value} {v2 : Value} {o : Option Am} : RP.le (QQ p v2 o) (HZ p o) := fun _ _ _ q => ⟨v2, q⟩
theorem Sm : ∀ Φ w, Dc Φ w → (HZ (.pointer none) none).p Φ [] w := fun _ _ _ => ⟨.pointer none, rfl, rfl⟩
theorem PF {p : Value} {v2 : Value} {s : Am} : ∀ Φ f w, (QR p v2 s).p Φ f w → ∃ b, p = .pointer (some ⟨b, 0, none⟩) := fun _ _ _ ⟨_, _, _, ⟨b, _, h, _⟩, _⟩ => ⟨b, h⟩
def Fl : List Int := [1779033703, 3144134277, 1013904242, 2773480762, 1359893119, 2600822924, 528734635, 1541459225]
def Gu : List Int := [1116352408, 1899447441, 3049323471, 3921009573, 961987163, 1508970993, 2453635748, 2870763221, 3624381080, 310598401, 607225278, 1426881987, 1925078388, 2162078206, 2614888103, 3248222580, 3835390401, 4022224774, 264347078, 604807628, 770255983, 1249150122, 1555081692, 1996064986, 2554220882, 2821834349, 2952996808, 3210313671, 3336571891, 3584528711, 113926993, 338241895, 666307205, 773529912, 1294757372, 1396182291, 1695183700, 1986661051, 2177026350, 2456956037, 2730485921, 2820302411, 3259730800, 3345764771, 3516065817, 3600352804, 4094571909, 275423344, 430227734, 506948616, 659060556, 883997877, 958139571, 1322822218, 1537002063, 1747873779, 1955562222, 2024104815, 2227730452, 2361852424, 2428436474, 2756734187, 3204031479, 3329325298]
def KG : FP := ⟨fun Φ => (Fy [AY .u32 8 Fl]).p Φ (.pointer (some ⟨0, 0, none⟩)) ∧ (Fy [AY .u32 64 Gu]).p Φ (.pointer (some ⟨1, 0, none⟩)), fun hle h => ⟨(Fy _).mono hle h.1, (Fy _).mono hle h.2⟩⟩
set_option maxHeartbeats 1000000 in
set_option maxRecDepth 100000 in
theorem Oo (b : Nat) (w : World) (h0 : w.cell? ⟨b, 0, none⟩ = some (.pointer none)) (hsh : w.shape? b = some (222, 2)) (hfz : w.frozen? ⟨b, 0, none⟩ = false) :
  Calls prog 132 #[.pointer (some ⟨b, 0, none⟩)] w fun e w' => e = .returned (.tuple #[]) ∧ w' = w.setCell ⟨b, 0, none⟩ (.pointer (some ⟨b, 0, none⟩)) := by
 have hsz : (prog.info? 222).map (·.size) = some 2 := by kernel_rfl
 have hlies : liesAt prog prog.depth 222 (2 / prog.cellsOf 222) 0 222 1 = true := by kernel_rfl
 obtain ⟨j, hj, hjs⟩ := Option.map_eq_some_iff.1 hsz
 have mixed : prog.follows .mixedOrders = true := by kernel_rfl
 go_enter func132, ntmps132
 go_wp2
 rw [Lib.run_to_unsafe w ⟨b, 0, none⟩ underlying220 underlying267 hj (by rw [hjs]; decide) hsh (Nat.zero_lt_succ 1)]
 simp only [Result.andThen]
 rw [Oper.upon_value]
 go_wp2
 rw [run_callFunc_extern func142 (by kernel_rfl) (by kernel_rfl) (by kernel_rfl) (e := Extern.AbiNoEscape.same) (by kernel_rfl)]
 rw [Lib.run_noEscape]
 simp only [Result.andThen]
 rw [Oper.upon_value]
 go_wp2
 rw [Lib.run_from_unsafe w ⟨b, 0, none⟩ underlying267 underlying220 hj hsh hlies]
 simp only [Result.andThen]
 rw [Oper.upon_value]
 go_wp2
 go_end0
 exact ⟨rfl, rfl⟩
set_option maxHeartbeats 1000000 in
set_option maxRecDepth 100000 in
theorem Pq (b : Nat) (w : World) (h0 : w.cell? ⟨b, 0, none⟩ = some (.pointer (some ⟨b, 0, none⟩))) :
  Calls prog 132 #[.pointer (some ⟨b, 0, none⟩)] w fun e w' => e = .returned (.tuple #[]) ∧ w' = w := by
 have hsz : (prog.info? 222).map (·.size) = some 2 := by kernel_rfl
 obtain ⟨j, hj, _⟩ := Option.map_eq_some_iff.1 hsz
 have mixed : prog.follows .mixedOrders = true := by kernel_rfl
 go_enter func132, ntmps132
 go_wp2
 rw [Lib.run_neq_ptr_same w _ underlying220 hj]
 go_wp2
 go_end0
 exact ⟨rfl, rfl⟩
theorem G5 {p v : Value} : AH prog KG 132 [Az p] [lb p 222 [one (DL p), one (Az v)]] (fun _ => [lb p 222 [one (DL p), one (Az v)]]) (Db []) := LJ Oo Pq

theorem Ow (a b c : Int) (w : World) (ha : 0 ≤ a) (hb : 0 ≤ b) (hc : 0 ≤ c) (h1 : c ≤ 1) : (callFunc 93 #[.int .u64 a, .int .u64 b, .int .u64 c]).run prog w = .ok (.value (.tuple #[.int .u64 ((a + b + c) % 18446744073709551616), .int .u64 ((a + b + c) / 18446744073709551616)])) w := by
 rw [run_callFunc_extern func93 (by kernel_rfl) (by kernel_rfl) (by kernel_rfl) (e := add64Entry) (by kernel_rfl), run_add64 a b c ha hb hc h1]
 rfl

end Go.Proofs.YteboiefnflipjaaGreatDoor
