/- The functions' Lean twins and contracts, printed by this session's own program. -/
import Derived.Test.YteboiefnflipjaaGreatDoorM2
import Derived.Test.YteboiefnflipjaaGreatDoorK1
import Derived.Test.YteboiefnflipjaaGreatDoorProg
import Derived.Shelf.Strings.Builder1
import Derived.Lib.Repeat
namespace Go.Proofs.YteboiefnflipjaaGreatDoor
open _root_.Go.Proofs.Tryz
open Go Go.RowKit Go.Proofs
set_option maxRecDepth 100000
set_option linter.unusedVariables false
set_option linter.unusedSimpArgs false
theorem QX (c : Ck) (L : List Ck) : lens (c :: L) = c.n + lens L := rfl
theorem QW : lens [] = 0 := rfl
theorem lz {Φ : BR} {c : Ck} {L : List Ck} {xs ys : List Value} (h1 : c.rel Φ xs) (h2 : B0 Φ ys L) : B0 Φ (List.append xs ys) (c :: L) := ⟨xs, ys, rfl, h1, h2⟩
theorem mixed : prog.follows .mixedOrders = true := by kernel_rfl
structure Ai where
 CK : Int
 Dl : Int
 Fk : Int
 Fy : List UInt8
 EC : List UInt8
 Gg : List UInt8
instance : Inhabited Ai := ⟨(Ai.mk (0 : Int) (0 : Int) (0 : Int) [] [] [])⟩
def Ai.ck (x : Ai) : List Ck := [one (Ab .u32 x.CK), one (Ab .u32 x.Dl), one (Ab .u32 x.Fk), one (As x.Fy), one (As x.EC), one (As x.Gg)]
theorem Ai.lens (x : Ai) : lens (Ai.ck x) = 6 := rfl
structure BK where
 CN : Ai
instance : Inhabited BK := ⟨(BK.mk (Ai.mk (0 : Int) (0 : Int) (0 : Int) [] [] []))⟩
def BK.ck (x : BK) : List Ck := [one (Ab .u32 x.CN.CK), one (Ab .u32 x.CN.Dl), one (Ab .u32 x.CN.Fk), one (As x.CN.Fy), one (As x.CN.EC), one (As x.CN.Gg)]
theorem BK.lens (x : BK) : lens (BK.ck x) = 6 := rfl
structure Cd where
 BP : List UInt8
 B4 : Int
 Fa : List (List UInt8)
instance : Inhabited Cd := ⟨(Cd.mk (List.replicate 32 0) (0 : Int) [])⟩
def Cd.ck (x : Cd) : List Ck := [Af 32 x.BP, one (Ab .u32 x.B4), one (An (dC 32) x.Fa)]
theorem Cd.lens (x : Cd) : lens (Cd.ck x) = 34 := rfl
structure Ah where
 BE : Int
 Iq : List UInt8
instance : Inhabited Ah := ⟨(Ah.mk (0 : Int) [])⟩
def Ah.ck (x : Ah) : List Ck := [one (Ab .u32 x.BE), one (As x.Iq)]
theorem Ah.lens (x : Ah) : lens (Ah.ck x) = 2 := rfl
structure AD where
 DF : Int
 BE : Int
 Cl : Int
 ED : List UInt8
 Dq : List UInt8
 CJ : Int
instance : Inhabited AD := ⟨(AD.mk (0 : Int) (0 : Int) (0 : Int) (List.replicate 32 0) (List.replicate 32 0) (0 : Int))⟩
def AD.ck (x : AD) : List Ck := [one (Ab .u8 x.DF), one (Ab .u32 x.BE), one (Ab .u64 x.Cl), Af 32 x.ED, Af 32 x.Dq, one (Ab .u64 x.CJ)]
theorem AD.lens (x : AD) : lens (AD.ck x) = 68 := rfl
structure AF where
 BD : List Int
 Bx : List UInt8
 Cc : Int
instance : Inhabited AF := ⟨(AF.mk (List.replicate 8 0) [] (0 : Int))⟩
def AF.ck (x : AF) : List Ck := [AI .u32 8 x.BD, one (As x.Bx), one (Ab .u64 x.Cc)]
theorem AF.lens (x : AF) : lens (AF.ck x) = 10 := rfl
structure DW where
 FM : List UInt8
 H4 : Int
instance : Inhabited DW := ⟨(DW.mk [] (0 : Int))⟩
def DW.ck (x : DW) : List Ck := [one (As x.FM), one (Ab .i64 x.H4)]
theorem DW.lens (x : DW) : lens (DW.ck x) = 2 := rfl
structure Ag where
 BP : List UInt8
 BX : Int
 Cw : List UInt8
instance : Inhabited Ag := ⟨(Ag.mk (List.replicate 32 0) (0 : Int) (List.replicate 32 0))⟩
def Ag.ck (x : Ag) : List Ck := [Af 32 x.BP, one (Ab .i64 x.BX), Af 32 x.Cw]
theorem Ag.lens (x : Ag) : lens (Ag.ck x) = 65 := rfl
structure Av where
 Cw : List UInt8
 N3 : Int
instance : Inhabited Av := ⟨(Av.mk (List.replicate 32 0) (0 : Int))⟩
def Av.ck (x : Av) : List Ck := [Af 32 x.Cw, one (Ab .u64 x.N3)]
theorem Av.lens (x : Av) : lens (Av.ck x) = 33 := rfl
structure Ae where
 BZ : Int
 CA : Int
 Ch : List UInt8
 B3 : List (List UInt8)
 CE : Int
 BI : List UInt8
 BY : List (Av)
 AH : List (Ag)
 BU : Bool
 Ds : Bool
instance : Inhabited Ae := ⟨(Ae.mk (0 : Int) (0 : Int) (List.replicate 32 0) [] (0 : Int) (List.replicate 32 0) [] [] false false)⟩
def Ae.ck (x : Ae) : List Ck := [one (Ab .u32 x.BZ), one (Ab .u32 x.CA), Af 32 x.Ch, one (An (dC 32) x.B3), one (Ab .u64 x.CE), Af 32 x.BI, one (An Av.ck x.BY), one (An Ag.ck x.AH), one (AE x.BU), one (AE x.Ds)]
theorem Ae.lens (x : Ae) : lens (Ae.ck x) = 72 := rfl
structure AR where
 B4 : Int
 C1 : List (List UInt8)
 Cp : List (List UInt8)
 DE : List (List UInt8)
instance : Inhabited AR := ⟨(AR.mk (0 : Int) [] [] [])⟩
def AR.ck (x : AR) : List Ck := [one (Ab .i64 x.B4), one (An (dC 32) x.C1), one (An (dC 32) x.Cp), one (An (dC 32) x.DE)]
theorem AR.lens (x : AR) : lens (AR.ck x) = 4 := rfl
structure AS where
 BE : Int
 ED : List UInt8
 Dq : List UInt8
 Bh : AR
instance : Inhabited AS := ⟨(AS.mk (0 : Int) (List.replicate 32 0) (List.replicate 32 0) (AR.mk (0 : Int) [] [] []))⟩
def AS.ck (x : AS) : List Ck := [one (Ab .u32 x.BE), Af 32 x.ED, Af 32 x.Dq, one (Ab .i64 x.Bh.B4), one (An (dC 32) x.Bh.C1), one (An (dC 32) x.Bh.Cp), one (An (dC 32) x.Bh.DE)]
theorem AS.lens (x : AS) : lens (AS.ck x) = 69 := rfl
structure Cm where
 BE : Int
 N2 : List UInt8
 Ip : Int
 Bh : AR
instance : Inhabited Cm := ⟨(Cm.mk (0 : Int) (List.replicate 32 0) (0 : Int) (AR.mk (0 : Int) [] [] []))⟩
def Cm.ck (x : Cm) : List Ck := [one (Ab .u32 x.BE), Af 32 x.N2, one (Ab .i64 x.Ip), one (Ab .i64 x.Bh.B4), one (An (dC 32) x.Bh.C1), one (An (dC 32) x.Bh.Cp), one (An (dC 32) x.Bh.DE)]
theorem Cm.lens (x : Cm) : lens (Cm.ck x) = 38 := rfl
structure A9 where
 Pp : Int
 I4 : List UInt8
 I3 : List UInt8
 f_C : List UInt8
 JB : Int
 f_N : Int
 Dl : Int
 Bh : AR
 Qh : AS
 Qg : AS
 EL : Cm
 BP : List UInt8
 B4 : Int
 Fa : List (List UInt8)
 CN : Ai
instance : Inhabited A9 := ⟨(A9.mk (0 : Int) [] [] [] (0 : Int) (0 : Int) (0 : Int) (AR.mk (0 : Int) [] [] []) (AS.mk (0 : Int) (List.replicate 32 0) (List.replicate 32 0) (AR.mk (0 : Int) [] [] [])) (AS.mk (0 : Int) (List.replicate 32 0) (List.replicate 32 0) (AR.mk (0 : Int) [] [] [])) (Cm.mk (0 : Int) (List.replicate 32 0) (0 : Int) (AR.mk (0 : Int) [] [] [])) (List.replicate 32 0) (0 : Int) [] (Ai.mk (0 : Int) (0 : Int) (0 : Int) [] [] []))⟩
def A9.ck (x : A9) : List Ck := [one (Ab .i64 x.Pp), one (As x.I4), one (As x.I3), one (As x.f_C), one (Ab .u32 x.JB), one (Ab .u64 x.f_N), one (Ab .u64 x.Dl), one (Ab .i64 x.Bh.B4), one (An (dC 32) x.Bh.C1), one (An (dC 32) x.Bh.Cp), one (An (dC 32) x.Bh.DE), one (Ab .u32 x.Qh.BE), Af 32 x.Qh.ED, Af 32 x.Qh.Dq, one (Ab .i64 x.Qh.Bh.B4), one (An (dC 32) x.Qh.Bh.C1), one (An (dC 32) x.Qh.Bh.Cp), one (An (dC 32) x.Qh.Bh.DE), one (Ab .u32 x.Qg.BE), Af 32 x.Qg.ED, Af 32 x.Qg.Dq, one (Ab .i64 x.Qg.Bh.B4), one (An (dC 32) x.Qg.Bh.C1), one (An (dC 32) x.Qg.Bh.Cp), one (An (dC 32) x.Qg.Bh.DE), one (Ab .u32 x.EL.BE), Af 32 x.EL.N2, one (Ab .i64 x.EL.Ip), one (Ab .i64 x.EL.Bh.B4), one (An (dC 32) x.EL.Bh.C1), one (An (dC 32) x.EL.Bh.Cp), one (An (dC 32) x.EL.Bh.DE), Af 32 x.BP, one (Ab .u32 x.B4), one (An (dC 32) x.Fa), one (Ab .u32 x.CN.CK), one (Ab .u32 x.CN.Dl), one (Ab .u32 x.CN.Fk), one (As x.CN.Fy), one (As x.CN.EC), one (As x.CN.Gg)]
theorem A9.lens (x : A9) : lens (A9.ck x) = 227 := by
 simp only [A9.ck, QX, QW, one, Af, Ee, AI]
structure En where
 CK : List UInt8
 Fk : List UInt8
 HV : Int
 Dl : Int
 Bh : AR
instance : Inhabited En := ⟨(En.mk [] [] (0 : Int) (0 : Int) (AR.mk (0 : Int) [] [] []))⟩
def En.ck (x : En) : List Ck := [one (As x.CK), one (As x.Fk), one (Ab .u64 x.HV), one (Ab .u64 x.Dl), one (Ab .i64 x.Bh.B4), one (An (dC 32) x.Bh.C1), one (An (dC 32) x.Bh.Cp), one (An (dC 32) x.Bh.DE)]
theorem En.lens (x : En) : lens (En.ck x) = 8 := rfl
structure DH where
 CK : List UInt8
 JB : Int
 I2 : List UInt8
 Fk : List UInt8
 HV : Int
 Dl : Int
 Bh : AR
instance : Inhabited DH := ⟨(DH.mk [] (0 : Int) [] [] (0 : Int) (0 : Int) (AR.mk (0 : Int) [] [] []))⟩
def DH.ck (x : DH) : List Ck := [one (As x.CK), one (Ab .u32 x.JB), one (As x.I2), one (As x.Fk), one (Ab .u64 x.HV), one (Ab .u64 x.Dl), one (Ab .i64 x.Bh.B4), one (An (dC 32) x.Bh.C1), one (An (dC 32) x.Bh.Cp), one (An (dC 32) x.Bh.DE)]
theorem DH.lens (x : DH) : lens (DH.ck x) = 10 := rfl
structure D7 where
 CK : List UInt8
 Qi : List UInt8
 Dl : Int
 Bh : AR
instance : Inhabited D7 := ⟨(D7.mk [] [] (0 : Int) (AR.mk (0 : Int) [] [] []))⟩
def D7.ck (x : D7) : List Ck := [one (As x.CK), one (As x.Qi), one (Ab .u64 x.Dl), one (Ab .i64 x.Bh.B4), one (An (dC 32) x.Bh.C1), one (An (dC 32) x.Bh.Cp), one (An (dC 32) x.Bh.DE)]
theorem D7.lens (x : D7) : lens (D7.ck x) = 7 := rfl
structure DX where
 CK : List UInt8
 I2 : List UInt8
 Dl : Int
 Bh : AR
instance : Inhabited DX := ⟨(DX.mk [] [] (0 : Int) (AR.mk (0 : Int) [] [] []))⟩
def DX.ck (x : DX) : List Ck := [one (As x.CK), one (As x.I2), one (Ab .u64 x.Dl), one (Ab .i64 x.Bh.B4), one (An (dC 32) x.Bh.C1), one (An (dC 32) x.Bh.Cp), one (An (dC 32) x.Bh.DE)]
theorem DX.lens (x : DX) : lens (DX.ck x) = 7 := rfl
structure De where
 Cf : AS
instance : Inhabited De := ⟨(De.mk (AS.mk (0 : Int) (List.replicate 32 0) (List.replicate 32 0) (AR.mk (0 : Int) [] [] [])))⟩
def De.ck (x : De) : List Ck := [one (Ab .u32 x.Cf.BE), Af 32 x.Cf.ED, Af 32 x.Cf.Dq, one (Ab .i64 x.Cf.Bh.B4), one (An (dC 32) x.Cf.Bh.C1), one (An (dC 32) x.Cf.Bh.Cp), one (An (dC 32) x.Cf.Bh.DE)]
theorem De.lens (x : De) : lens (De.ck x) = 69 := rfl
structure Cq where
 Cf : AS
 Qj : List UInt8
instance : Inhabited Cq := ⟨(Cq.mk (AS.mk (0 : Int) (List.replicate 32 0) (List.replicate 32 0) (AR.mk (0 : Int) [] [] [])) [])⟩
def Cq.ck (x : Cq) : List Ck := [one (Ab .u32 x.Cf.BE), Af 32 x.Cf.ED, Af 32 x.Cf.Dq, one (Ab .i64 x.Cf.Bh.B4), one (An (dC 32) x.Cf.Bh.C1), one (An (dC 32) x.Cf.Bh.Cp), one (An (dC 32) x.Cf.Bh.DE), one (As x.Qj)]
theorem Cq.lens (x : Cq) : lens (Cq.ck x) = 70 := rfl
structure C4 where
 I4 : AS
 I3 : AS
 Qj : List UInt8
instance : Inhabited C4 := ⟨(C4.mk (AS.mk (0 : Int) (List.replicate 32 0) (List.replicate 32 0) (AR.mk (0 : Int) [] [] [])) (AS.mk (0 : Int) (List.replicate 32 0) (List.replicate 32 0) (AR.mk (0 : Int) [] [] [])) [])⟩
def C4.ck (x : C4) : List Ck := [one (Ab .u32 x.I4.BE), Af 32 x.I4.ED, Af 32 x.I4.Dq, one (Ab .i64 x.I4.Bh.B4), one (An (dC 32) x.I4.Bh.C1), one (An (dC 32) x.I4.Bh.Cp), one (An (dC 32) x.I4.Bh.DE), one (Ab .u32 x.I3.BE), Af 32 x.I3.ED, Af 32 x.I3.Dq, one (Ab .i64 x.I3.Bh.B4), one (An (dC 32) x.I3.Bh.C1), one (An (dC 32) x.I3.Bh.Cp), one (An (dC 32) x.I3.Bh.DE), one (As x.Qj)]
theorem C4.lens (x : C4) : lens (C4.ck x) = 139 := rfl
structure Df where
 Cf : AS
instance : Inhabited Df := ⟨(Df.mk (AS.mk (0 : Int) (List.replicate 32 0) (List.replicate 32 0) (AR.mk (0 : Int) [] [] [])))⟩
def Df.ck (x : Df) : List Ck := [one (Ab .u32 x.Cf.BE), Af 32 x.Cf.ED, Af 32 x.Cf.Dq, one (Ab .i64 x.Cf.Bh.B4), one (An (dC 32) x.Cf.Bh.C1), one (An (dC 32) x.Cf.Bh.Cp), one (An (dC 32) x.Cf.Bh.DE)]
theorem Df.lens (x : Df) : lens (Df.ck x) = 69 := rfl
structure CU where
 I4 : AS
 I3 : AS
instance : Inhabited CU := ⟨(CU.mk (AS.mk (0 : Int) (List.replicate 32 0) (List.replicate 32 0) (AR.mk (0 : Int) [] [] [])) (AS.mk (0 : Int) (List.replicate 32 0) (List.replicate 32 0) (AR.mk (0 : Int) [] [] [])))⟩
def CU.ck (x : CU) : List Ck := [one (Ab .u32 x.I4.BE), Af 32 x.I4.ED, Af 32 x.I4.Dq, one (Ab .i64 x.I4.Bh.B4), one (An (dC 32) x.I4.Bh.C1), one (An (dC 32) x.I4.Bh.Cp), one (An (dC 32) x.I4.Bh.DE), one (Ab .u32 x.I3.BE), Af 32 x.I3.ED, Af 32 x.I3.Dq, one (Ab .i64 x.I3.Bh.B4), one (An (dC 32) x.I3.Bh.C1), one (An (dC 32) x.I3.Bh.Cp), one (An (dC 32) x.I3.Bh.DE)]
theorem CU.lens (x : CU) : lens (CU.ck x) = 138 := rfl
structure DY where
 EL : Cm
instance : Inhabited DY := ⟨(DY.mk (Cm.mk (0 : Int) (List.replicate 32 0) (0 : Int) (AR.mk (0 : Int) [] [] [])))⟩
def DY.ck (x : DY) : List Ck := [one (Ab .u32 x.EL.BE), Af 32 x.EL.N2, one (Ab .i64 x.EL.Ip), one (Ab .i64 x.EL.Bh.B4), one (An (dC 32) x.EL.Bh.C1), one (An (dC 32) x.EL.Bh.Cp), one (An (dC 32) x.EL.Bh.DE)]
theorem DY.lens (x : DY) : lens (DY.ck x) = 38 := rfl
inductive EJ where
 | nil
 | c148 (x : BK)
 | c182 (x : Cd)
instance : Inhabited EJ := ⟨.nil⟩
def Dw : EJ → VP
 | .nil => Am .nilIface
 | .c148 x => Qd 148 (AG (BK.ck x))
 | .c182 x => Qd 182 (AG (Cd.ck x))
def KI (x : EJ) : List Ck := [one (Dw x)]
theorem Lj (x : EJ) : lens (KI x) = 1 := rfl
theorem P8 (x : EJ) : Nk (Dw x) := by
 cases x with
 | nil => exact P9 rfl
 | c148 x => rintro Φ v ⟨u, rfl, _⟩; rfl
 | c182 x => rintro Φ v ⟨u, rfl, _⟩; rfl
theorem z31 : ∀ Φ, B0 Φ (Value.agg #[.int .u32 0, .int .u32 0, .int .u32 0, .string ⟨#[]⟩, .string ⟨#[]⟩, .string ⟨#[]⟩]).cells.toList [one (Ab .u32 (0 : Int)), one (Ab .u32 (0 : Int)), one (Ab .u32 (0 : Int)), one (As []), one (As []), one (As [])] := fun _ => ⟨[.int .u32 0], _, rfl, ⟨_, rfl, rfl, rfl, by decide⟩, ⟨[.int .u32 0], _, rfl, ⟨_, rfl, rfl, rfl, by decide⟩, ⟨[.int .u32 0], _, rfl, ⟨_, rfl, rfl, rfl, by decide⟩, ⟨[.string ⟨#[]⟩], _, rfl, ⟨_, rfl, rfl, rfl, by decide⟩, ⟨[.string ⟨#[]⟩], _, rfl, ⟨_, rfl, rfl, rfl, by decide⟩, ⟨[.string ⟨#[]⟩], _, rfl, ⟨_, rfl, rfl, rfl, by decide⟩, rfl⟩⟩⟩⟩⟩⟩
theorem GN : ∀ Φ, B0 Φ (Value.agg #[.int .u8 0, .int .u8 0, .int .u8 0, .int .u8 0, .int .u8 0, .int .u8 0, .int .u8 0, .int .u8 0, .int .u8 0, .int .u8 0, .int .u8 0, .int .u8 0, .int .u8 0, .int .u8 0, .int .u8 0, .int .u8 0, .int .u8 0, .int .u8 0, .int .u8 0, .int .u8 0, .int .u8 0, .int .u8 0, .int .u8 0, .int .u8 0, .int .u8 0, .int .u8 0, .int .u8 0, .int .u8 0, .int .u8 0, .int .u8 0, .int .u8 0, .int .u8 0]).cells.toList [Af 32 (List.replicate 32 0)] := fun _ => ⟨[.int .u8 0, .int .u8 0, .int .u8 0, .int .u8 0, .int .u8 0, .int .u8 0, .int .u8 0, .int .u8 0, .int .u8 0, .int .u8 0, .int .u8 0, .int .u8 0, .int .u8 0, .int .u8 0, .int .u8 0, .int .u8 0, .int .u8 0, .int .u8 0, .int .u8 0, .int .u8 0, .int .u8 0, .int .u8 0, .int .u8 0, .int .u8 0, .int .u8 0, .int .u8 0, .int .u8 0, .int .u8 0, .int .u8 0, .int .u8 0, .int .u8 0, .int .u8 0], _, rfl, ⟨rfl, rfl⟩, rfl⟩
theorem z37 : ∀ Φ, B0 Φ (Value.agg #[.int .u8 0, .int .u8 0, .int .u8 0, .int .u8 0, .int .u8 0, .int .u8 0, .int .u8 0, .int .u8 0, .int .u8 0, .int .u8 0, .int .u8 0, .int .u8 0, .int .u8 0, .int .u8 0, .int .u8 0, .int .u8 0, .int .u8 0, .int .u8 0, .int .u8 0, .int .u8 0, .int .u8 0, .int .u8 0, .int .u8 0, .int .u8 0, .int .u8 0, .int .u8 0, .int .u8 0, .int .u8 0, .int .u8 0, .int .u8 0, .int .u8 0, .int .u8 0, .int .u64 0]).cells.toList [Af 32 (List.replicate 32 0), one (Ab .u64 (0 : Int))] := fun _ => ⟨[.int .u8 0, .int .u8 0, .int .u8 0, .int .u8 0, .int .u8 0, .int .u8 0, .int .u8 0, .int .u8 0, .int .u8 0, .int .u8 0, .int .u8 0, .int .u8 0, .int .u8 0, .int .u8 0, .int .u8 0, .int .u8 0, .int .u8 0, .int .u8 0, .int .u8 0, .int .u8 0, .int .u8 0, .int .u8 0, .int .u8 0, .int .u8 0, .int .u8 0, .int .u8 0, .int .u8 0, .int .u8 0, .int .u8 0, .int .u8 0, .int .u8 0, .int .u8 0], _, rfl, ⟨rfl, rfl⟩, ⟨[.int .u64 0], _, rfl, ⟨_, rfl, rfl, rfl, by decide⟩, rfl⟩⟩
theorem Qy : ∀ Φ, B0 Φ (Value.agg #[.int .u32 0, .int .u32 0, .int .u8 0, .int .u8 0, .int .u8 0, .int .u8 0, .int .u8 0, .int .u8 0, .int .u8 0, .int .u8 0, .int .u8 0, .int .u8 0, .int .u8 0, .int .u8 0, .int .u8 0, .int .u8 0, .int .u8 0, .int .u8 0, .int .u8 0, .int .u8 0, .int .u8 0, .int .u8 0, .int .u8 0, .int .u8 0, .int .u8 0, .int .u8 0, .int .u8 0, .int .u8 0, .int .u8 0, .int .u8 0, .int .u8 0, .int .u8 0, .int .u8 0, .int .u8 0, .slice none 0 0, .int .u64 0, .int .u8 0, .int .u8 0, .int .u8 0, .int .u8 0, .int .u8 0, .int .u8 0, .int .u8 0, .int .u8 0, .int .u8 0, .int .u8 0, .int .u8 0, .int .u8 0, .int .u8 0, .int .u8 0, .int .u8 0, .int .u8 0, .int .u8 0, .int .u8 0, .int .u8 0, .int .u8 0, .int .u8 0, .int .u8 0, .int .u8 0, .int .u8 0, .int .u8 0, .int .u8 0, .int .u8 0, .int .u8 0, .int .u8 0, .int .u8 0, .int .u8 0, .int .u8 0, .slice none 0 0, .slice none 0 0, .bool false, .bool false]).cells.toList [one (Ab .u32 (0 : Int)), one (Ab .u32 (0 : Int)), Af 32 (List.replicate 32 0), one (An (dC 32) []), one (Ab .u64 (0 : Int)), Af 32 (List.replicate 32 0), one (An Av.ck []), one (An Ag.ck []), one (AE false), one (AE false)] := fun _ => ⟨[.int .u32 0], _, rfl, ⟨_, rfl, rfl, rfl, by decide⟩, ⟨[.int .u32 0], _, rfl, ⟨_, rfl, rfl, rfl, by decide⟩, ⟨[.int .u8 0, .int .u8 0, .int .u8 0, .int .u8 0, .int .u8 0, .int .u8 0, .int .u8 0, .int .u8 0, .int .u8 0, .int .u8 0, .int .u8 0, .int .u8 0, .int .u8 0, .int .u8 0, .int .u8 0, .int .u8 0, .int .u8 0, .int .u8 0, .int .u8 0, .int .u8 0, .int .u8 0, .int .u8 0, .int .u8 0, .int .u8 0, .int .u8 0, .int .u8 0, .int .u8 0, .int .u8 0, .int .u8 0, .int .u8 0, .int .u8 0, .int .u8 0], _, rfl, ⟨rfl, rfl⟩, ⟨[.slice none 0 0], _, rfl, ⟨_, rfl, rfl, by decide, .inl ⟨rfl, rfl⟩⟩, ⟨[.int .u64 0], _, rfl, ⟨_, rfl, rfl, rfl, by decide⟩, ⟨[.int .u8 0, .int .u8 0, .int .u8 0, .int .u8 0, .int .u8 0, .int .u8 0, .int .u8 0, .int .u8 0, .int .u8 0, .int .u8 0, .int .u8 0, .int .u8 0, .int .u8 0, .int .u8 0, .int .u8 0, .int .u8 0, .int .u8 0, .int .u8 0, .int .u8 0, .int .u8 0, .int .u8 0, .int .u8 0, .int .u8 0, .int .u8 0, .int .u8 0, .int .u8 0, .int .u8 0, .int .u8 0, .int .u8 0, .int .u8 0, .int .u8 0, .int .u8 0], _, rfl, ⟨rfl, rfl⟩, ⟨[.slice none 0 0], _, rfl, ⟨_, rfl, rfl, by decide, .inl ⟨rfl, rfl⟩⟩, ⟨[.slice none 0 0], _, rfl, ⟨_, rfl, rfl, by decide, .inl ⟨rfl, rfl⟩⟩, ⟨[.bool false], _, rfl, ⟨_, rfl, rfl, rfl⟩, ⟨[.bool false], _, rfl, ⟨_, rfl, rfl, rfl⟩, rfl⟩⟩⟩⟩⟩⟩⟩⟩⟩⟩
theorem Qx : ∀ Φ, B0 Φ (Value.agg #[.int .u32 0, .string ⟨#[]⟩]).cells.toList [one (Ab .u32 (0 : Int)), one (As [])] := fun _ => ⟨[.int .u32 0], _, rfl, ⟨_, rfl, rfl, rfl, by decide⟩, ⟨[.string ⟨#[]⟩], _, rfl, ⟨_, rfl, rfl, rfl, by decide⟩, rfl⟩⟩
theorem z93 : ∀ Φ, B0 Φ (Value.agg #[.int .u8 0, .int .u32 0, .int .u64 0, .int .u8 0, .int .u8 0, .int .u8 0, .int .u8 0, .int .u8 0, .int .u8 0, .int .u8 0, .int .u8 0, .int .u8 0, .int .u8 0, .int .u8 0, .int .u8 0, .int .u8 0, .int .u8 0, .int .u8 0, .int .u8 0, .int .u8 0, .int .u8 0, .int .u8 0, .int .u8 0, .int .u8 0, .int .u8 0, .int .u8 0, .int .u8 0, .int .u8 0, .int .u8 0, .int .u8 0, .int .u8 0, .int .u8 0, .int .u8 0, .int .u8 0, .int .u8 0, .int .u8 0, .int .u8 0, .int .u8 0, .int .u8 0, .int .u8 0, .int .u8 0, .int .u8 0, .int .u8 0, .int .u8 0, .int .u8 0, .int .u8 0, .int .u8 0, .int .u8 0, .int .u8 0, .int .u8 0, .int .u8 0, .int .u8 0, .int .u8 0, .int .u8 0, .int .u8 0, .int .u8 0, .int .u8 0, .int .u8 0, .int .u8 0, .int .u8 0, .int .u8 0, .int .u8 0, .int .u8 0, .int .u8 0, .int .u8 0, .int .u8 0, .int .u8 0, .int .u64 0]).cells.toList [one (Ab .u8 (0 : Int)), one (Ab .u32 (0 : Int)), one (Ab .u64 (0 : Int)), Af 32 (List.replicate 32 0), Af 32 (List.replicate 32 0), one (Ab .u64 (0 : Int))] := fun _ => ⟨[.int .u8 0], _, rfl, ⟨_, rfl, rfl, rfl, by decide⟩, ⟨[.int .u32 0], _, rfl, ⟨_, rfl, rfl, rfl, by decide⟩, ⟨[.int .u64 0], _, rfl, ⟨_, rfl, rfl, rfl, by decide⟩, ⟨[.int .u8 0, .int .u8 0, .int .u8 0, .int .u8 0, .int .u8 0, .int .u8 0, .int .u8 0, .int .u8 0, .int .u8 0, .int .u8 0, .int .u8 0, .int .u8 0, .int .u8 0, .int .u8 0, .int .u8 0, .int .u8 0, .int .u8 0, .int .u8 0, .int .u8 0, .int .u8 0, .int .u8 0, .int .u8 0, .int .u8 0, .int .u8 0, .int .u8 0, .int .u8 0, .int .u8 0, .int .u8 0, .int .u8 0, .int .u8 0, .int .u8 0, .int .u8 0], _, rfl, ⟨rfl, rfl⟩, ⟨[.int .u8 0, .int .u8 0, .int .u8 0, .int .u8 0, .int .u8 0, .int .u8 0, .int .u8 0, .int .u8 0, .int .u8 0, .int .u8 0, .int .u8 0, .int .u8 0, .int .u8 0, .int .u8 0, .int .u8 0, .int .u8 0, .int .u8 0, .int .u8 0, .int .u8 0, .int .u8 0, .int .u8 0, .int .u8 0, .int .u8 0, .int .u8 0, .int .u8 0, .int .u8 0, .int .u8 0, .int .u8 0, .int .u8 0, .int .u8 0, .int .u8 0, .int .u8 0], _, rfl, ⟨rfl, rfl⟩, ⟨[.int .u64 0], _, rfl, ⟨_, rfl, rfl, rfl, by decide⟩, rfl⟩⟩⟩⟩⟩⟩
theorem Np : ∀ Φ, B0 Φ (Value.agg zeroCells106).cells.toList [one (Ab .i64 (0 : Int)), one (As []), one (As []), one (As []), one (Ab .u32 (0 : Int)), one (Ab .u64 (0 : Int)), one (Ab .u64 (0 : Int)), one (Ab .i64 (0 : Int)), one (An (dC 32) []), one (An (dC 32) []), one (An (dC 32) []), one (Ab .u32 (0 : Int)), Af 32 (List.replicate 32 0), Af 32 (List.replicate 32 0), one (Ab .i64 (0 : Int)), one (An (dC 32) []), one (An (dC 32) []), one (An (dC 32) []), one (Ab .u32 (0 : Int)), Af 32 (List.replicate 32 0), Af 32 (List.replicate 32 0), one (Ab .i64 (0 : Int)), one (An (dC 32) []), one (An (dC 32) []), one (An (dC 32) []), one (Ab .u32 (0 : Int)), Af 32 (List.replicate 32 0), one (Ab .i64 (0 : Int)), one (Ab .i64 (0 : Int)), one (An (dC 32) []), one (An (dC 32) []), one (An (dC 32) []), Af 32 (List.replicate 32 0), one (Ab .u32 (0 : Int)), one (An (dC 32) []), one (Ab .u32 (0 : Int)), one (Ab .u32 (0 : Int)), one (Ab .u32 (0 : Int)), one (As []), one (As []), one (As [])] := by
 intro Φ
 have e : (Value.agg zeroCells106).cells.toList = (List.append (α := Value) [.int .i64 0] (List.append (α := Value) [.string ⟨#[]⟩] (List.append (α := Value) [.string ⟨#[]⟩] (List.append (α := Value) [.string ⟨#[]⟩] (List.append (α := Value) [.int .u32 0] (List.append (α := Value) [.int .u64 0] (List.append (α := Value) [.int .u64 0] (List.append (α := Value) [.int .i64 0] (List.append (α := Value) [.slice none 0 0] (List.append (α := Value) [.slice none 0 0] (List.append (α := Value) [.slice none 0 0] (List.append (α := Value) [.int .u32 0] (List.append (α := Value) [.int .u8 0, .int .u8 0, .int .u8 0, .int .u8 0, .int .u8 0, .int .u8 0, .int .u8 0, .int .u8 0, .int .u8 0, .int .u8 0, .int .u8 0, .int .u8 0, .int .u8 0, .int .u8 0, .int .u8 0, .int .u8 0, .int .u8 0, .int .u8 0, .int .u8 0, .int .u8 0, .int .u8 0, .int .u8 0, .int .u8 0, .int .u8 0, .int .u8 0, .int .u8 0, .int .u8 0, .int .u8 0, .int .u8 0, .int .u8 0, .int .u8 0, .int .u8 0] (List.append (α := Value) [.int .u8 0, .int .u8 0, .int .u8 0, .int .u8 0, .int .u8 0, .int .u8 0, .int .u8 0, .int .u8 0, .int .u8 0, .int .u8 0, .int .u8 0, .int .u8 0, .int .u8 0, .int .u8 0, .int .u8 0, .int .u8 0, .int .u8 0, .int .u8 0, .int .u8 0, .int .u8 0, .int .u8 0, .int .u8 0, .int .u8 0, .int .u8 0, .int .u8 0, .int .u8 0, .int .u8 0, .int .u8 0, .int .u8 0, .int .u8 0, .int .u8 0, .int .u8 0] (List.append (α := Value) [.int .i64 0] (List.append (α := Value) [.slice none 0 0] (List.append (α := Value) [.slice none 0 0] (List.append (α := Value) [.slice none 0 0] (List.append (α := Value) [.int .u32 0] (List.append (α := Value) [.int .u8 0, .int .u8 0, .int .u8 0, .int .u8 0, .int .u8 0, .int .u8 0, .int .u8 0, .int .u8 0, .int .u8 0, .int .u8 0, .int .u8 0, .int .u8 0, .int .u8 0, .int .u8 0, .int .u8 0, .int .u8 0, .int .u8 0, .int .u8 0, .int .u8 0, .int .u8 0, .int .u8 0, .int .u8 0, .int .u8 0, .int .u8 0, .int .u8 0, .int .u8 0, .int .u8 0, .int .u8 0, .int .u8 0, .int .u8 0, .int .u8 0, .int .u8 0] (List.append (α := Value) [.int .u8 0, .int .u8 0, .int .u8 0, .int .u8 0, .int .u8 0, .int .u8 0, .int .u8 0, .int .u8 0, .int .u8 0, .int .u8 0, .int .u8 0, .int .u8 0, .int .u8 0, .int .u8 0, .int .u8 0, .int .u8 0, .int .u8 0, .int .u8 0, .int .u8 0, .int .u8 0, .int .u8 0, .int .u8 0, .int .u8 0, .int .u8 0, .int .u8 0, .int .u8 0, .int .u8 0, .int .u8 0, .int .u8 0, .int .u8 0, .int .u8 0, .int .u8 0] (List.append (α := Value) [.int .i64 0] (List.append (α := Value) [.slice none 0 0] (List.append (α := Value) [.slice none 0 0] (List.append (α := Value) [.slice none 0 0] (List.append (α := Value) [.int .u32 0] (List.append (α := Value) [.int .u8 0, .int .u8 0, .int .u8 0, .int .u8 0, .int .u8 0, .int .u8 0, .int .u8 0, .int .u8 0, .int .u8 0, .int .u8 0, .int .u8 0, .int .u8 0, .int .u8 0, .int .u8 0, .int .u8 0, .int .u8 0, .int .u8 0, .int .u8 0, .int .u8 0, .int .u8 0, .int .u8 0, .int .u8 0, .int .u8 0, .int .u8 0, .int .u8 0, .int .u8 0, .int .u8 0, .int .u8 0, .int .u8 0, .int .u8 0, .int .u8 0, .int .u8 0] (List.append (α := Value) [.int .i64 0] (List.append (α := Value) [.int .i64 0] (List.append (α := Value) [.slice none 0 0] (List.append (α := Value) [.slice none 0 0] (List.append (α := Value) [.slice none 0 0] (List.append (α := Value) [.int .u8 0, .int .u8 0, .int .u8 0, .int .u8 0, .int .u8 0, .int .u8 0, .int .u8 0, .int .u8 0, .int .u8 0, .int .u8 0, .int .u8 0, .int .u8 0, .int .u8 0, .int .u8 0, .int .u8 0, .int .u8 0, .int .u8 0, .int .u8 0, .int .u8 0, .int .u8 0, .int .u8 0, .int .u8 0, .int .u8 0, .int .u8 0, .int .u8 0, .int .u8 0, .int .u8 0, .int .u8 0, .int .u8 0, .int .u8 0, .int .u8 0, .int .u8 0] (List.append (α := Value) [.int .u32 0] (List.append (α := Value) [.slice none 0 0] (List.append (α := Value) [.int .u32 0] (List.append (α := Value) [.int .u32 0] (List.append (α := Value) [.int .u32 0] (List.append (α := Value) [.string ⟨#[]⟩] (List.append (α := Value) [.string ⟨#[]⟩] (List.append (α := Value) [.string ⟨#[]⟩] ([]))))))))))))))))))))))))))))))))))))))))) : List Value) := by kernel_rfl
 rw [e]
 exact (lz ⟨_, rfl, rfl, rfl, by decide⟩ (lz ⟨_, rfl, rfl, rfl, by decide⟩ (lz ⟨_, rfl, rfl, rfl, by decide⟩ (lz ⟨_, rfl, rfl, rfl, by decide⟩ (lz ⟨_, rfl, rfl, rfl, by decide⟩ (lz ⟨_, rfl, rfl, rfl, by decide⟩ (lz ⟨_, rfl, rfl, rfl, by decide⟩ (lz ⟨_, rfl, rfl, rfl, by decide⟩ (lz ⟨_, rfl, rfl, by decide, .inl ⟨rfl, rfl⟩⟩ (lz ⟨_, rfl, rfl, by decide, .inl ⟨rfl, rfl⟩⟩ (lz ⟨_, rfl, rfl, by decide, .inl ⟨rfl, rfl⟩⟩ (lz ⟨_, rfl, rfl, rfl, by decide⟩ (lz ⟨rfl, rfl⟩ (lz ⟨rfl, rfl⟩ (lz ⟨_, rfl, rfl, rfl, by decide⟩ (lz ⟨_, rfl, rfl, by decide, .inl ⟨rfl, rfl⟩⟩ (lz ⟨_, rfl, rfl, by decide, .inl ⟨rfl, rfl⟩⟩ (lz ⟨_, rfl, rfl, by decide, .inl ⟨rfl, rfl⟩⟩ (lz ⟨_, rfl, rfl, rfl, by decide⟩ (lz ⟨rfl, rfl⟩ (lz ⟨rfl, rfl⟩ (lz ⟨_, rfl, rfl, rfl, by decide⟩ (lz ⟨_, rfl, rfl, by decide, .inl ⟨rfl, rfl⟩⟩ (lz ⟨_, rfl, rfl, by decide, .inl ⟨rfl, rfl⟩⟩ (lz ⟨_, rfl, rfl, by decide, .inl ⟨rfl, rfl⟩⟩ (lz ⟨_, rfl, rfl, rfl, by decide⟩ (lz ⟨rfl, rfl⟩ (lz ⟨_, rfl, rfl, rfl, by decide⟩ (lz ⟨_, rfl, rfl, rfl, by decide⟩ (lz ⟨_, rfl, rfl, by decide, .inl ⟨rfl, rfl⟩⟩ (lz ⟨_, rfl, rfl, by decide, .inl ⟨rfl, rfl⟩⟩ (lz ⟨_, rfl, rfl, by decide, .inl ⟨rfl, rfl⟩⟩ (lz ⟨rfl, rfl⟩ (lz ⟨_, rfl, rfl, rfl, by decide⟩ (lz ⟨_, rfl, rfl, by decide, .inl ⟨rfl, rfl⟩⟩ (lz ⟨_, rfl, rfl, rfl, by decide⟩ (lz ⟨_, rfl, rfl, rfl, by decide⟩ (lz ⟨_, rfl, rfl, rfl, by decide⟩ (lz ⟨_, rfl, rfl, rfl, by decide⟩ (lz ⟨_, rfl, rfl, rfl, by decide⟩ (lz ⟨_, rfl, rfl, rfl, by decide⟩ rfl)))))))))))))))))))))))))))))))))))))))))
theorem QH : ∀ Φ, B0 Φ (Value.agg #[.int .u8 0, .int .u8 0, .int .u8 0, .int .u8 0, .int .u8 0, .int .u8 0, .int .u8 0, .int .u8 0, .int .u8 0, .int .u8 0, .int .u8 0, .int .u8 0, .int .u8 0, .int .u8 0, .int .u8 0, .int .u8 0, .int .u8 0, .int .u8 0, .int .u8 0, .int .u8 0, .int .u8 0, .int .u8 0, .int .u8 0, .int .u8 0, .int .u8 0, .int .u8 0, .int .u8 0, .int .u8 0, .int .u8 0, .int .u8 0, .int .u8 0, .int .u8 0, .int .i64 0, .int .u8 0, .int .u8 0, .int .u8 0, .int .u8 0, .int .u8 0, .int .u8 0, .int .u8 0, .int .u8 0, .int .u8 0, .int .u8 0, .int .u8 0, .int .u8 0, .int .u8 0, .int .u8 0, .int .u8 0, .int .u8 0, .int .u8 0, .int .u8 0, .int .u8 0, .int .u8 0, .int .u8 0, .int .u8 0, .int .u8 0, .int .u8 0, .int .u8 0, .int .u8 0, .int .u8 0, .int .u8 0, .int .u8 0, .int .u8 0, .int .u8 0, .int .u8 0]).cells.toList [Af 32 (List.replicate 32 0), one (Ab .i64 (0 : Int)), Af 32 (List.replicate 32 0)] := fun _ => ⟨[.int .u8 0, .int .u8 0, .int .u8 0, .int .u8 0, .int .u8 0, .int .u8 0, .int .u8 0, .int .u8 0, .int .u8 0, .int .u8 0, .int .u8 0, .int .u8 0, .int .u8 0, .int .u8 0, .int .u8 0, .int .u8 0, .int .u8 0, .int .u8 0, .int .u8 0, .int .u8 0, .int .u8 0, .int .u8 0, .int .u8 0, .int .u8 0, .int .u8 0, .int .u8 0, .int .u8 0, .int .u8 0, .int .u8 0, .int .u8 0, .int .u8 0, .int .u8 0], _, rfl, ⟨rfl, rfl⟩, ⟨[.int .i64 0], _, rfl, ⟨_, rfl, rfl, rfl, by decide⟩, ⟨[.int .u8 0, .int .u8 0, .int .u8 0, .int .u8 0, .int .u8 0, .int .u8 0, .int .u8 0, .int .u8 0, .int .u8 0, .int .u8 0, .int .u8 0, .int .u8 0, .int .u8 0, .int .u8 0, .int .u8 0, .int .u8 0, .int .u8 0, .int .u8 0, .int .u8 0, .int .u8 0, .int .u8 0, .int .u8 0, .int .u8 0, .int .u8 0, .int .u8 0, .int .u8 0, .int .u8 0, .int .u8 0, .int .u8 0, .int .u8 0, .int .u8 0, .int .u8 0], _, rfl, ⟨rfl, rfl⟩, rfl⟩⟩⟩
theorem Oy : ∀ Φ, B0 Φ (Value.agg zeroCells113).cells.toList [Ee 33 32 (dC 32) (Bk 32) (List.replicate 33 (List.replicate 32 0))] := QF (zs := [.int .u8 0, .int .u8 0, .int .u8 0, .int .u8 0, .int .u8 0, .int .u8 0, .int .u8 0, .int .u8 0, .int .u8 0, .int .u8 0, .int .u8 0, .int .u8 0, .int .u8 0, .int .u8 0, .int .u8 0, .int .u8 0, .int .u8 0, .int .u8 0, .int .u8 0, .int .u8 0, .int .u8 0, .int .u8 0, .int .u8 0, .int .u8 0, .int .u8 0, .int .u8 0, .int .u8 0, .int .u8 0, .int .u8 0, .int .u8 0, .int .u8 0, .int .u8 0]) (by kernel_rfl) (fun _ => ⟨[.int .u8 0, .int .u8 0, .int .u8 0, .int .u8 0, .int .u8 0, .int .u8 0, .int .u8 0, .int .u8 0, .int .u8 0, .int .u8 0, .int .u8 0, .int .u8 0, .int .u8 0, .int .u8 0, .int .u8 0, .int .u8 0, .int .u8 0, .int .u8 0, .int .u8 0, .int .u8 0, .int .u8 0, .int .u8 0, .int .u8 0, .int .u8 0, .int .u8 0, .int .u8 0, .int .u8 0, .int .u8 0, .int .u8 0, .int .u8 0, .int .u8 0, .int .u8 0], _, rfl, ⟨rfl, rfl⟩, rfl⟩)
theorem z148 : ∀ Φ, B0 Φ (Value.agg #[.int .u32 0, .int .u32 0, .int .u32 0, .string ⟨#[]⟩, .string ⟨#[]⟩, .string ⟨#[]⟩]).cells.toList [one (Ab .u32 (0 : Int)), one (Ab .u32 (0 : Int)), one (Ab .u32 (0 : Int)), one (As []), one (As []), one (As [])] := fun _ => ⟨[.int .u32 0], _, rfl, ⟨_, rfl, rfl, rfl, by decide⟩, ⟨[.int .u32 0], _, rfl, ⟨_, rfl, rfl, rfl, by decide⟩, ⟨[.int .u32 0], _, rfl, ⟨_, rfl, rfl, rfl, by decide⟩, ⟨[.string ⟨#[]⟩], _, rfl, ⟨_, rfl, rfl, rfl, by decide⟩, ⟨[.string ⟨#[]⟩], _, rfl, ⟨_, rfl, rfl, rfl, by decide⟩, ⟨[.string ⟨#[]⟩], _, rfl, ⟨_, rfl, rfl, rfl, by decide⟩, rfl⟩⟩⟩⟩⟩⟩
theorem Ox : ∀ Φ, B0 Φ (Value.agg #[.string ⟨#[]⟩, .string ⟨#[]⟩, .int .u64 0, .int .u64 0, .int .i64 0, .slice none 0 0, .slice none 0 0, .slice none 0 0]).cells.toList [one (As []), one (As []), one (Ab .u64 (0 : Int)), one (Ab .u64 (0 : Int)), one (Ab .i64 (0 : Int)), one (An (dC 32) []), one (An (dC 32) []), one (An (dC 32) [])] := fun _ => ⟨[.string ⟨#[]⟩], _, rfl, ⟨_, rfl, rfl, rfl, by decide⟩, ⟨[.string ⟨#[]⟩], _, rfl, ⟨_, rfl, rfl, rfl, by decide⟩, ⟨[.int .u64 0], _, rfl, ⟨_, rfl, rfl, rfl, by decide⟩, ⟨[.int .u64 0], _, rfl, ⟨_, rfl, rfl, rfl, by decide⟩, ⟨[.int .i64 0], _, rfl, ⟨_, rfl, rfl, rfl, by decide⟩, ⟨[.slice none 0 0], _, rfl, ⟨_, rfl, rfl, by decide, .inl ⟨rfl, rfl⟩⟩, ⟨[.slice none 0 0], _, rfl, ⟨_, rfl, rfl, by decide, .inl ⟨rfl, rfl⟩⟩, ⟨[.slice none 0 0], _, rfl, ⟨_, rfl, rfl, by decide, .inl ⟨rfl, rfl⟩⟩, rfl⟩⟩⟩⟩⟩⟩⟩⟩
theorem z156 : ∀ Φ, B0 Φ (Value.agg #[.string ⟨#[]⟩, .int .u32 0, .string ⟨#[]⟩, .string ⟨#[]⟩, .int .u64 0, .int .u64 0, .int .i64 0, .slice none 0 0, .slice none 0 0, .slice none 0 0]).cells.toList [one (As []), one (Ab .u32 (0 : Int)), one (As []), one (As []), one (Ab .u64 (0 : Int)), one (Ab .u64 (0 : Int)), one (Ab .i64 (0 : Int)), one (An (dC 32) []), one (An (dC 32) []), one (An (dC 32) [])] := fun _ => ⟨[.string ⟨#[]⟩], _, rfl, ⟨_, rfl, rfl, rfl, by decide⟩, ⟨[.int .u32 0], _, rfl, ⟨_, rfl, rfl, rfl, by decide⟩, ⟨[.string ⟨#[]⟩], _, rfl, ⟨_, rfl, rfl, rfl, by decide⟩, ⟨[.string ⟨#[]⟩], _, rfl, ⟨_, rfl, rfl, rfl, by decide⟩, ⟨[.int .u64 0], _, rfl, ⟨_, rfl, rfl, rfl, by decide⟩, ⟨[.int .u64 0], _, rfl, ⟨_, rfl, rfl, rfl, by decide⟩, ⟨[.int .i64 0], _, rfl, ⟨_, rfl, rfl, rfl, by decide⟩, ⟨[.slice none 0 0], _, rfl, ⟨_, rfl, rfl, by decide, .inl ⟨rfl, rfl⟩⟩, ⟨[.slice none 0 0], _, rfl, ⟨_, rfl, rfl, by decide, .inl ⟨rfl, rfl⟩⟩, ⟨[.slice none 0 0], _, rfl, ⟨_, rfl, rfl, by decide, .inl ⟨rfl, rfl⟩⟩, rfl⟩⟩⟩⟩⟩⟩⟩⟩⟩⟩
theorem z159 : ∀ Φ, B0 Φ (Value.agg #[.string ⟨#[]⟩, .string ⟨#[]⟩, .int .u64 0, .int .i64 0, .slice none 0 0, .slice none 0 0, .slice none 0 0]).cells.toList [one (As []), one (As []), one (Ab .u64 (0 : Int)), one (Ab .i64 (0 : Int)), one (An (dC 32) []), one (An (dC 32) []), one (An (dC 32) [])] := fun _ => ⟨[.string ⟨#[]⟩], _, rfl, ⟨_, rfl, rfl, rfl, by decide⟩, ⟨[.string ⟨#[]⟩], _, rfl, ⟨_, rfl, rfl, rfl, by decide⟩, ⟨[.int .u64 0], _, rfl, ⟨_, rfl, rfl, rfl, by decide⟩, ⟨[.int .i64 0], _, rfl, ⟨_, rfl, rfl, rfl, by decide⟩, ⟨[.slice none 0 0], _, rfl, ⟨_, rfl, rfl, by decide, .inl ⟨rfl, rfl⟩⟩, ⟨[.slice none 0 0], _, rfl, ⟨_, rfl, rfl, by decide, .inl ⟨rfl, rfl⟩⟩, ⟨[.slice none 0 0], _, rfl, ⟨_, rfl, rfl, by decide, .inl ⟨rfl, rfl⟩⟩, rfl⟩⟩⟩⟩⟩⟩⟩
theorem z162 : ∀ Φ, B0 Φ (Value.agg #[.string ⟨#[]⟩, .string ⟨#[]⟩, .int .u64 0, .int .i64 0, .slice none 0 0, .slice none 0 0, .slice none 0 0]).cells.toList [one (As []), one (As []), one (Ab .u64 (0 : Int)), one (Ab .i64 (0 : Int)), one (An (dC 32) []), one (An (dC 32) []), one (An (dC 32) [])] := fun _ => ⟨[.string ⟨#[]⟩], _, rfl, ⟨_, rfl, rfl, rfl, by decide⟩, ⟨[.string ⟨#[]⟩], _, rfl, ⟨_, rfl, rfl, rfl, by decide⟩, ⟨[.int .u64 0], _, rfl, ⟨_, rfl, rfl, rfl, by decide⟩, ⟨[.int .i64 0], _, rfl, ⟨_, rfl, rfl, rfl, by decide⟩, ⟨[.slice none 0 0], _, rfl, ⟨_, rfl, rfl, by decide, .inl ⟨rfl, rfl⟩⟩, ⟨[.slice none 0 0], _, rfl, ⟨_, rfl, rfl, by decide, .inl ⟨rfl, rfl⟩⟩, ⟨[.slice none 0 0], _, rfl, ⟨_, rfl, rfl, by decide, .inl ⟨rfl, rfl⟩⟩, rfl⟩⟩⟩⟩⟩⟩⟩
theorem Ow : ∀ Φ, B0 Φ (Value.agg #[.int .u32 0, .int .u8 0, .int .u8 0, .int .u8 0, .int .u8 0, .int .u8 0, .int .u8 0, .int .u8 0, .int .u8 0, .int .u8 0, .int .u8 0, .int .u8 0, .int .u8 0, .int .u8 0, .int .u8 0, .int .u8 0, .int .u8 0, .int .u8 0, .int .u8 0, .int .u8 0, .int .u8 0, .int .u8 0, .int .u8 0, .int .u8 0, .int .u8 0, .int .u8 0, .int .u8 0, .int .u8 0, .int .u8 0, .int .u8 0, .int .u8 0, .int .u8 0, .int .u8 0, .int .u8 0, .int .u8 0, .int .u8 0, .int .u8 0, .int .u8 0, .int .u8 0, .int .u8 0, .int .u8 0, .int .u8 0, .int .u8 0, .int .u8 0, .int .u8 0, .int .u8 0, .int .u8 0, .int .u8 0, .int .u8 0, .int .u8 0, .int .u8 0, .int .u8 0, .int .u8 0, .int .u8 0, .int .u8 0, .int .u8 0, .int .u8 0, .int .u8 0, .int .u8 0, .int .u8 0, .int .u8 0, .int .u8 0, .int .u8 0, .int .u8 0, .int .u8 0, .int .i64 0, .slice none 0 0, .slice none 0 0, .slice none 0 0]).cells.toList [one (Ab .u32 (0 : Int)), Af 32 (List.replicate 32 0), Af 32 (List.replicate 32 0), one (Ab .i64 (0 : Int)), one (An (dC 32) []), one (An (dC 32) []), one (An (dC 32) [])] := fun _ => ⟨[.int .u32 0], _, rfl, ⟨_, rfl, rfl, rfl, by decide⟩, ⟨[.int .u8 0, .int .u8 0, .int .u8 0, .int .u8 0, .int .u8 0, .int .u8 0, .int .u8 0, .int .u8 0, .int .u8 0, .int .u8 0, .int .u8 0, .int .u8 0, .int .u8 0, .int .u8 0, .int .u8 0, .int .u8 0, .int .u8 0, .int .u8 0, .int .u8 0, .int .u8 0, .int .u8 0, .int .u8 0, .int .u8 0, .int .u8 0, .int .u8 0, .int .u8 0, .int .u8 0, .int .u8 0, .int .u8 0, .int .u8 0, .int .u8 0, .int .u8 0], _, rfl, ⟨rfl, rfl⟩, ⟨[.int .u8 0, .int .u8 0, .int .u8 0, .int .u8 0, .int .u8 0, .int .u8 0, .int .u8 0, .int .u8 0, .int .u8 0, .int .u8 0, .int .u8 0, .int .u8 0, .int .u8 0, .int .u8 0, .int .u8 0, .int .u8 0, .int .u8 0, .int .u8 0, .int .u8 0, .int .u8 0, .int .u8 0, .int .u8 0, .int .u8 0, .int .u8 0, .int .u8 0, .int .u8 0, .int .u8 0, .int .u8 0, .int .u8 0, .int .u8 0, .int .u8 0, .int .u8 0], _, rfl, ⟨rfl, rfl⟩, ⟨[.int .i64 0], _, rfl, ⟨_, rfl, rfl, rfl, by decide⟩, ⟨[.slice none 0 0], _, rfl, ⟨_, rfl, rfl, by decide, .inl ⟨rfl, rfl⟩⟩, ⟨[.slice none 0 0], _, rfl, ⟨_, rfl, rfl, by decide, .inl ⟨rfl, rfl⟩⟩, ⟨[.slice none 0 0], _, rfl, ⟨_, rfl, rfl, by decide, .inl ⟨rfl, rfl⟩⟩, rfl⟩⟩⟩⟩⟩⟩⟩
theorem z168 : ∀ Φ, B0 Φ (Value.agg #[.int .u32 0, .int .u8 0, .int .u8 0, .int .u8 0, .int .u8 0, .int .u8 0, .int .u8 0, .int .u8 0, .int .u8 0, .int .u8 0, .int .u8 0, .int .u8 0, .int .u8 0, .int .u8 0, .int .u8 0, .int .u8 0, .int .u8 0, .int .u8 0, .int .u8 0, .int .u8 0, .int .u8 0, .int .u8 0, .int .u8 0, .int .u8 0, .int .u8 0, .int .u8 0, .int .u8 0, .int .u8 0, .int .u8 0, .int .u8 0, .int .u8 0, .int .u8 0, .int .u8 0, .int .u8 0, .int .u8 0, .int .u8 0, .int .u8 0, .int .u8 0, .int .u8 0, .int .u8 0, .int .u8 0, .int .u8 0, .int .u8 0, .int .u8 0, .int .u8 0, .int .u8 0, .int .u8 0, .int .u8 0, .int .u8 0, .int .u8 0, .int .u8 0, .int .u8 0, .int .u8 0, .int .u8 0, .int .u8 0, .int .u8 0, .int .u8 0, .int .u8 0, .int .u8 0, .int .u8 0, .int .u8 0, .int .u8 0, .int .u8 0, .int .u8 0, .int .u8 0, .int .i64 0, .slice none 0 0, .slice none 0 0, .slice none 0 0, .string ⟨#[]⟩]).cells.toList [one (Ab .u32 (0 : Int)), Af 32 (List.replicate 32 0), Af 32 (List.replicate 32 0), one (Ab .i64 (0 : Int)), one (An (dC 32) []), one (An (dC 32) []), one (An (dC 32) []), one (As [])] := fun _ => ⟨[.int .u32 0], _, rfl, ⟨_, rfl, rfl, rfl, by decide⟩, ⟨[.int .u8 0, .int .u8 0, .int .u8 0, .int .u8 0, .int .u8 0, .int .u8 0, .int .u8 0, .int .u8 0, .int .u8 0, .int .u8 0, .int .u8 0, .int .u8 0, .int .u8 0, .int .u8 0, .int .u8 0, .int .u8 0, .int .u8 0, .int .u8 0, .int .u8 0, .int .u8 0, .int .u8 0, .int .u8 0, .int .u8 0, .int .u8 0, .int .u8 0, .int .u8 0, .int .u8 0, .int .u8 0, .int .u8 0, .int .u8 0, .int .u8 0, .int .u8 0], _, rfl, ⟨rfl, rfl⟩, ⟨[.int .u8 0, .int .u8 0, .int .u8 0, .int .u8 0, .int .u8 0, .int .u8 0, .int .u8 0, .int .u8 0, .int .u8 0, .int .u8 0, .int .u8 0, .int .u8 0, .int .u8 0, .int .u8 0, .int .u8 0, .int .u8 0, .int .u8 0, .int .u8 0, .int .u8 0, .int .u8 0, .int .u8 0, .int .u8 0, .int .u8 0, .int .u8 0, .int .u8 0, .int .u8 0, .int .u8 0, .int .u8 0, .int .u8 0, .int .u8 0, .int .u8 0, .int .u8 0], _, rfl, ⟨rfl, rfl⟩, ⟨[.int .i64 0], _, rfl, ⟨_, rfl, rfl, rfl, by decide⟩, ⟨[.slice none 0 0], _, rfl, ⟨_, rfl, rfl, by decide, .inl ⟨rfl, rfl⟩⟩, ⟨[.slice none 0 0], _, rfl, ⟨_, rfl, rfl, by decide, .inl ⟨rfl, rfl⟩⟩, ⟨[.slice none 0 0], _, rfl, ⟨_, rfl, rfl, by decide, .inl ⟨rfl, rfl⟩⟩, ⟨[.string ⟨#[]⟩], _, rfl, ⟨_, rfl, rfl, rfl, by decide⟩, rfl⟩⟩⟩⟩⟩⟩⟩⟩
theorem z171 : ∀ Φ, B0 Φ (Value.agg #[.int .u32 0, .int .u8 0, .int .u8 0, .int .u8 0, .int .u8 0, .int .u8 0, .int .u8 0, .int .u8 0, .int .u8 0, .int .u8 0, .int .u8 0, .int .u8 0, .int .u8 0, .int .u8 0, .int .u8 0, .int .u8 0, .int .u8 0, .int .u8 0, .int .u8 0, .int .u8 0, .int .u8 0, .int .u8 0, .int .u8 0, .int .u8 0, .int .u8 0, .int .u8 0, .int .u8 0, .int .u8 0, .int .u8 0, .int .u8 0, .int .u8 0, .int .u8 0, .int .u8 0, .int .u8 0, .int .u8 0, .int .u8 0, .int .u8 0, .int .u8 0, .int .u8 0, .int .u8 0, .int .u8 0, .int .u8 0, .int .u8 0, .int .u8 0, .int .u8 0, .int .u8 0, .int .u8 0, .int .u8 0, .int .u8 0, .int .u8 0, .int .u8 0, .int .u8 0, .int .u8 0, .int .u8 0, .int .u8 0, .int .u8 0, .int .u8 0, .int .u8 0, .int .u8 0, .int .u8 0, .int .u8 0, .int .u8 0, .int .u8 0, .int .u8 0, .int .u8 0, .int .i64 0, .slice none 0 0, .slice none 0 0, .slice none 0 0, .int .u32 0, .int .u8 0, .int .u8 0, .int .u8 0, .int .u8 0, .int .u8 0, .int .u8 0, .int .u8 0, .int .u8 0, .int .u8 0, .int .u8 0, .int .u8 0, .int .u8 0, .int .u8 0, .int .u8 0, .int .u8 0, .int .u8 0, .int .u8 0, .int .u8 0, .int .u8 0, .int .u8 0, .int .u8 0, .int .u8 0, .int .u8 0, .int .u8 0, .int .u8 0, .int .u8 0, .int .u8 0, .int .u8 0, .int .u8 0, .int .u8 0, .int .u8 0, .int .u8 0, .int .u8 0, .int .u8 0, .int .u8 0, .int .u8 0, .int .u8 0, .int .u8 0, .int .u8 0, .int .u8 0, .int .u8 0, .int .u8 0, .int .u8 0, .int .u8 0, .int .u8 0, .int .u8 0, .int .u8 0, .int .u8 0, .int .u8 0, .int .u8 0, .int .u8 0, .int .u8 0, .int .u8 0, .int .u8 0, .int .u8 0, .int .u8 0, .int .u8 0, .int .u8 0, .int .u8 0, .int .u8 0, .int .u8 0, .int .u8 0, .int .u8 0, .int .u8 0, .int .i64 0, .slice none 0 0, .slice none 0 0, .slice none 0 0, .string ⟨#[]⟩]).cells.toList [one (Ab .u32 (0 : Int)), Af 32 (List.replicate 32 0), Af 32 (List.replicate 32 0), one (Ab .i64 (0 : Int)), one (An (dC 32) []), one (An (dC 32) []), one (An (dC 32) []), one (Ab .u32 (0 : Int)), Af 32 (List.replicate 32 0), Af 32 (List.replicate 32 0), one (Ab .i64 (0 : Int)), one (An (dC 32) []), one (An (dC 32) []), one (An (dC 32) []), one (As [])] := fun _ => ⟨[.int .u32 0], _, rfl, ⟨_, rfl, rfl, rfl, by decide⟩, ⟨[.int .u8 0, .int .u8 0, .int .u8 0, .int .u8 0, .int .u8 0, .int .u8 0, .int .u8 0, .int .u8 0, .int .u8 0, .int .u8 0, .int .u8 0, .int .u8 0, .int .u8 0, .int .u8 0, .int .u8 0, .int .u8 0, .int .u8 0, .int .u8 0, .int .u8 0, .int .u8 0, .int .u8 0, .int .u8 0, .int .u8 0, .int .u8 0, .int .u8 0, .int .u8 0, .int .u8 0, .int .u8 0, .int .u8 0, .int .u8 0, .int .u8 0, .int .u8 0], _, rfl, ⟨rfl, rfl⟩, ⟨[.int .u8 0, .int .u8 0, .int .u8 0, .int .u8 0, .int .u8 0, .int .u8 0, .int .u8 0, .int .u8 0, .int .u8 0, .int .u8 0, .int .u8 0, .int .u8 0, .int .u8 0, .int .u8 0, .int .u8 0, .int .u8 0, .int .u8 0, .int .u8 0, .int .u8 0, .int .u8 0, .int .u8 0, .int .u8 0, .int .u8 0, .int .u8 0, .int .u8 0, .int .u8 0, .int .u8 0, .int .u8 0, .int .u8 0, .int .u8 0, .int .u8 0, .int .u8 0], _, rfl, ⟨rfl, rfl⟩, ⟨[.int .i64 0], _, rfl, ⟨_, rfl, rfl, rfl, by decide⟩, ⟨[.slice none 0 0], _, rfl, ⟨_, rfl, rfl, by decide, .inl ⟨rfl, rfl⟩⟩, ⟨[.slice none 0 0], _, rfl, ⟨_, rfl, rfl, by decide, .inl ⟨rfl, rfl⟩⟩, ⟨[.slice none 0 0], _, rfl, ⟨_, rfl, rfl, by decide, .inl ⟨rfl, rfl⟩⟩, ⟨[.int .u32 0], _, rfl, ⟨_, rfl, rfl, rfl, by decide⟩, ⟨[.int .u8 0, .int .u8 0, .int .u8 0, .int .u8 0, .int .u8 0, .int .u8 0, .int .u8 0, .int .u8 0, .int .u8 0, .int .u8 0, .int .u8 0, .int .u8 0, .int .u8 0, .int .u8 0, .int .u8 0, .int .u8 0, .int .u8 0, .int .u8 0, .int .u8 0, .int .u8 0, .int .u8 0, .int .u8 0, .int .u8 0, .int .u8 0, .int .u8 0, .int .u8 0, .int .u8 0, .int .u8 0, .int .u8 0, .int .u8 0, .int .u8 0, .int .u8 0], _, rfl, ⟨rfl, rfl⟩, ⟨[.int .u8 0, .int .u8 0, .int .u8 0, .int .u8 0, .int .u8 0, .int .u8 0, .int .u8 0, .int .u8 0, .int .u8 0, .int .u8 0, .int .u8 0, .int .u8 0, .int .u8 0, .int .u8 0, .int .u8 0, .int .u8 0, .int .u8 0, .int .u8 0, .int .u8 0, .int .u8 0, .int .u8 0, .int .u8 0, .int .u8 0, .int .u8 0, .int .u8 0, .int .u8 0, .int .u8 0, .int .u8 0, .int .u8 0, .int .u8 0, .int .u8 0, .int .u8 0], _, rfl, ⟨rfl, rfl⟩, ⟨[.int .i64 0], _, rfl, ⟨_, rfl, rfl, rfl, by decide⟩, ⟨[.slice none 0 0], _, rfl, ⟨_, rfl, rfl, by decide, .inl ⟨rfl, rfl⟩⟩, ⟨[.slice none 0 0], _, rfl, ⟨_, rfl, rfl, by decide, .inl ⟨rfl, rfl⟩⟩, ⟨[.slice none 0 0], _, rfl, ⟨_, rfl, rfl, by decide, .inl ⟨rfl, rfl⟩⟩, ⟨[.string ⟨#[]⟩], _, rfl, ⟨_, rfl, rfl, rfl, by decide⟩, rfl⟩⟩⟩⟩⟩⟩⟩⟩⟩⟩⟩⟩⟩⟩⟩
theorem z173 : ∀ Φ, B0 Φ (Value.agg #[.int .u32 0, .int .u8 0, .int .u8 0, .int .u8 0, .int .u8 0, .int .u8 0, .int .u8 0, .int .u8 0, .int .u8 0, .int .u8 0, .int .u8 0, .int .u8 0, .int .u8 0, .int .u8 0, .int .u8 0, .int .u8 0, .int .u8 0, .int .u8 0, .int .u8 0, .int .u8 0, .int .u8 0, .int .u8 0, .int .u8 0, .int .u8 0, .int .u8 0, .int .u8 0, .int .u8 0, .int .u8 0, .int .u8 0, .int .u8 0, .int .u8 0, .int .u8 0, .int .u8 0, .int .u8 0, .int .u8 0, .int .u8 0, .int .u8 0, .int .u8 0, .int .u8 0, .int .u8 0, .int .u8 0, .int .u8 0, .int .u8 0, .int .u8 0, .int .u8 0, .int .u8 0, .int .u8 0, .int .u8 0, .int .u8 0, .int .u8 0, .int .u8 0, .int .u8 0, .int .u8 0, .int .u8 0, .int .u8 0, .int .u8 0, .int .u8 0, .int .u8 0, .int .u8 0, .int .u8 0, .int .u8 0, .int .u8 0, .int .u8 0, .int .u8 0, .int .u8 0, .int .i64 0, .slice none 0 0, .slice none 0 0, .slice none 0 0]).cells.toList [one (Ab .u32 (0 : Int)), Af 32 (List.replicate 32 0), Af 32 (List.replicate 32 0), one (Ab .i64 (0 : Int)), one (An (dC 32) []), one (An (dC 32) []), one (An (dC 32) [])] := fun _ => ⟨[.int .u32 0], _, rfl, ⟨_, rfl, rfl, rfl, by decide⟩, ⟨[.int .u8 0, .int .u8 0, .int .u8 0, .int .u8 0, .int .u8 0, .int .u8 0, .int .u8 0, .int .u8 0, .int .u8 0, .int .u8 0, .int .u8 0, .int .u8 0, .int .u8 0, .int .u8 0, .int .u8 0, .int .u8 0, .int .u8 0, .int .u8 0, .int .u8 0, .int .u8 0, .int .u8 0, .int .u8 0, .int .u8 0, .int .u8 0, .int .u8 0, .int .u8 0, .int .u8 0, .int .u8 0, .int .u8 0, .int .u8 0, .int .u8 0, .int .u8 0], _, rfl, ⟨rfl, rfl⟩, ⟨[.int .u8 0, .int .u8 0, .int .u8 0, .int .u8 0, .int .u8 0, .int .u8 0, .int .u8 0, .int .u8 0, .int .u8 0, .int .u8 0, .int .u8 0, .int .u8 0, .int .u8 0, .int .u8 0, .int .u8 0, .int .u8 0, .int .u8 0, .int .u8 0, .int .u8 0, .int .u8 0, .int .u8 0, .int .u8 0, .int .u8 0, .int .u8 0, .int .u8 0, .int .u8 0, .int .u8 0, .int .u8 0, .int .u8 0, .int .u8 0, .int .u8 0, .int .u8 0], _, rfl, ⟨rfl, rfl⟩, ⟨[.int .i64 0], _, rfl, ⟨_, rfl, rfl, rfl, by decide⟩, ⟨[.slice none 0 0], _, rfl, ⟨_, rfl, rfl, by decide, .inl ⟨rfl, rfl⟩⟩, ⟨[.slice none 0 0], _, rfl, ⟨_, rfl, rfl, by decide, .inl ⟨rfl, rfl⟩⟩, ⟨[.slice none 0 0], _, rfl, ⟨_, rfl, rfl, by decide, .inl ⟨rfl, rfl⟩⟩, rfl⟩⟩⟩⟩⟩⟩⟩
theorem Ov : ∀ Φ, B0 Φ (Value.agg #[.int .u32 0, .int .u8 0, .int .u8 0, .int .u8 0, .int .u8 0, .int .u8 0, .int .u8 0, .int .u8 0, .int .u8 0, .int .u8 0, .int .u8 0, .int .u8 0, .int .u8 0, .int .u8 0, .int .u8 0, .int .u8 0, .int .u8 0, .int .u8 0, .int .u8 0, .int .u8 0, .int .u8 0, .int .u8 0, .int .u8 0, .int .u8 0, .int .u8 0, .int .u8 0, .int .u8 0, .int .u8 0, .int .u8 0, .int .u8 0, .int .u8 0, .int .u8 0, .int .u8 0, .int .u8 0, .int .u8 0, .int .u8 0, .int .u8 0, .int .u8 0, .int .u8 0, .int .u8 0, .int .u8 0, .int .u8 0, .int .u8 0, .int .u8 0, .int .u8 0, .int .u8 0, .int .u8 0, .int .u8 0, .int .u8 0, .int .u8 0, .int .u8 0, .int .u8 0, .int .u8 0, .int .u8 0, .int .u8 0, .int .u8 0, .int .u8 0, .int .u8 0, .int .u8 0, .int .u8 0, .int .u8 0, .int .u8 0, .int .u8 0, .int .u8 0, .int .u8 0, .int .i64 0, .slice none 0 0, .slice none 0 0, .slice none 0 0, .int .u32 0, .int .u8 0, .int .u8 0, .int .u8 0, .int .u8 0, .int .u8 0, .int .u8 0, .int .u8 0, .int .u8 0, .int .u8 0, .int .u8 0, .int .u8 0, .int .u8 0, .int .u8 0, .int .u8 0, .int .u8 0, .int .u8 0, .int .u8 0, .int .u8 0, .int .u8 0, .int .u8 0, .int .u8 0, .int .u8 0, .int .u8 0, .int .u8 0, .int .u8 0, .int .u8 0, .int .u8 0, .int .u8 0, .int .u8 0, .int .u8 0, .int .u8 0, .int .u8 0, .int .u8 0, .int .u8 0, .int .u8 0, .int .u8 0, .int .u8 0, .int .u8 0, .int .u8 0, .int .u8 0, .int .u8 0, .int .u8 0, .int .u8 0, .int .u8 0, .int .u8 0, .int .u8 0, .int .u8 0, .int .u8 0, .int .u8 0, .int .u8 0, .int .u8 0, .int .u8 0, .int .u8 0, .int .u8 0, .int .u8 0, .int .u8 0, .int .u8 0, .int .u8 0, .int .u8 0, .int .u8 0, .int .u8 0, .int .u8 0, .int .u8 0, .int .u8 0, .int .i64 0, .slice none 0 0, .slice none 0 0, .slice none 0 0]).cells.toList [one (Ab .u32 (0 : Int)), Af 32 (List.replicate 32 0), Af 32 (List.replicate 32 0), one (Ab .i64 (0 : Int)), one (An (dC 32) []), one (An (dC 32) []), one (An (dC 32) []), one (Ab .u32 (0 : Int)), Af 32 (List.replicate 32 0), Af 32 (List.replicate 32 0), one (Ab .i64 (0 : Int)), one (An (dC 32) []), one (An (dC 32) []), one (An (dC 32) [])] := fun _ => ⟨[.int .u32 0], _, rfl, ⟨_, rfl, rfl, rfl, by decide⟩, ⟨[.int .u8 0, .int .u8 0, .int .u8 0, .int .u8 0, .int .u8 0, .int .u8 0, .int .u8 0, .int .u8 0, .int .u8 0, .int .u8 0, .int .u8 0, .int .u8 0, .int .u8 0, .int .u8 0, .int .u8 0, .int .u8 0, .int .u8 0, .int .u8 0, .int .u8 0, .int .u8 0, .int .u8 0, .int .u8 0, .int .u8 0, .int .u8 0, .int .u8 0, .int .u8 0, .int .u8 0, .int .u8 0, .int .u8 0, .int .u8 0, .int .u8 0, .int .u8 0], _, rfl, ⟨rfl, rfl⟩, ⟨[.int .u8 0, .int .u8 0, .int .u8 0, .int .u8 0, .int .u8 0, .int .u8 0, .int .u8 0, .int .u8 0, .int .u8 0, .int .u8 0, .int .u8 0, .int .u8 0, .int .u8 0, .int .u8 0, .int .u8 0, .int .u8 0, .int .u8 0, .int .u8 0, .int .u8 0, .int .u8 0, .int .u8 0, .int .u8 0, .int .u8 0, .int .u8 0, .int .u8 0, .int .u8 0, .int .u8 0, .int .u8 0, .int .u8 0, .int .u8 0, .int .u8 0, .int .u8 0], _, rfl, ⟨rfl, rfl⟩, ⟨[.int .i64 0], _, rfl, ⟨_, rfl, rfl, rfl, by decide⟩, ⟨[.slice none 0 0], _, rfl, ⟨_, rfl, rfl, by decide, .inl ⟨rfl, rfl⟩⟩, ⟨[.slice none 0 0], _, rfl, ⟨_, rfl, rfl, by decide, .inl ⟨rfl, rfl⟩⟩, ⟨[.slice none 0 0], _, rfl, ⟨_, rfl, rfl, by decide, .inl ⟨rfl, rfl⟩⟩, ⟨[.int .u32 0], _, rfl, ⟨_, rfl, rfl, rfl, by decide⟩, ⟨[.int .u8 0, .int .u8 0, .int .u8 0, .int .u8 0, .int .u8 0, .int .u8 0, .int .u8 0, .int .u8 0, .int .u8 0, .int .u8 0, .int .u8 0, .int .u8 0, .int .u8 0, .int .u8 0, .int .u8 0, .int .u8 0, .int .u8 0, .int .u8 0, .int .u8 0, .int .u8 0, .int .u8 0, .int .u8 0, .int .u8 0, .int .u8 0, .int .u8 0, .int .u8 0, .int .u8 0, .int .u8 0, .int .u8 0, .int .u8 0, .int .u8 0, .int .u8 0], _, rfl, ⟨rfl, rfl⟩, ⟨[.int .u8 0, .int .u8 0, .int .u8 0, .int .u8 0, .int .u8 0, .int .u8 0, .int .u8 0, .int .u8 0, .int .u8 0, .int .u8 0, .int .u8 0, .int .u8 0, .int .u8 0, .int .u8 0, .int .u8 0, .int .u8 0, .int .u8 0, .int .u8 0, .int .u8 0, .int .u8 0, .int .u8 0, .int .u8 0, .int .u8 0, .int .u8 0, .int .u8 0, .int .u8 0, .int .u8 0, .int .u8 0, .int .u8 0, .int .u8 0, .int .u8 0, .int .u8 0], _, rfl, ⟨rfl, rfl⟩, ⟨[.int .i64 0], _, rfl, ⟨_, rfl, rfl, rfl, by decide⟩, ⟨[.slice none 0 0], _, rfl, ⟨_, rfl, rfl, by decide, .inl ⟨rfl, rfl⟩⟩, ⟨[.slice none 0 0], _, rfl, ⟨_, rfl, rfl, by decide, .inl ⟨rfl, rfl⟩⟩, ⟨[.slice none 0 0], _, rfl, ⟨_, rfl, rfl, by decide, .inl ⟨rfl, rfl⟩⟩, rfl⟩⟩⟩⟩⟩⟩⟩⟩⟩⟩⟩⟩⟩⟩
theorem Ou : ∀ Φ, B0 Φ (Value.agg #[.int .u32 0, .int .u8 0, .int .u8 0, .int .u8 0, .int .u8 0, .int .u8 0, .int .u8 0, .int .u8 0, .int .u8 0, .int .u8 0, .int .u8 0, .int .u8 0, .int .u8 0, .int .u8 0, .int .u8 0, .int .u8 0, .int .u8 0, .int .u8 0, .int .u8 0, .int .u8 0, .int .u8 0, .int .u8 0, .int .u8 0, .int .u8 0, .int .u8 0, .int .u8 0, .int .u8 0, .int .u8 0, .int .u8 0, .int .u8 0, .int .u8 0, .int .u8 0, .int .u8 0, .int .i64 0, .int .i64 0, .slice none 0 0, .slice none 0 0, .slice none 0 0]).cells.toList [one (Ab .u32 (0 : Int)), Af 32 (List.replicate 32 0), one (Ab .i64 (0 : Int)), one (Ab .i64 (0 : Int)), one (An (dC 32) []), one (An (dC 32) []), one (An (dC 32) [])] := fun _ => ⟨[.int .u32 0], _, rfl, ⟨_, rfl, rfl, rfl, by decide⟩, ⟨[.int .u8 0, .int .u8 0, .int .u8 0, .int .u8 0, .int .u8 0, .int .u8 0, .int .u8 0, .int .u8 0, .int .u8 0, .int .u8 0, .int .u8 0, .int .u8 0, .int .u8 0, .int .u8 0, .int .u8 0, .int .u8 0, .int .u8 0, .int .u8 0, .int .u8 0, .int .u8 0, .int .u8 0, .int .u8 0, .int .u8 0, .int .u8 0, .int .u8 0, .int .u8 0, .int .u8 0, .int .u8 0, .int .u8 0, .int .u8 0, .int .u8 0, .int .u8 0], _, rfl, ⟨rfl, rfl⟩, ⟨[.int .i64 0], _, rfl, ⟨_, rfl, rfl, rfl, by decide⟩, ⟨[.int .i64 0], _, rfl, ⟨_, rfl, rfl, rfl, by decide⟩, ⟨[.slice none 0 0], _, rfl, ⟨_, rfl, rfl, by decide, .inl ⟨rfl, rfl⟩⟩, ⟨[.slice none 0 0], _, rfl, ⟨_, rfl, rfl, by decide, .inl ⟨rfl, rfl⟩⟩, ⟨[.slice none 0 0], _, rfl, ⟨_, rfl, rfl, by decide, .inl ⟨rfl, rfl⟩⟩, rfl⟩⟩⟩⟩⟩⟩⟩
theorem z182 : ∀ Φ, B0 Φ (Value.agg #[.int .u8 0, .int .u8 0, .int .u8 0, .int .u8 0, .int .u8 0, .int .u8 0, .int .u8 0, .int .u8 0, .int .u8 0, .int .u8 0, .int .u8 0, .int .u8 0, .int .u8 0, .int .u8 0, .int .u8 0, .int .u8 0, .int .u8 0, .int .u8 0, .int .u8 0, .int .u8 0, .int .u8 0, .int .u8 0, .int .u8 0, .int .u8 0, .int .u8 0, .int .u8 0, .int .u8 0, .int .u8 0, .int .u8 0, .int .u8 0, .int .u8 0, .int .u8 0, .int .u32 0, .slice none 0 0]).cells.toList [Af 32 (List.replicate 32 0), one (Ab .u32 (0 : Int)), one (An (dC 32) [])] := fun _ => ⟨[.int .u8 0, .int .u8 0, .int .u8 0, .int .u8 0, .int .u8 0, .int .u8 0, .int .u8 0, .int .u8 0, .int .u8 0, .int .u8 0, .int .u8 0, .int .u8 0, .int .u8 0, .int .u8 0, .int .u8 0, .int .u8 0, .int .u8 0, .int .u8 0, .int .u8 0, .int .u8 0, .int .u8 0, .int .u8 0, .int .u8 0, .int .u8 0, .int .u8 0, .int .u8 0, .int .u8 0, .int .u8 0, .int .u8 0, .int .u8 0, .int .u8 0, .int .u8 0], _, rfl, ⟨rfl, rfl⟩, ⟨[.int .u32 0], _, rfl, ⟨_, rfl, rfl, rfl, by decide⟩, ⟨[.slice none 0 0], _, rfl, ⟨_, rfl, rfl, by decide, .inl ⟨rfl, rfl⟩⟩, rfl⟩⟩⟩
theorem z208 : ∀ Φ, B0 Φ (Value.agg #[.int .u32 0, .int .u32 0, .int .u32 0, .int .u32 0, .int .u32 0, .int .u32 0, .int .u32 0, .int .u32 0]).cells.toList [AI .u32 8 (List.replicate 8 0)] := fun _ => ⟨[.int .u32 0, .int .u32 0, .int .u32 0, .int .u32 0, .int .u32 0, .int .u32 0, .int .u32 0, .int .u32 0], _, rfl, ⟨rfl, rfl, by decide⟩, rfl⟩
theorem PJ : ∀ Φ, B0 Φ (Value.agg #[.int .u8 0, .int .u8 0, .int .u8 0, .int .u8 0, .int .u8 0, .int .u8 0, .int .u8 0, .int .u8 0]).cells.toList [Af 8 (List.replicate 8 0)] := fun _ => ⟨[.int .u8 0, .int .u8 0, .int .u8 0, .int .u8 0, .int .u8 0, .int .u8 0, .int .u8 0, .int .u8 0], _, rfl, ⟨rfl, rfl⟩, rfl⟩
theorem Ot : ∀ Φ, B0 Φ (Value.agg #[.int .u32 0, .int .u32 0, .int .u32 0, .int .u32 0, .int .u32 0, .int .u32 0, .int .u32 0, .int .u32 0, .string ⟨#[]⟩, .int .u64 0]).cells.toList [AI .u32 8 (List.replicate 8 0), one (As []), one (Ab .u64 (0 : Int))] := fun _ => ⟨[.int .u32 0, .int .u32 0, .int .u32 0, .int .u32 0, .int .u32 0, .int .u32 0, .int .u32 0, .int .u32 0], _, rfl, ⟨rfl, rfl, by decide⟩, ⟨[.string ⟨#[]⟩], _, rfl, ⟨_, rfl, rfl, rfl, by decide⟩, ⟨[.int .u64 0], _, rfl, ⟨_, rfl, rfl, rfl, by decide⟩, rfl⟩⟩⟩
theorem MC : ∀ Φ, B0 Φ (Value.agg #[.int .u32 0, .int .u32 0, .int .u32 0, .int .u32 0, .int .u32 0, .int .u32 0, .int .u32 0, .int .u32 0, .int .u32 0, .int .u32 0, .int .u32 0, .int .u32 0, .int .u32 0, .int .u32 0, .int .u32 0, .int .u32 0, .int .u32 0, .int .u32 0, .int .u32 0, .int .u32 0, .int .u32 0, .int .u32 0, .int .u32 0, .int .u32 0, .int .u32 0, .int .u32 0, .int .u32 0, .int .u32 0, .int .u32 0, .int .u32 0, .int .u32 0, .int .u32 0, .int .u32 0, .int .u32 0, .int .u32 0, .int .u32 0, .int .u32 0, .int .u32 0, .int .u32 0, .int .u32 0, .int .u32 0, .int .u32 0, .int .u32 0, .int .u32 0, .int .u32 0, .int .u32 0, .int .u32 0, .int .u32 0, .int .u32 0, .int .u32 0, .int .u32 0, .int .u32 0, .int .u32 0, .int .u32 0, .int .u32 0, .int .u32 0, .int .u32 0, .int .u32 0, .int .u32 0, .int .u32 0, .int .u32 0, .int .u32 0, .int .u32 0, .int .u32 0]).cells.toList [AI .u32 64 (List.replicate 64 0)] := fun _ => ⟨[.int .u32 0, .int .u32 0, .int .u32 0, .int .u32 0, .int .u32 0, .int .u32 0, .int .u32 0, .int .u32 0, .int .u32 0, .int .u32 0, .int .u32 0, .int .u32 0, .int .u32 0, .int .u32 0, .int .u32 0, .int .u32 0, .int .u32 0, .int .u32 0, .int .u32 0, .int .u32 0, .int .u32 0, .int .u32 0, .int .u32 0, .int .u32 0, .int .u32 0, .int .u32 0, .int .u32 0, .int .u32 0, .int .u32 0, .int .u32 0, .int .u32 0, .int .u32 0, .int .u32 0, .int .u32 0, .int .u32 0, .int .u32 0, .int .u32 0, .int .u32 0, .int .u32 0, .int .u32 0, .int .u32 0, .int .u32 0, .int .u32 0, .int .u32 0, .int .u32 0, .int .u32 0, .int .u32 0, .int .u32 0, .int .u32 0, .int .u32 0, .int .u32 0, .int .u32 0, .int .u32 0, .int .u32 0, .int .u32 0, .int .u32 0, .int .u32 0, .int .u32 0, .int .u32 0, .int .u32 0, .int .u32 0, .int .u32 0, .int .u32 0, .int .u32 0], _, rfl, ⟨rfl, rfl, by decide⟩, rfl⟩
theorem Rn : ∀ Φ, B0 Φ (.slice none 0 0 : Value).cells.toList [one (Am (.slice none 0 0))] := fun _ => ⟨[.slice none 0 0], _, rfl, ⟨_, rfl, rfl, rfl⟩, rfl⟩
theorem Rm : ∀ Φ, B0 Φ (.slice none 0 0 : Value).cells.toList [one (Am (.slice none 0 0))] := fun _ => ⟨[.slice none 0 0], _, rfl, ⟨_, rfl, rfl, rfl⟩, rfl⟩
theorem QC : ∀ Φ, B0 Φ (Value.agg #[.int .u32 0, .int .u32 0, .int .u8 0, .int .u8 0, .int .u8 0, .int .u8 0, .int .u8 0, .int .u8 0, .int .u8 0, .int .u8 0, .int .u8 0, .int .u8 0, .int .u8 0, .int .u8 0, .int .u8 0, .int .u8 0, .int .u8 0, .int .u8 0, .int .u8 0, .int .u8 0, .int .u8 0, .int .u8 0, .int .u8 0, .int .u8 0, .int .u8 0, .int .u8 0, .int .u8 0, .int .u8 0, .int .u8 0, .int .u8 0, .int .u8 0, .int .u8 0, .int .u8 0, .int .u8 0, .slice none 0 0, .int .u64 0, .int .u8 0, .int .u8 0, .int .u8 0, .int .u8 0, .int .u8 0, .int .u8 0, .int .u8 0, .int .u8 0, .int .u8 0, .int .u8 0, .int .u8 0, .int .u8 0, .int .u8 0, .int .u8 0, .int .u8 0, .int .u8 0, .int .u8 0, .int .u8 0, .int .u8 0, .int .u8 0, .int .u8 0, .int .u8 0, .int .u8 0, .int .u8 0, .int .u8 0, .int .u8 0, .int .u8 0, .int .u8 0, .int .u8 0, .int .u8 0, .int .u8 0, .int .u8 0, .slice none 0 0, .slice none 0 0, .bool false, .bool false]).cells.toList [one (Ab .u32 (0 : Int)), one (Ab .u32 (0 : Int)), Af 32 (List.replicate 32 0), one (An (dC 32) []), one (Ab .u64 (0 : Int)), Af 32 (List.replicate 32 0), one (An Av.ck []), one (An Ag.ck []), one (AE false), one (AE false)] := fun _ => ⟨[.int .u32 0], _, rfl, ⟨_, rfl, rfl, rfl, by decide⟩, ⟨[.int .u32 0], _, rfl, ⟨_, rfl, rfl, rfl, by decide⟩, ⟨[.int .u8 0, .int .u8 0, .int .u8 0, .int .u8 0, .int .u8 0, .int .u8 0, .int .u8 0, .int .u8 0, .int .u8 0, .int .u8 0, .int .u8 0, .int .u8 0, .int .u8 0, .int .u8 0, .int .u8 0, .int .u8 0, .int .u8 0, .int .u8 0, .int .u8 0, .int .u8 0, .int .u8 0, .int .u8 0, .int .u8 0, .int .u8 0, .int .u8 0, .int .u8 0, .int .u8 0, .int .u8 0, .int .u8 0, .int .u8 0, .int .u8 0, .int .u8 0], _, rfl, ⟨rfl, rfl⟩, ⟨[.slice none 0 0], _, rfl, ⟨_, rfl, rfl, by decide, .inl ⟨rfl, rfl⟩⟩, ⟨[.int .u64 0], _, rfl, ⟨_, rfl, rfl, rfl, by decide⟩, ⟨[.int .u8 0, .int .u8 0, .int .u8 0, .int .u8 0, .int .u8 0, .int .u8 0, .int .u8 0, .int .u8 0, .int .u8 0, .int .u8 0, .int .u8 0, .int .u8 0, .int .u8 0, .int .u8 0, .int .u8 0, .int .u8 0, .int .u8 0, .int .u8 0, .int .u8 0, .int .u8 0, .int .u8 0, .int .u8 0, .int .u8 0, .int .u8 0, .int .u8 0, .int .u8 0, .int .u8 0, .int .u8 0, .int .u8 0, .int .u8 0, .int .u8 0, .int .u8 0], _, rfl, ⟨rfl, rfl⟩, ⟨[.slice none 0 0], _, rfl, ⟨_, rfl, rfl, by decide, .inl ⟨rfl, rfl⟩⟩, ⟨[.slice none 0 0], _, rfl, ⟨_, rfl, rfl, by decide, .inl ⟨rfl, rfl⟩⟩, ⟨[.bool false], _, rfl, ⟨_, rfl, rfl, rfl⟩, ⟨[.bool false], _, rfl, ⟨_, rfl, rfl, rfl⟩, rfl⟩⟩⟩⟩⟩⟩⟩⟩⟩⟩
theorem Rl : ∀ Φ, B0 Φ (Value.agg #[.int .u32 0, .string ⟨#[]⟩]).cells.toList [one (Ab .u32 (0 : Int)), one (As [])] := fun _ => ⟨[.int .u32 0], _, rfl, ⟨_, rfl, rfl, rfl, by decide⟩, ⟨[.string ⟨#[]⟩], _, rfl, ⟨_, rfl, rfl, rfl, by decide⟩, rfl⟩⟩
theorem QE : ∀ Φ, B0 Φ (Value.agg #[.pointer none, .slice none 0 0]).cells.toList [one (Am (.pointer none)), one (Am (.slice none 0 0))] := fun _ => ⟨[.pointer none], _, rfl, ⟨_, rfl, rfl, rfl⟩, ⟨[.slice none 0 0], _, rfl, ⟨_, rfl, rfl, rfl⟩, rfl⟩⟩
theorem QD : ∀ Φ, B0 Φ (Value.agg #[.string ⟨#[]⟩, .int .i64 0]).cells.toList [one (As []), one (Ab .i64 (0 : Int))] := fun _ => ⟨[.string ⟨#[]⟩], _, rfl, ⟨_, rfl, rfl, rfl, by decide⟩, ⟨[.int .i64 0], _, rfl, ⟨_, rfl, rfl, rfl, by decide⟩, rfl⟩⟩
theorem Q3 : ∀ p, prog.built 31 p = Instr.fill (fun i => (#[(0, 1), (1, 1), (2, 1), (3, 1), (4, 1), (5, 1)] : Array (Nat × Nat))[i]?) (Value.agg #[.int .u32 0, .int .u32 0, .int .u32 0, .string ⟨#[]⟩, .string ⟨#[]⟩, .string ⟨#[]⟩]).cells.toList.toArray p := by intro p; kernel_rfl
theorem Q2 : ∀ p, prog.built 37 p = Instr.fill (fun i => (#[(0, 32), (32, 1)] : Array (Nat × Nat))[i]?) (Value.agg #[.int .u8 0, .int .u8 0, .int .u8 0, .int .u8 0, .int .u8 0, .int .u8 0, .int .u8 0, .int .u8 0, .int .u8 0, .int .u8 0, .int .u8 0, .int .u8 0, .int .u8 0, .int .u8 0, .int .u8 0, .int .u8 0, .int .u8 0, .int .u8 0, .int .u8 0, .int .u8 0, .int .u8 0, .int .u8 0, .int .u8 0, .int .u8 0, .int .u8 0, .int .u8 0, .int .u8 0, .int .u8 0, .int .u8 0, .int .u8 0, .int .u8 0, .int .u8 0, .int .u64 0]).cells.toList.toArray p := by intro p; kernel_rfl
theorem Qr : ∀ p, prog.built 41 p = Instr.fill (fun i => (#[(0, 1), (1, 1), (2, 32), (34, 1), (35, 1), (36, 32), (68, 1), (69, 1), (70, 1), (71, 1)] : Array (Nat × Nat))[i]?) (Value.agg #[.int .u32 0, .int .u32 0, .int .u8 0, .int .u8 0, .int .u8 0, .int .u8 0, .int .u8 0, .int .u8 0, .int .u8 0, .int .u8 0, .int .u8 0, .int .u8 0, .int .u8 0, .int .u8 0, .int .u8 0, .int .u8 0, .int .u8 0, .int .u8 0, .int .u8 0, .int .u8 0, .int .u8 0, .int .u8 0, .int .u8 0, .int .u8 0, .int .u8 0, .int .u8 0, .int .u8 0, .int .u8 0, .int .u8 0, .int .u8 0, .int .u8 0, .int .u8 0, .int .u8 0, .int .u8 0, .slice none 0 0, .int .u64 0, .int .u8 0, .int .u8 0, .int .u8 0, .int .u8 0, .int .u8 0, .int .u8 0, .int .u8 0, .int .u8 0, .int .u8 0, .int .u8 0, .int .u8 0, .int .u8 0, .int .u8 0, .int .u8 0, .int .u8 0, .int .u8 0, .int .u8 0, .int .u8 0, .int .u8 0, .int .u8 0, .int .u8 0, .int .u8 0, .int .u8 0, .int .u8 0, .int .u8 0, .int .u8 0, .int .u8 0, .int .u8 0, .int .u8 0, .int .u8 0, .int .u8 0, .int .u8 0, .slice none 0 0, .slice none 0 0, .bool false, .bool false]).cells.toList.toArray p := by intro p; kernel_rfl
theorem RB : ∀ p, prog.built 43 p = Instr.fill (fun i => (#[(0, 1), (1, 1)] : Array (Nat × Nat))[i]?) (Value.agg #[.int .u32 0, .string ⟨#[]⟩]).cells.toList.toArray p := by intro p; kernel_rfl
theorem Q1 : ∀ p, prog.built 93 p = Instr.fill (fun i => (#[(0, 1), (1, 1), (2, 1), (3, 32), (35, 32), (67, 1)] : Array (Nat × Nat))[i]?) (Value.agg #[.int .u8 0, .int .u32 0, .int .u64 0, .int .u8 0, .int .u8 0, .int .u8 0, .int .u8 0, .int .u8 0, .int .u8 0, .int .u8 0, .int .u8 0, .int .u8 0, .int .u8 0, .int .u8 0, .int .u8 0, .int .u8 0, .int .u8 0, .int .u8 0, .int .u8 0, .int .u8 0, .int .u8 0, .int .u8 0, .int .u8 0, .int .u8 0, .int .u8 0, .int .u8 0, .int .u8 0, .int .u8 0, .int .u8 0, .int .u8 0, .int .u8 0, .int .u8 0, .int .u8 0, .int .u8 0, .int .u8 0, .int .u8 0, .int .u8 0, .int .u8 0, .int .u8 0, .int .u8 0, .int .u8 0, .int .u8 0, .int .u8 0, .int .u8 0, .int .u8 0, .int .u8 0, .int .u8 0, .int .u8 0, .int .u8 0, .int .u8 0, .int .u8 0, .int .u8 0, .int .u8 0, .int .u8 0, .int .u8 0, .int .u8 0, .int .u8 0, .int .u8 0, .int .u8 0, .int .u8 0, .int .u8 0, .int .u8 0, .int .u8 0, .int .u8 0, .int .u8 0, .int .u8 0, .int .u8 0, .int .u64 0]).cells.toList.toArray p := by intro p; kernel_rfl
theorem Od : ∀ p, prog.built 106 p = Instr.fill (fun i => (#[(0, 1), (1, 1), (2, 1), (3, 1), (4, 1), (5, 1), (6, 1), (7, 4), (11, 69), (80, 69), (149, 38), (187, 32), (219, 1), (220, 1), (221, 6)] : Array (Nat × Nat))[i]?) (Value.agg zeroCells106).cells.toList.toArray p := by intro p; kernel_rfl
theorem Q9 : ∀ p, prog.built 110 p = Instr.fill (fun i => (#[(0, 32), (32, 1), (33, 32)] : Array (Nat × Nat))[i]?) (Value.agg #[.int .u8 0, .int .u8 0, .int .u8 0, .int .u8 0, .int .u8 0, .int .u8 0, .int .u8 0, .int .u8 0, .int .u8 0, .int .u8 0, .int .u8 0, .int .u8 0, .int .u8 0, .int .u8 0, .int .u8 0, .int .u8 0, .int .u8 0, .int .u8 0, .int .u8 0, .int .u8 0, .int .u8 0, .int .u8 0, .int .u8 0, .int .u8 0, .int .u8 0, .int .u8 0, .int .u8 0, .int .u8 0, .int .u8 0, .int .u8 0, .int .u8 0, .int .u8 0, .int .i64 0, .int .u8 0, .int .u8 0, .int .u8 0, .int .u8 0, .int .u8 0, .int .u8 0, .int .u8 0, .int .u8 0, .int .u8 0, .int .u8 0, .int .u8 0, .int .u8 0, .int .u8 0, .int .u8 0, .int .u8 0, .int .u8 0, .int .u8 0, .int .u8 0, .int .u8 0, .int .u8 0, .int .u8 0, .int .u8 0, .int .u8 0, .int .u8 0, .int .u8 0, .int .u8 0, .int .u8 0, .int .u8 0, .int .u8 0, .int .u8 0, .int .u8 0, .int .u8 0]).cells.toList.toArray p := by intro p; kernel_rfl
theorem Q8 : ∀ p, prog.built 148 p = Instr.fill (fun i => (#[(0, 6)] : Array (Nat × Nat))[i]?) (Value.agg #[.int .u32 0, .int .u32 0, .int .u32 0, .string ⟨#[]⟩, .string ⟨#[]⟩, .string ⟨#[]⟩]).cells.toList.toArray p := by intro p; kernel_rfl
theorem Q7 : ∀ p, prog.built 182 p = Instr.fill (fun i => (#[(0, 32), (32, 1), (33, 1)] : Array (Nat × Nat))[i]?) (Value.agg #[.int .u8 0, .int .u8 0, .int .u8 0, .int .u8 0, .int .u8 0, .int .u8 0, .int .u8 0, .int .u8 0, .int .u8 0, .int .u8 0, .int .u8 0, .int .u8 0, .int .u8 0, .int .u8 0, .int .u8 0, .int .u8 0, .int .u8 0, .int .u8 0, .int .u8 0, .int .u8 0, .int .u8 0, .int .u8 0, .int .u8 0, .int .u8 0, .int .u8 0, .int .u8 0, .int .u8 0, .int .u8 0, .int .u8 0, .int .u8 0, .int .u8 0, .int .u8 0, .int .u32 0, .slice none 0 0]).cells.toList.toArray p := by intro p; kernel_rfl
theorem Pr : ∀ p, prog.built 208 p = Instr.fill (fun i => some (i * 1, 1)) (List.replicate 8 (.int .u32 0)).toArray p := by intro p; kernel_rfl
theorem Q6 : ∀ p, prog.built 247 p = Instr.fill (fun i => (#[(0, 8), (8, 1), (9, 1)] : Array (Nat × Nat))[i]?) (Value.agg #[.int .u32 0, .int .u32 0, .int .u32 0, .int .u32 0, .int .u32 0, .int .u32 0, .int .u32 0, .int .u32 0, .string ⟨#[]⟩, .int .u64 0]).cells.toList.toArray p := by intro p; kernel_rfl
theorem Q5 : ∀ p, prog.built 259 p = Instr.fill (fun i => (#[(0, 1), (1, 1)] : Array (Nat × Nat))[i]?) (Value.agg #[.string ⟨#[]⟩, .int .i64 0]).cells.toList.toArray p := by intro p; kernel_rfl
theorem Q4 : ∀ p, prog.built 262 p = Instr.fill (fun i => some (i * 1, 1)) (List.replicate 64 (.int .u32 0)).toArray p := by intro p; kernel_rfl
def HT : EJ → BK
 | .c148 x => x
 | _ => (BK.mk (Ai.mk (0 : Int) (0 : Int) (0 : Int) [] [] []))
def KH : EJ → Bool
 | .c148 _ => true
 | _ => false
theorem M9 {G : FP} {N : List B1} {d : Nat} {ty : TypeId} {pos : String} {af : Array Edge} {gd : Option (Nat × Bool)} {x : BK} {o : Operand} (hx : AM G N o (AG (BK.ck x))) :
  Ba prog G ⟨some d, .makeInterface 148 o, ty, pos, af, gd⟩ N [] (fun _ => [.slot d (Dw (.c148 x))]) := J2 underlying148 hx
def Dk : EJ → Cd
 | .c182 x => x
 | _ => (Cd.mk (List.replicate 32 0) (0 : Int) [])
def I1 : EJ → Bool
 | .c182 _ => true
 | _ => false
theorem M8 {G : FP} {N : List B1} {d : Nat} {ty : TypeId} {pos : String} {af : Array Edge} {gd : Option (Nat × Bool)} {x : Cd} {o : Operand} (hx : AM G N o (AG (Cd.ck x))) :
  Ba prog G ⟨some d, .makeInterface 182 o, ty, pos, af, gd⟩ N [] (fun _ => [.slot d (Dw (.c182 x))]) := J2 underlying182 hx
theorem M7 {G : FP} {N : List B1} {d : Nat} {ty : TypeId} {pos : String} {af : Array Edge} {gd : Option (Nat × Bool)} {x : EJ} {o : Operand} (hx : AM G N o (Dw x)) :
  Ba prog G ⟨some d, .typeAssert o 20 148 true, ty, pos, af, gd⟩ N [] (fun _ => [.slot d (CV [AG (BK.ck (HT x)), AE (KH x)])]) := C7 underlying148 zeroValue148 hx fun Φ v h => by
 cases x with
 | nil => exact .inr ⟨.inl h, rfl, ⟨_, rfl, z148 Φ⟩⟩
 | c148 y => obtain ⟨u, h1, h2⟩ := h; exact .inl ⟨u, h1, rfl, h2⟩
 | c182 y => obtain ⟨u, h1, _⟩ := h; exact .inr ⟨.inr ⟨182, u, h1, by decide⟩, rfl, ⟨_, rfl, z148 Φ⟩⟩
def HD : En := (En.mk [] [] (0 : Int) (0 : Int) (AR.mk (0 : Int) [] [] []))
theorem M6 {G : FP} {N : List B1} {d : Nat} {ty : TypeId} {pos : String} {af : Array Edge} {gd : Option (Nat × Bool)} {x : EJ} {o : Operand} (hx : AM G N o (Dw x)) :
  Ba prog G ⟨some d, .typeAssert o 20 153 true, ty, pos, af, gd⟩ N [] (fun _ => [.slot d (CV [AG (En.ck HD), AE false])]) := C7 underlying153 zeroValue153 hx fun Φ v h => by
 cases x with
 | nil => exact .inr ⟨.inl h, rfl, ⟨_, rfl, Ox Φ⟩⟩
 | c148 y => obtain ⟨u, h1, _⟩ := h; exact .inr ⟨.inr ⟨148, u, h1, by decide⟩, rfl, ⟨_, rfl, Ox Φ⟩⟩
 | c182 y => obtain ⟨u, h1, _⟩ := h; exact .inr ⟨.inr ⟨182, u, h1, by decide⟩, rfl, ⟨_, rfl, Ox Φ⟩⟩
def Pj : DH := (DH.mk [] (0 : Int) [] [] (0 : Int) (0 : Int) (AR.mk (0 : Int) [] [] []))
theorem M5 {G : FP} {N : List B1} {d : Nat} {ty : TypeId} {pos : String} {af : Array Edge} {gd : Option (Nat × Bool)} {x : EJ} {o : Operand} (hx : AM G N o (Dw x)) :
  Ba prog G ⟨some d, .typeAssert o 20 156 true, ty, pos, af, gd⟩ N [] (fun _ => [.slot d (CV [AG (DH.ck Pj), AE false])]) := C7 underlying156 zeroValue156 hx fun Φ v h => by
 cases x with
 | nil => exact .inr ⟨.inl h, rfl, ⟨_, rfl, z156 Φ⟩⟩
 | c148 y => obtain ⟨u, h1, _⟩ := h; exact .inr ⟨.inr ⟨148, u, h1, by decide⟩, rfl, ⟨_, rfl, z156 Φ⟩⟩
 | c182 y => obtain ⟨u, h1, _⟩ := h; exact .inr ⟨.inr ⟨182, u, h1, by decide⟩, rfl, ⟨_, rfl, z156 Φ⟩⟩
def Ph : D7 := (D7.mk [] [] (0 : Int) (AR.mk (0 : Int) [] [] []))
theorem M4 {G : FP} {N : List B1} {d : Nat} {ty : TypeId} {pos : String} {af : Array Edge} {gd : Option (Nat × Bool)} {x : EJ} {o : Operand} (hx : AM G N o (Dw x)) :
  Ba prog G ⟨some d, .typeAssert o 20 159 true, ty, pos, af, gd⟩ N [] (fun _ => [.slot d (CV [AG (D7.ck Ph), AE false])]) := C7 underlying159 zeroValue159 hx fun Φ v h => by
 cases x with
 | nil => exact .inr ⟨.inl h, rfl, ⟨_, rfl, z159 Φ⟩⟩
 | c148 y => obtain ⟨u, h1, _⟩ := h; exact .inr ⟨.inr ⟨148, u, h1, by decide⟩, rfl, ⟨_, rfl, z159 Φ⟩⟩
 | c182 y => obtain ⟨u, h1, _⟩ := h; exact .inr ⟨.inr ⟨182, u, h1, by decide⟩, rfl, ⟨_, rfl, z159 Φ⟩⟩
def Ix : DX := (DX.mk [] [] (0 : Int) (AR.mk (0 : Int) [] [] []))
theorem M3 {G : FP} {N : List B1} {d : Nat} {ty : TypeId} {pos : String} {af : Array Edge} {gd : Option (Nat × Bool)} {x : EJ} {o : Operand} (hx : AM G N o (Dw x)) :
  Ba prog G ⟨some d, .typeAssert o 20 162 true, ty, pos, af, gd⟩ N [] (fun _ => [.slot d (CV [AG (DX.ck Ix), AE false])]) := C7 underlying162 zeroValue162 hx fun Φ v h => by
 cases x with
 | nil => exact .inr ⟨.inl h, rfl, ⟨_, rfl, z162 Φ⟩⟩
 | c148 y => obtain ⟨u, h1, _⟩ := h; exact .inr ⟨.inr ⟨148, u, h1, by decide⟩, rfl, ⟨_, rfl, z162 Φ⟩⟩
 | c182 y => obtain ⟨u, h1, _⟩ := h; exact .inr ⟨.inr ⟨182, u, h1, by decide⟩, rfl, ⟨_, rfl, z162 Φ⟩⟩
def Pg : De := (De.mk (AS.mk (0 : Int) (List.replicate 32 0) (List.replicate 32 0) (AR.mk (0 : Int) [] [] [])))
theorem M1 {G : FP} {N : List B1} {d : Nat} {ty : TypeId} {pos : String} {af : Array Edge} {gd : Option (Nat × Bool)} {x : EJ} {o : Operand} (hx : AM G N o (Dw x)) :
  Ba prog G ⟨some d, .typeAssert o 20 165 true, ty, pos, af, gd⟩ N [] (fun _ => [.slot d (CV [AG (De.ck Pg), AE false])]) := C7 underlying165 zeroValue165 hx fun Φ v h => by
 cases x with
 | nil => exact .inr ⟨.inl h, rfl, ⟨_, rfl, Ow Φ⟩⟩
 | c148 y => obtain ⟨u, h1, _⟩ := h; exact .inr ⟨.inr ⟨148, u, h1, by decide⟩, rfl, ⟨_, rfl, Ow Φ⟩⟩
 | c182 y => obtain ⟨u, h1, _⟩ := h; exact .inr ⟨.inr ⟨182, u, h1, by decide⟩, rfl, ⟨_, rfl, Ow Φ⟩⟩
def Pf : Cq := (Cq.mk (AS.mk (0 : Int) (List.replicate 32 0) (List.replicate 32 0) (AR.mk (0 : Int) [] [] [])) [])
theorem M0 {G : FP} {N : List B1} {d : Nat} {ty : TypeId} {pos : String} {af : Array Edge} {gd : Option (Nat × Bool)} {x : EJ} {o : Operand} (hx : AM G N o (Dw x)) :
  Ba prog G ⟨some d, .typeAssert o 20 168 true, ty, pos, af, gd⟩ N [] (fun _ => [.slot d (CV [AG (Cq.ck Pf), AE false])]) := C7 underlying168 zeroValue168 hx fun Φ v h => by
 cases x with
 | nil => exact .inr ⟨.inl h, rfl, ⟨_, rfl, z168 Φ⟩⟩
 | c148 y => obtain ⟨u, h1, _⟩ := h; exact .inr ⟨.inr ⟨148, u, h1, by decide⟩, rfl, ⟨_, rfl, z168 Φ⟩⟩
 | c182 y => obtain ⟨u, h1, _⟩ := h; exact .inr ⟨.inr ⟨182, u, h1, by decide⟩, rfl, ⟨_, rfl, z168 Φ⟩⟩
def Pe : C4 := (C4.mk (AS.mk (0 : Int) (List.replicate 32 0) (List.replicate 32 0) (AR.mk (0 : Int) [] [] [])) (AS.mk (0 : Int) (List.replicate 32 0) (List.replicate 32 0) (AR.mk (0 : Int) [] [] [])) [])
theorem MZ {G : FP} {N : List B1} {d : Nat} {ty : TypeId} {pos : String} {af : Array Edge} {gd : Option (Nat × Bool)} {x : EJ} {o : Operand} (hx : AM G N o (Dw x)) :
  Ba prog G ⟨some d, .typeAssert o 20 171 true, ty, pos, af, gd⟩ N [] (fun _ => [.slot d (CV [AG (C4.ck Pe), AE false])]) := C7 underlying171 zeroValue171 hx fun Φ v h => by
 cases x with
 | nil => exact .inr ⟨.inl h, rfl, ⟨_, rfl, z171 Φ⟩⟩
 | c148 y => obtain ⟨u, h1, _⟩ := h; exact .inr ⟨.inr ⟨148, u, h1, by decide⟩, rfl, ⟨_, rfl, z171 Φ⟩⟩
 | c182 y => obtain ⟨u, h1, _⟩ := h; exact .inr ⟨.inr ⟨182, u, h1, by decide⟩, rfl, ⟨_, rfl, z171 Φ⟩⟩
def Pd : Df := (Df.mk (AS.mk (0 : Int) (List.replicate 32 0) (List.replicate 32 0) (AR.mk (0 : Int) [] [] [])))
theorem MY {G : FP} {N : List B1} {d : Nat} {ty : TypeId} {pos : String} {af : Array Edge} {gd : Option (Nat × Bool)} {x : EJ} {o : Operand} (hx : AM G N o (Dw x)) :
  Ba prog G ⟨some d, .typeAssert o 20 173 true, ty, pos, af, gd⟩ N [] (fun _ => [.slot d (CV [AG (Df.ck Pd), AE false])]) := C7 underlying173 zeroValue173 hx fun Φ v h => by
 cases x with
 | nil => exact .inr ⟨.inl h, rfl, ⟨_, rfl, z173 Φ⟩⟩
 | c148 y => obtain ⟨u, h1, _⟩ := h; exact .inr ⟨.inr ⟨148, u, h1, by decide⟩, rfl, ⟨_, rfl, z173 Φ⟩⟩
 | c182 y => obtain ⟨u, h1, _⟩ := h; exact .inr ⟨.inr ⟨182, u, h1, by decide⟩, rfl, ⟨_, rfl, z173 Φ⟩⟩
def FN : CU := (CU.mk (AS.mk (0 : Int) (List.replicate 32 0) (List.replicate 32 0) (AR.mk (0 : Int) [] [] [])) (AS.mk (0 : Int) (List.replicate 32 0) (List.replicate 32 0) (AR.mk (0 : Int) [] [] [])))
theorem MX {G : FP} {N : List B1} {d : Nat} {ty : TypeId} {pos : String} {af : Array Edge} {gd : Option (Nat × Bool)} {x : EJ} {o : Operand} (hx : AM G N o (Dw x)) :
  Ba prog G ⟨some d, .typeAssert o 20 176 true, ty, pos, af, gd⟩ N [] (fun _ => [.slot d (CV [AG (CU.ck FN), AE false])]) := C7 underlying176 zeroValue176 hx fun Φ v h => by
 cases x with
 | nil => exact .inr ⟨.inl h, rfl, ⟨_, rfl, Ov Φ⟩⟩
 | c148 y => obtain ⟨u, h1, _⟩ := h; exact .inr ⟨.inr ⟨148, u, h1, by decide⟩, rfl, ⟨_, rfl, Ov Φ⟩⟩
 | c182 y => obtain ⟨u, h1, _⟩ := h; exact .inr ⟨.inr ⟨182, u, h1, by decide⟩, rfl, ⟨_, rfl, Ov Φ⟩⟩
def Pc : DY := (DY.mk (Cm.mk (0 : Int) (List.replicate 32 0) (0 : Int) (AR.mk (0 : Int) [] [] [])))
theorem MW {G : FP} {N : List B1} {d : Nat} {ty : TypeId} {pos : String} {af : Array Edge} {gd : Option (Nat × Bool)} {x : EJ} {o : Operand} (hx : AM G N o (Dw x)) :
  Ba prog G ⟨some d, .typeAssert o 20 179 true, ty, pos, af, gd⟩ N [] (fun _ => [.slot d (CV [AG (DY.ck Pc), AE false])]) := C7 underlying179 zeroValue179 hx fun Φ v h => by
 cases x with
 | nil => exact .inr ⟨.inl h, rfl, ⟨_, rfl, Ou Φ⟩⟩
 | c148 y => obtain ⟨u, h1, _⟩ := h; exact .inr ⟨.inr ⟨148, u, h1, by decide⟩, rfl, ⟨_, rfl, Ou Φ⟩⟩
 | c182 y => obtain ⟨u, h1, _⟩ := h; exact .inr ⟨.inr ⟨182, u, h1, by decide⟩, rfl, ⟨_, rfl, Ou Φ⟩⟩
theorem MV {G : FP} {N : List B1} {d : Nat} {ty : TypeId} {pos : String} {af : Array Edge} {gd : Option (Nat × Bool)} {x : EJ} {o : Operand} (hx : AM G N o (Dw x)) :
  Ba prog G ⟨some d, .typeAssert o 20 182 true, ty, pos, af, gd⟩ N [] (fun _ => [.slot d (CV [AG (Cd.ck (Dk x)), AE (I1 x)])]) := C7 underlying182 zeroValue182 hx fun Φ v h => by
 cases x with
 | nil => exact .inr ⟨.inl h, rfl, ⟨_, rfl, z182 Φ⟩⟩
 | c148 y => obtain ⟨u, h1, _⟩ := h; exact .inr ⟨.inr ⟨148, u, h1, by decide⟩, rfl, ⟨_, rfl, z182 Φ⟩⟩
 | c182 y => obtain ⟨u, h1, h2⟩ := h; exact .inl ⟨u, h1, rfl, h2⟩
structure EW where
 Ej : List (UInt8)
def PI (p : Value) (v1 : Value) (s : EW) : RP := RP.sep (lb p 222 [one (D2 p), one (Am v1)]) (acc v1 5 1 bC s.Ej)
def LF (p : Value) (v1 : Value) (o : Option EW) : RP := match o with | none => RP.is (p = .pointer none) | some s => PI p v1 s
def EK (p : Value) (o : Option EW) : RP := RP.ex fun v1 => LF p v1 o
theorem Kh {p : Value} {v1 : Value} {o : Option EW} : RP.le (LF p v1 o) (EK p o) := fun _ _ _ q => ⟨v1, q⟩
theorem Rk : ∀ Φ w, Cv Φ w → (EK (.pointer none) none).p Φ [] w := fun _ _ _ => ⟨.pointer none, rfl, rfl⟩
theorem L8 {p : Value} {v1 : Value} {s : EW} : ∀ Φ f w, (PI p v1 s).p Φ f w → ∃ b, p = .pointer (some ⟨b, 0, none⟩) := fun _ _ _ ⟨_, _, _, ⟨b, _, h, _⟩, _⟩ => ⟨b, h⟩
theorem Pb {p : Value} : RP.le (lb p 222 [one (Am (.pointer none)), one (Am (.slice none 0 0))]) (EK p (some ⟨[]⟩)) := by
 rintro Φ f w ⟨b, cs, hp, hf, hb, ⟨c1, c2, rfl, ⟨q, rfl, h1, h2⟩, d1, d2, rfl, ⟨x, rfl, g1, g2⟩, hd⟩, hn⟩
 exact ⟨.slice none 0 0, f, [], by simp, ⟨b, _, hp, hf, hb, ⟨[q], _, rfl, ⟨q, rfl, h1, .inl h2, b, hp⟩, [x], d2, rfl, ⟨x, rfl, g1, g2⟩, hd⟩, hn⟩, by simp [CG], .inl ⟨rfl, rfl, rfl⟩⟩
structure AP where
 D4 : List ((List UInt8) × (List UInt8))
 E9 : List ((List UInt8) × Bool)
def PH (p : Value) (v0 : Value) (v1 : Value) (s : AP) : RP := RP.sep (lb p 254 [one (Am v0), one (Am v1)]) (RP.sep (Et v0 Ex (fun l => l.length = 32) (fun u y => RP.val (As y) u) s.D4) (Et v1 HF (fun _ => True) (fun u y => RP.val (AE y) u) s.E9))
def MA (p : Value) (v0 : Value) (v1 : Value) (o : Option AP) : RP := match o with | none => RP.is (p = .pointer none) | some s => PH p v0 v1 s
def AO (p : Value) (o : Option AP) : RP := RP.ex fun v0 => RP.ex fun v1 => MA p v0 v1 o
theorem Ke {p : Value} {v0 : Value} {v1 : Value} {o : Option AP} : RP.le (MA p v0 v1 o) (AO p o) := fun _ _ _ q => ⟨v0, v1, q⟩
theorem Hf : ∀ Φ w, Cv Φ w → (AO (.pointer none) none).p Φ [] w := fun _ _ _ => ⟨.pointer none, .pointer none, rfl, rfl⟩
theorem Qv {p : Value} {v0 : Value} {v1 : Value} {s : AP} : ∀ Φ f w, (PH p v0 v1 s).p Φ f w → ∃ b, p = .pointer (some ⟨b, 0, none⟩) := fun _ _ _ ⟨_, _, _, ⟨b, _, h, _⟩, _⟩ => ⟨b, h⟩
structure Bn where
 Dr : List (List UInt8)
 Bm : List ((List UInt8) × (List (List UInt8)))
def On (p : Value) (v0 : Value) (v1 : Value) (s : Bn) : RP := RP.sep (lb p 215 [one (Am v0), one (Am v1)]) (RP.sep (acc v0 9 1 C9 s.Dr) (Et v1 Ex (fun l => l.length = 32) (fun u y => acc u 9 1 C9 y) s.Bm))
def KU (p : Value) (v0 : Value) (v1 : Value) (o : Option Bn) : RP := match o with | none => RP.is (p = .pointer none) | some s => On p v0 v1 s
def A5 (p : Value) (o : Option Bn) : RP := RP.ex fun v0 => RP.ex fun v1 => KU p v0 v1 o
theorem HC {p : Value} {v0 : Value} {v1 : Value} {o : Option Bn} : RP.le (KU p v0 v1 o) (A5 p o) := fun _ _ _ q => ⟨v0, v1, q⟩
theorem JG : ∀ Φ w, Cv Φ w → (A5 (.pointer none) none).p Φ [] w := fun _ _ _ => ⟨.pointer none, .pointer none, rfl, rfl⟩
theorem Pa {p : Value} {v0 : Value} {v1 : Value} {s : Bn} : ∀ Φ f w, (On p v0 v1 s).p Φ f w → ∃ b, p = .pointer (some ⟨b, 0, none⟩) := fun _ _ _ ⟨_, _, _, ⟨b, _, h, _⟩, _⟩ => ⟨b, h⟩
structure Cg where
 FM : List UInt8
 H4 : Int
def Py (p : Value) (s : Cg) : RP := (lb p 259 [one (As s.FM), one (Ab .i64 s.H4)])
def Px (p : Value) (o : Option Cg) : RP := match o with | none => RP.is (p = .pointer none) | some s => Py p s
def BS (p : Value) (o : Option Cg) : RP := Px p o
theorem Eo {p : Value} {o : Option Cg} : RP.le (Px p o) (BS p o) := fun _ _ _ q => q
theorem Rf : ∀ Φ w, Cv Φ w → (BS (.pointer none) none).p Φ [] w := fun _ _ _ => ⟨rfl, rfl⟩
theorem G6 {p : Value} {s : Cg} : ∀ Φ f w, (Py p s).p Φ f w → ∃ b, p = .pointer (some ⟨b, 0, none⟩) := fun _ _ _ ⟨b, _, h, _⟩ => ⟨b, h⟩
def PA (p : Value) (s : Ah) : RP := (lb p 43 [one (Ab .u32 s.BE), one (As s.Iq)])
def Pz (p : Value) (o : Option Ah) : RP := match o with | none => RP.is (p = .pointer none) | some s => PA p s
def CI (p : Value) (o : Option Ah) : RP := Pz p o
theorem Kc {p : Value} {o : Option Ah} : RP.le (Pz p o) (CI p o) := fun _ _ _ q => q
theorem Rg : ∀ Φ w, Cv Φ w → (CI (.pointer none) none).p Φ [] w := fun _ _ _ => ⟨rfl, rfl⟩
theorem Oo {p : Value} {s : Ah} : ∀ Φ f w, (PA p s).p Φ f w → ∃ b, p = .pointer (some ⟨b, 0, none⟩) := fun _ _ _ ⟨b, _, h, _⟩ => ⟨b, h⟩
structure DS where
 Dx : List (Ai)
def PG (p : Value) (v0 : Value) (s : DS) : RP := RP.sep (lb p 26 [one (Am v0)]) (acc v0 31 6 Ai.ck s.Dx)
def PF (p : Value) (v0 : Value) (o : Option DS) : RP := match o with | none => RP.is (p = .pointer none) | some s => PG p v0 s
def B2 (p : Value) (o : Option DS) : RP := RP.ex fun v0 => PF p v0 o
theorem He {p : Value} {v0 : Value} {o : Option DS} : RP.le (PF p v0 o) (B2 p o) := fun _ _ _ q => ⟨v0, q⟩
theorem Rj : ∀ Φ w, Cv Φ w → (B2 (.pointer none) none).p Φ [] w := fun _ _ _ => ⟨.pointer none, rfl, rfl⟩
theorem KV {p : Value} {v0 : Value} {s : DS} : ∀ Φ f w, (PG p v0 s).p Φ f w → ∃ b, p = .pointer (some ⟨b, 0, none⟩) := fun _ _ _ ⟨_, _, _, ⟨b, _, h, _⟩, _⟩ => ⟨b, h⟩
structure DR where
 Dx : List (List UInt8)
def PE (p : Value) (v0 : Value) (s : DR) : RP := RP.sep (lb p 27 [one (Am v0)]) (acc v0 33 32 (dC 32) s.Dx)
def PD (p : Value) (v0 : Value) (o : Option DR) : RP := match o with | none => RP.is (p = .pointer none) | some s => PE p v0 s
def B5 (p : Value) (o : Option DR) : RP := RP.ex fun v0 => PD p v0 o
theorem Gu {p : Value} {v0 : Value} {o : Option DR} : RP.le (PD p v0 o) (B5 p o) := fun _ _ _ q => ⟨v0, q⟩
theorem Ri : ∀ Φ w, Cv Φ w → (B5 (.pointer none) none).p Φ [] w := fun _ _ _ => ⟨.pointer none, rfl, rfl⟩
theorem JH {p : Value} {v0 : Value} {s : DR} : ∀ Φ f w, (PE p v0 s).p Φ f w → ∃ b, p = .pointer (some ⟨b, 0, none⟩) := fun _ _ _ ⟨_, _, _, ⟨b, _, h, _⟩, _⟩ => ⟨b, h⟩
def Pw (p : Value) (s : Ae) : RP := (lb p 41 [one (Ab .u32 s.BZ), one (Ab .u32 s.CA), Af 32 s.Ch, one (An (dC 32) s.B3), one (Ab .u64 s.CE), Af 32 s.BI, one (An Av.ck s.BY), one (An Ag.ck s.AH), one (AE s.BU), one (AE s.Ds)])
def Pv (p : Value) (o : Option Ae) : RP := match o with | none => RP.is (p = .pointer none) | some s => Pw p s
def Cz (p : Value) (o : Option Ae) : RP := Pv p o
theorem Hd {p : Value} {o : Option Ae} : RP.le (Pv p o) (Cz p o) := fun _ _ _ q => q
theorem Re : ∀ Φ w, Cv Φ w → (Cz (.pointer none) none).p Φ [] w := fun _ _ _ => ⟨rfl, rfl⟩
theorem KS {p : Value} {s : Ae} : ∀ Φ f w, (Pw p s).p Φ f w → ∃ b, p = .pointer (some ⟨b, 0, none⟩) := fun _ _ _ ⟨b, _, h, _⟩ => ⟨b, h⟩
structure EF where
 Dx : Int
def PC (p : Value) (s : EF) : RP := (lb p 24 [one (Ab .u64 s.Dx)])
def PB (p : Value) (o : Option EF) : RP := match o with | none => RP.is (p = .pointer none) | some s => PC p s
def Cr (p : Value) (o : Option EF) : RP := PB p o
theorem Iv {p : Value} {o : Option EF} : RP.le (PB p o) (Cr p o) := fun _ _ _ q => q
theorem Rh : ∀ Φ w, Cv Φ w → (Cr (.pointer none) none).p Φ [] w := fun _ _ _ => ⟨rfl, rfl⟩
theorem L7 {p : Value} {s : EF} : ∀ Φ f w, (PC p s).p Φ f w → ∃ b, p = .pointer (some ⟨b, 0, none⟩) := fun _ _ _ ⟨b, _, h, _⟩ => ⟨b, h⟩
def E7 : List Int := [1779033703, 3144134277, 1013904242, 2773480762, 1359893119, 2600822924, 528734635, 1541459225]
def F2 : List Int := [1116352408, 1899447441, 3049323471, 3921009573, 961987163, 1508970993, 2453635748, 2870763221, 3624381080, 310598401, 607225278, 1426881987, 1925078388, 2162078206, 2614888103, 3248222580, 3835390401, 4022224774, 264347078, 604807628, 770255983, 1249150122, 1555081692, 1996064986, 2554220882, 2821834349, 2952996808, 3210313671, 3336571891, 3584528711, 113926993, 338241895, 666307205, 773529912, 1294757372, 1396182291, 1695183700, 1986661051, 2177026350, 2456956037, 2730485921, 2820302411, 3259730800, 3345764771, 3516065817, 3600352804, 4094571909, 275423344, 430227734, 506948616, 659060556, 883997877, 958139571, 1322822218, 1537002063, 1747873779, 1955562222, 2024104815, 2227730452, 2361852424, 2428436474, 2756734187, 3204031479, 3329325298]
def KG : FP := ⟨fun Φ => (FB [AI .u32 8 E7]).p Φ (.pointer (some ⟨0, 0, none⟩)) ∧ (FB [AI .u32 64 F2]).p Φ (.pointer (some ⟨1, 0, none⟩)), fun hle h => ⟨(FB _).mono hle h.1, (FB _).mono hle h.2⟩⟩
set_option maxHeartbeats 1000000 in
set_option maxRecDepth 100000 in
theorem Nd (b : Nat) (w : World) (h0 : w.cell? ⟨b, 0, none⟩ = some (.pointer none)) (hsh : w.shape? b = some (222, 2)) (hfz : w.frozen? ⟨b, 0, none⟩ = false) :
  Calls prog 132 #[.pointer (some ⟨b, 0, none⟩)] w fun e w' => e = .returned (.tuple #[]) ∧ w' = w.setCell ⟨b, 0, none⟩ (.pointer (some ⟨b, 0, none⟩)) := by
 have hsz : (prog.info? 222).map (·.size) = some 2 := by kernel_rfl
 have hlies : liesAt prog prog.depth 222 (2 / prog.cellsOf 222) 0 222 1 = true := by kernel_rfl
 obtain ⟨j, hj, hjs⟩ := Option.map_eq_some_iff.1 hsz
 have mixed : prog.follows .mixedOrders = true := by kernel_rfl
 go_enter func132, ntmps132
 go_wp2
 rw [Lib.run_to_unsafe w ⟨b, 0, none⟩ underlying220 underlying267 hj (by rw [hjs]; decide) hsh (Nat.zero_lt_succ 1)]
 simp only [Result.andThen]
 rw [Oper.upon_value]
 go_wp2
 rw [run_callFunc_extern func142 (by kernel_rfl) (by kernel_rfl) (by kernel_rfl) (e := Extern.AbiNoEscape.same) (by kernel_rfl)]
 rw [Lib.run_noEscape]
 simp only [Result.andThen]
 rw [Oper.upon_value]
 go_wp2
 rw [Lib.run_from_unsafe w ⟨b, 0, none⟩ underlying267 underlying220 hj hsh hlies]
 simp only [Result.andThen]
 rw [Oper.upon_value]
 go_wp2
 go_end0
 exact ⟨rfl, rfl⟩
set_option maxHeartbeats 1000000 in
set_option maxRecDepth 100000 in
theorem Oa (b : Nat) (w : World) (h0 : w.cell? ⟨b, 0, none⟩ = some (.pointer (some ⟨b, 0, none⟩))) :
  Calls prog 132 #[.pointer (some ⟨b, 0, none⟩)] w fun e w' => e = .returned (.tuple #[]) ∧ w' = w := by
 have hsz : (prog.info? 222).map (·.size) = some 2 := by kernel_rfl
 obtain ⟨j, hj, _⟩ := Option.map_eq_some_iff.1 hsz
 have mixed : prog.follows .mixedOrders = true := by kernel_rfl
 go_enter func132, ntmps132
 go_wp2
 rw [Lib.run_neq_ptr_same w _ underlying220 hj]
 go_wp2
 go_end0
 exact ⟨rfl, rfl⟩
theorem HX {p v : Value} : Az prog KG 132 [Am p] [lb p 222 [one (D2 p), one (Am v)]] (fun _ => [lb p 222 [one (D2 p), one (Am v)]]) (CV []) := KM Nd Oa

theorem QB (a b c : Int) (w : World) (ha : 0 ≤ a) (hb : 0 ≤ b) (hc : 0 ≤ c) (h1 : c ≤ 1) : (callFunc 93 #[.int .u64 a, .int .u64 b, .int .u64 c]).run prog w = .ok (.value (.tuple #[.int .u64 ((a + b + c) % 18446744073709551616), .int .u64 ((a + b + c) / 18446744073709551616)])) w := by
 rw [run_callFunc_extern func93 (by kernel_rfl) (by kernel_rfl) (by kernel_rfl) (e := add64Entry) (by kernel_rfl), run_add64 a b c ha hb hc h1]
 rfl

end Go.Proofs.YteboiefnflipjaaGreatDoor
