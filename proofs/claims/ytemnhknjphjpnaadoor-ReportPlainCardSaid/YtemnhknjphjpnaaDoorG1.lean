/- The functions' Lean twins and contracts, printed by this session's own program. -/
import Derived.Test.YtemnhknjphjpnaaDoorM1
import Derived.Test.YtemnhknjphjpnaaDoorK3
import Derived.Test.YtemnhknjphjpnaaDoorProg
import Derived.Shelf.Strings.Builder1
import Derived.Lib.Repeat
namespace Go.Proofs.YtemnhknjphjpnaaDoor
open Go Go.RowKit Go.Proofs
set_option maxRecDepth 100000
set_option linter.unusedVariables false
set_option linter.unusedSimpArgs false
theorem Db (c : Ck) (L : List Ck) : lens (c :: L) = c.n + lens L := rfl
theorem Da : lens [] = 0 := rfl
theorem lz {Φ : BC} {c : Ck} {L : List Ck} {xs ys : List Value} (h1 : c.rel Φ xs) (h2 : Bg Φ ys L) : Bg Φ (List.append xs ys) (c :: L) := ⟨xs, ys, rfl, h1, h2⟩
theorem mixed : Tryd.prog.follows .mixedOrders = true := by kernel_rfl
structure An where
  B6 : Int
  Bk : List UInt8
  B3 : Int
  Cm : List UInt8
instance : Inhabited An := ⟨(An.mk (0 : Int) [] (0 : Int) (List.replicate 32 0))⟩
def An.ck (x : An) : List Ck := [one (Ab .i64 x.B6), one (AJ x.Bk), one (Ab .u64 x.B3), Af 32 x.Cm]
theorem An.lens (x : An) : lens (An.ck x) = 35 := rfl
structure Av where
  Bw : Int
  Bk : List UInt8
  DU : Int
  Cc : Int
  BI : Int
  Cb : Int
  Cd : Int
instance : Inhabited Av := ⟨(Av.mk (0 : Int) [] (0 : Int) (0 : Int) (0 : Int) (0 : Int) (0 : Int))⟩
def Av.ck (x : Av) : List Ck := [one (Ab .u32 x.Bw), one (AJ x.Bk), one (Ab .u64 x.DU), one (Ab .u64 x.Cc), one (Ab .u64 x.BI), one (Ab .u64 x.Cb), one (Ab .u64 x.Cd)]
theorem Av.lens (x : Av) : lens (Av.ck x) = 7 := rfl
structure Ao where
  Bk : List UInt8
  E6 : List UInt8
  Dw : Int
  Dx : Int
instance : Inhabited Ao := ⟨(Ao.mk [] (List.replicate 32 0) (0 : Int) (0 : Int))⟩
def Ao.ck (x : Ao) : List Ck := [one (AJ x.Bk), Af 32 x.E6, one (Ab .u64 x.Dw), one (Ab .u64 x.Dx)]
theorem Ao.lens (x : Ao) : lens (Ao.ck x) = 35 := rfl
structure A7 where
  AO : Int
  Bc : Int
  Bq : Int
  Ap : List (Ao)
  AD : List (An)
instance : Inhabited A7 := ⟨(A7.mk (0 : Int) (0 : Int) (0 : Int) [] [])⟩
def A7.ck (x : A7) : List Ck := [one (Ab .u64 x.AO), one (Ab .u64 x.Bc), one (Ab .u64 x.Bq), one (Ah Ao.ck x.Ap), one (Ah An.ck x.AD)]
theorem A7.lens (x : A7) : lens (A7.ck x) = 5 := rfl
structure Aq where
  Bw : Int
  CB : List UInt8
  CC : List UInt8
  CG : Int
instance : Inhabited Aq := ⟨(Aq.mk (0 : Int) [] [] (0 : Int))⟩
def Aq.ck (x : Aq) : List Ck := [one (Ab .u32 x.Bw), one (AJ x.CB), one (AJ x.CC), one (Ab .u64 x.CG)]
theorem Aq.lens (x : Aq) : lens (Aq.ck x) = 4 := rfl
structure Bf where
  Au : List (Av)
  Am : List (Aq)
instance : Inhabited Bf := ⟨(Bf.mk [] [])⟩
def Bf.ck (x : Bf) : List Ck := [one (Ah Av.ck x.Au), one (Ah Aq.ck x.Am)]
theorem Bf.lens (x : Bf) : lens (Bf.ck x) = 2 := rfl
structure Bo where
  AY : Int
  AH : List (List UInt8)
instance : Inhabited Bo := ⟨(Bo.mk (0 : Int) (List.replicate 32 (List.replicate 32 0)))⟩
def Bo.ck (x : Bo) : List Ck := [one (Ab .u32 x.AY), Bd 32 32 (dC 32) (AV 32) x.AH]
theorem Bo.lens (x : Bo) : lens (Bo.ck x) = 1025 := by
  simp only [Bo.ck, Db, Da, one, Af, Bd, Cj]
structure Ay where
  LO : Int
  JN : Int
instance : Inhabited Ay := ⟨(Ay.mk (0 : Int) (0 : Int))⟩
def Ay.ck (x : Ay) : List Ck := [one (Ab .u32 x.LO), one (Ab .u32 x.JN)]
theorem Ay.lens (x : Ay) : lens (Ay.ck x) = 2 := rfl
structure Bl where
  Az : Int
  Ar : List UInt8
  AI : Bo
  AP : List (List UInt8)
  AW : List (List UInt8)
  Ai : List UInt8
  AQ : List (Ay)
  Be : Int
  Aw : Bool
instance : Inhabited Bl := ⟨(Bl.mk (0 : Int) (List.replicate 32 0) (Bo.mk (0 : Int) (List.replicate 32 (List.replicate 32 0))) [] [] (List.replicate 32 0) [] (0 : Int) false)⟩
def Bl.ck (x : Bl) : List Ck := [one (Ab .u32 x.Az), Af 32 x.Ar, one (Ab .u32 x.AI.AY), Bd 32 32 (dC 32) (AV 32) x.AI.AH, one (Ah (dC 32) x.AP), one (Ah (dC 32) x.AW), Af 32 x.Ai, one (Ah Ay.ck x.AQ), one (Ab .u64 x.Be), one (Ak x.Aw)]
theorem Bl.lens (x : Bl) : lens (Bl.ck x) = 1095 := by
  simp only [Bl.ck, Db, Da, one, Af, Bd, Cj]
structure Ax where
  E5 : List UInt8
  LP : Int
instance : Inhabited Ax := ⟨(Ax.mk (List.replicate 32 0) (0 : Int))⟩
def Ax.ck (x : Ax) : List Ck := [Af 32 x.E5, one (Ab .u64 x.LP)]
theorem Ax.lens (x : Ax) : lens (Ax.ck x) = 33 := rfl
structure At where
  GL : List UInt8
  DT : Int
  E5 : List UInt8
instance : Inhabited At := ⟨(At.mk (List.replicate 32 0) (0 : Int) (List.replicate 32 0))⟩
def At.ck (x : At) : List Ck := [Af 32 x.GL, one (Ab .i64 x.DT), Af 32 x.E5]
theorem At.lens (x : At) : lens (At.ck x) = 65 := rfl
structure A6 where
  Az : Int
  A9 : Int
  Ar : List UInt8
  AF : List (List UInt8)
  AN : Int
  Ai : List UInt8
  AT : List (Ax)
  AB : List (At)
  Aw : Bool
  Bn : Bool
instance : Inhabited A6 := ⟨(A6.mk (0 : Int) (0 : Int) (List.replicate 32 0) [] (0 : Int) (List.replicate 32 0) [] [] false false)⟩
def A6.ck (x : A6) : List Ck := [one (Ab .u32 x.Az), one (Ab .u32 x.A9), Af 32 x.Ar, one (Ah (dC 32) x.AF), one (Ab .u64 x.AN), Af 32 x.Ai, one (Ah Ax.ck x.AT), one (Ah At.ck x.AB), one (Ak x.Aw), one (Ak x.Bn)]
theorem A6.lens (x : A6) : lens (A6.ck x) = 72 := rfl
structure AK where
  B4 : Int
  Ae : A7
  As : Bf
  Ad : Bl
  Aa : A6
  AZ : List UInt8
instance : Inhabited AK := ⟨(AK.mk (0 : Int) (A7.mk (0 : Int) (0 : Int) (0 : Int) [] []) (Bf.mk [] []) (Bl.mk (0 : Int) (List.replicate 32 0) (Bo.mk (0 : Int) (List.replicate 32 (List.replicate 32 0))) [] [] (List.replicate 32 0) [] (0 : Int) false) (A6.mk (0 : Int) (0 : Int) (List.replicate 32 0) [] (0 : Int) (List.replicate 32 0) [] [] false false) [])⟩
def AK.ck (x : AK) : List Ck := [one (Ab .u32 x.B4), one (Ab .u64 x.Ae.AO), one (Ab .u64 x.Ae.Bc), one (Ab .u64 x.Ae.Bq), one (Ah Ao.ck x.Ae.Ap), one (Ah An.ck x.Ae.AD), one (Ah Av.ck x.As.Au), one (Ah Aq.ck x.As.Am), one (Ab .u32 x.Ad.Az), Af 32 x.Ad.Ar, one (Ab .u32 x.Ad.AI.AY), Bd 32 32 (dC 32) (AV 32) x.Ad.AI.AH, one (Ah (dC 32) x.Ad.AP), one (Ah (dC 32) x.Ad.AW), Af 32 x.Ad.Ai, one (Ah Ay.ck x.Ad.AQ), one (Ab .u64 x.Ad.Be), one (Ak x.Ad.Aw), one (Ab .u32 x.Aa.Az), one (Ab .u32 x.Aa.A9), Af 32 x.Aa.Ar, one (Ah (dC 32) x.Aa.AF), one (Ab .u64 x.Aa.AN), Af 32 x.Aa.Ai, one (Ah Ax.ck x.Aa.AT), one (Ah At.ck x.Aa.AB), one (Ak x.Aa.Aw), one (Ak x.Aa.Bn), one (AJ x.AZ)]
theorem AK.lens (x : AK) : lens (AK.ck x) = 1176 := by
  simp only [AK.ck, Db, Da, one, Af, Bd, Cj]
structure BU where
  JM : Value
  BN : List (UInt8)
instance : Inhabited BU := ⟨(BU.mk undef [])⟩
def BU.ck (x : BU) : List Ck := [one (A4 x.JM), one (Ah bC x.BN)]
theorem BU.lens (x : BU) : lens (BU.ck x) = 2 := rfl
structure CP where
  G6 : BU
instance : Inhabited CP := ⟨(CP.mk (BU.mk undef []))⟩
def CP.ck (x : CP) : List Ck := [one (A4 x.G6.JM), one (Ah bC x.G6.BN)]
theorem CP.lens (x : CP) : lens (CP.ck x) = 2 := rfl

theorem z40 : ∀ Φ, Bg Φ (Value.agg Tryd.zeroCells40).cells.toList [one (Ab .u32 (0 : Int)), Af 32 (List.replicate 32 0), one (Ab .u32 (0 : Int)), Bd 32 32 (dC 32) (AV 32) (List.replicate 32 (List.replicate 32 0)), one (Ah (dC 32) []), one (Ah (dC 32) []), Af 32 (List.replicate 32 0), one (Ah Ay.ck []), one (Ab .u64 (0 : Int)), one (Ak false)] := by
  intro Φ
  have e : (Value.agg Tryd.zeroCells40).cells.toList = (List.append (α := Value) [.int .u32 0] (List.append (α := Value) [.int .u8 0, .int .u8 0, .int .u8 0, .int .u8 0, .int .u8 0, .int .u8 0, .int .u8 0, .int .u8 0, .int .u8 0, .int .u8 0, .int .u8 0, .int .u8 0, .int .u8 0, .int .u8 0, .int .u8 0, .int .u8 0, .int .u8 0, .int .u8 0, .int .u8 0, .int .u8 0, .int .u8 0, .int .u8 0, .int .u8 0, .int .u8 0, .int .u8 0, .int .u8 0, .int .u8 0, .int .u8 0, .int .u8 0, .int .u8 0, .int .u8 0, .int .u8 0] (List.append (α := Value) [.int .u32 0] (List.append (α := Value) (List.replicate 32 [.int .u8 0, .int .u8 0, .int .u8 0, .int .u8 0, .int .u8 0, .int .u8 0, .int .u8 0, .int .u8 0, .int .u8 0, .int .u8 0, .int .u8 0, .int .u8 0, .int .u8 0, .int .u8 0, .int .u8 0, .int .u8 0, .int .u8 0, .int .u8 0, .int .u8 0, .int .u8 0, .int .u8 0, .int .u8 0, .int .u8 0, .int .u8 0, .int .u8 0, .int .u8 0, .int .u8 0, .int .u8 0, .int .u8 0, .int .u8 0, .int .u8 0, .int .u8 0]).flatten (List.append (α := Value) [.slice none 0 0] (List.append (α := Value) [.slice none 0 0] (List.append (α := Value) [.int .u8 0, .int .u8 0, .int .u8 0, .int .u8 0, .int .u8 0, .int .u8 0, .int .u8 0, .int .u8 0, .int .u8 0, .int .u8 0, .int .u8 0, .int .u8 0, .int .u8 0, .int .u8 0, .int .u8 0, .int .u8 0, .int .u8 0, .int .u8 0, .int .u8 0, .int .u8 0, .int .u8 0, .int .u8 0, .int .u8 0, .int .u8 0, .int .u8 0, .int .u8 0, .int .u8 0, .int .u8 0, .int .u8 0, .int .u8 0, .int .u8 0, .int .u8 0] (List.append (α := Value) [.slice none 0 0] (List.append (α := Value) [.int .u64 0] (List.append (α := Value) [.bool false] ([])))))))))) : List Value) := by kernel_rfl
  rw [e]
  exact (lz ⟨_, rfl, rfl, rfl, by decide⟩ (lz ⟨rfl, rfl⟩ (lz ⟨_, rfl, rfl, rfl, by decide⟩ (lz ⟨by simp, KU (c := (dC 32)) (z := (List.replicate 32 0)) (zs := [.int .u8 0, .int .u8 0, .int .u8 0, .int .u8 0, .int .u8 0, .int .u8 0, .int .u8 0, .int .u8 0, .int .u8 0, .int .u8 0, .int .u8 0, .int .u8 0, .int .u8 0, .int .u8 0, .int .u8 0, .int .u8 0, .int .u8 0, .int .u8 0, .int .u8 0, .int .u8 0, .int .u8 0, .int .u8 0, .int .u8 0, .int .u8 0, .int .u8 0, .int .u8 0, .int .u8 0, .int .u8 0, .int .u8 0, .int .u8 0, .int .u8 0, .int .u8 0]) (fun _ => ⟨[.int .u8 0, .int .u8 0, .int .u8 0, .int .u8 0, .int .u8 0, .int .u8 0, .int .u8 0, .int .u8 0, .int .u8 0, .int .u8 0, .int .u8 0, .int .u8 0, .int .u8 0, .int .u8 0, .int .u8 0, .int .u8 0, .int .u8 0, .int .u8 0, .int .u8 0, .int .u8 0, .int .u8 0, .int .u8 0, .int .u8 0, .int .u8 0, .int .u8 0, .int .u8 0, .int .u8 0, .int .u8 0, .int .u8 0, .int .u8 0, .int .u8 0, .int .u8 0], _, rfl, ⟨rfl, rfl⟩, rfl⟩) Φ 32⟩ (lz ⟨_, rfl, rfl, by decide, .inl ⟨rfl, rfl⟩⟩ (lz ⟨_, rfl, rfl, by decide, .inl ⟨rfl, rfl⟩⟩ (lz ⟨rfl, rfl⟩ (lz ⟨_, rfl, rfl, by decide, .inl ⟨rfl, rfl⟩⟩ (lz ⟨_, rfl, rfl, rfl, by decide⟩ (lz ⟨_, rfl, rfl, rfl⟩ rfl))))))))))
theorem z44 : ∀ Φ, Bg Φ (Value.agg #[.int .u32 0, .int .u32 0, .int .u8 0, .int .u8 0, .int .u8 0, .int .u8 0, .int .u8 0, .int .u8 0, .int .u8 0, .int .u8 0, .int .u8 0, .int .u8 0, .int .u8 0, .int .u8 0, .int .u8 0, .int .u8 0, .int .u8 0, .int .u8 0, .int .u8 0, .int .u8 0, .int .u8 0, .int .u8 0, .int .u8 0, .int .u8 0, .int .u8 0, .int .u8 0, .int .u8 0, .int .u8 0, .int .u8 0, .int .u8 0, .int .u8 0, .int .u8 0, .int .u8 0, .int .u8 0, .slice none 0 0, .int .u64 0, .int .u8 0, .int .u8 0, .int .u8 0, .int .u8 0, .int .u8 0, .int .u8 0, .int .u8 0, .int .u8 0, .int .u8 0, .int .u8 0, .int .u8 0, .int .u8 0, .int .u8 0, .int .u8 0, .int .u8 0, .int .u8 0, .int .u8 0, .int .u8 0, .int .u8 0, .int .u8 0, .int .u8 0, .int .u8 0, .int .u8 0, .int .u8 0, .int .u8 0, .int .u8 0, .int .u8 0, .int .u8 0, .int .u8 0, .int .u8 0, .int .u8 0, .int .u8 0, .slice none 0 0, .slice none 0 0, .bool false, .bool false]).cells.toList [one (Ab .u32 (0 : Int)), one (Ab .u32 (0 : Int)), Af 32 (List.replicate 32 0), one (Ah (dC 32) []), one (Ab .u64 (0 : Int)), Af 32 (List.replicate 32 0), one (Ah Ax.ck []), one (Ah At.ck []), one (Ak false), one (Ak false)] := fun _ => ⟨[.int .u32 0], _, rfl, ⟨_, rfl, rfl, rfl, by decide⟩, ⟨[.int .u32 0], _, rfl, ⟨_, rfl, rfl, rfl, by decide⟩, ⟨[.int .u8 0, .int .u8 0, .int .u8 0, .int .u8 0, .int .u8 0, .int .u8 0, .int .u8 0, .int .u8 0, .int .u8 0, .int .u8 0, .int .u8 0, .int .u8 0, .int .u8 0, .int .u8 0, .int .u8 0, .int .u8 0, .int .u8 0, .int .u8 0, .int .u8 0, .int .u8 0, .int .u8 0, .int .u8 0, .int .u8 0, .int .u8 0, .int .u8 0, .int .u8 0, .int .u8 0, .int .u8 0, .int .u8 0, .int .u8 0, .int .u8 0, .int .u8 0], _, rfl, ⟨rfl, rfl⟩, ⟨[.slice none 0 0], _, rfl, ⟨_, rfl, rfl, by decide, .inl ⟨rfl, rfl⟩⟩, ⟨[.int .u64 0], _, rfl, ⟨_, rfl, rfl, rfl, by decide⟩, ⟨[.int .u8 0, .int .u8 0, .int .u8 0, .int .u8 0, .int .u8 0, .int .u8 0, .int .u8 0, .int .u8 0, .int .u8 0, .int .u8 0, .int .u8 0, .int .u8 0, .int .u8 0, .int .u8 0, .int .u8 0, .int .u8 0, .int .u8 0, .int .u8 0, .int .u8 0, .int .u8 0, .int .u8 0, .int .u8 0, .int .u8 0, .int .u8 0, .int .u8 0, .int .u8 0, .int .u8 0, .int .u8 0, .int .u8 0, .int .u8 0, .int .u8 0, .int .u8 0], _, rfl, ⟨rfl, rfl⟩, ⟨[.slice none 0 0], _, rfl, ⟨_, rfl, rfl, by decide, .inl ⟨rfl, rfl⟩⟩, ⟨[.slice none 0 0], _, rfl, ⟨_, rfl, rfl, by decide, .inl ⟨rfl, rfl⟩⟩, ⟨[.bool false], _, rfl, ⟨_, rfl, rfl, rfl⟩, ⟨[.bool false], _, rfl, ⟨_, rfl, rfl, rfl⟩, rfl⟩⟩⟩⟩⟩⟩⟩⟩⟩⟩
theorem z46 : ∀ Φ, Bg Φ (Value.agg Tryd.zeroCells46).cells.toList [one (Ab .u32 (0 : Int)), one (Ab .u64 (0 : Int)), one (Ab .u64 (0 : Int)), one (Ab .u64 (0 : Int)), one (Ah Ao.ck []), one (Ah An.ck []), one (Ah Av.ck []), one (Ah Aq.ck []), one (Ab .u32 (0 : Int)), Af 32 (List.replicate 32 0), one (Ab .u32 (0 : Int)), Bd 32 32 (dC 32) (AV 32) (List.replicate 32 (List.replicate 32 0)), one (Ah (dC 32) []), one (Ah (dC 32) []), Af 32 (List.replicate 32 0), one (Ah Ay.ck []), one (Ab .u64 (0 : Int)), one (Ak false), one (Ab .u32 (0 : Int)), one (Ab .u32 (0 : Int)), Af 32 (List.replicate 32 0), one (Ah (dC 32) []), one (Ab .u64 (0 : Int)), Af 32 (List.replicate 32 0), one (Ah Ax.ck []), one (Ah At.ck []), one (Ak false), one (Ak false), one (AJ [])] := by
  intro Φ
  have e : (Value.agg Tryd.zeroCells46).cells.toList = (List.append (α := Value) [.int .u32 0] (List.append (α := Value) [.int .u64 0] (List.append (α := Value) [.int .u64 0] (List.append (α := Value) [.int .u64 0] (List.append (α := Value) [.slice none 0 0] (List.append (α := Value) [.slice none 0 0] (List.append (α := Value) [.slice none 0 0] (List.append (α := Value) [.slice none 0 0] (List.append (α := Value) [.int .u32 0] (List.append (α := Value) [.int .u8 0, .int .u8 0, .int .u8 0, .int .u8 0, .int .u8 0, .int .u8 0, .int .u8 0, .int .u8 0, .int .u8 0, .int .u8 0, .int .u8 0, .int .u8 0, .int .u8 0, .int .u8 0, .int .u8 0, .int .u8 0, .int .u8 0, .int .u8 0, .int .u8 0, .int .u8 0, .int .u8 0, .int .u8 0, .int .u8 0, .int .u8 0, .int .u8 0, .int .u8 0, .int .u8 0, .int .u8 0, .int .u8 0, .int .u8 0, .int .u8 0, .int .u8 0] (List.append (α := Value) [.int .u32 0] (List.append (α := Value) (List.replicate 32 [.int .u8 0, .int .u8 0, .int .u8 0, .int .u8 0, .int .u8 0, .int .u8 0, .int .u8 0, .int .u8 0, .int .u8 0, .int .u8 0, .int .u8 0, .int .u8 0, .int .u8 0, .int .u8 0, .int .u8 0, .int .u8 0, .int .u8 0, .int .u8 0, .int .u8 0, .int .u8 0, .int .u8 0, .int .u8 0, .int .u8 0, .int .u8 0, .int .u8 0, .int .u8 0, .int .u8 0, .int .u8 0, .int .u8 0, .int .u8 0, .int .u8 0, .int .u8 0]).flatten (List.append (α := Value) [.slice none 0 0] (List.append (α := Value) [.slice none 0 0] (List.append (α := Value) [.int .u8 0, .int .u8 0, .int .u8 0, .int .u8 0, .int .u8 0, .int .u8 0, .int .u8 0, .int .u8 0, .int .u8 0, .int .u8 0, .int .u8 0, .int .u8 0, .int .u8 0, .int .u8 0, .int .u8 0, .int .u8 0, .int .u8 0, .int .u8 0, .int .u8 0, .int .u8 0, .int .u8 0, .int .u8 0, .int .u8 0, .int .u8 0, .int .u8 0, .int .u8 0, .int .u8 0, .int .u8 0, .int .u8 0, .int .u8 0, .int .u8 0, .int .u8 0] (List.append (α := Value) [.slice none 0 0] (List.append (α := Value) [.int .u64 0] (List.append (α := Value) [.bool false] (List.append (α := Value) [.int .u32 0] (List.append (α := Value) [.int .u32 0] (List.append (α := Value) [.int .u8 0, .int .u8 0, .int .u8 0, .int .u8 0, .int .u8 0, .int .u8 0, .int .u8 0, .int .u8 0, .int .u8 0, .int .u8 0, .int .u8 0, .int .u8 0, .int .u8 0, .int .u8 0, .int .u8 0, .int .u8 0, .int .u8 0, .int .u8 0, .int .u8 0, .int .u8 0, .int .u8 0, .int .u8 0, .int .u8 0, .int .u8 0, .int .u8 0, .int .u8 0, .int .u8 0, .int .u8 0, .int .u8 0, .int .u8 0, .int .u8 0, .int .u8 0] (List.append (α := Value) [.slice none 0 0] (List.append (α := Value) [.int .u64 0] (List.append (α := Value) [.int .u8 0, .int .u8 0, .int .u8 0, .int .u8 0, .int .u8 0, .int .u8 0, .int .u8 0, .int .u8 0, .int .u8 0, .int .u8 0, .int .u8 0, .int .u8 0, .int .u8 0, .int .u8 0, .int .u8 0, .int .u8 0, .int .u8 0, .int .u8 0, .int .u8 0, .int .u8 0, .int .u8 0, .int .u8 0, .int .u8 0, .int .u8 0, .int .u8 0, .int .u8 0, .int .u8 0, .int .u8 0, .int .u8 0, .int .u8 0, .int .u8 0, .int .u8 0] (List.append (α := Value) [.slice none 0 0] (List.append (α := Value) [.slice none 0 0] (List.append (α := Value) [.bool false] (List.append (α := Value) [.bool false] (List.append (α := Value) [.string ⟨#[]⟩] ([]))))))))))))))))))))))))))))) : List Value) := by kernel_rfl
  rw [e]
  exact (lz ⟨_, rfl, rfl, rfl, by decide⟩ (lz ⟨_, rfl, rfl, rfl, by decide⟩ (lz ⟨_, rfl, rfl, rfl, by decide⟩ (lz ⟨_, rfl, rfl, rfl, by decide⟩ (lz ⟨_, rfl, rfl, by decide, .inl ⟨rfl, rfl⟩⟩ (lz ⟨_, rfl, rfl, by decide, .inl ⟨rfl, rfl⟩⟩ (lz ⟨_, rfl, rfl, by decide, .inl ⟨rfl, rfl⟩⟩ (lz ⟨_, rfl, rfl, by decide, .inl ⟨rfl, rfl⟩⟩ (lz ⟨_, rfl, rfl, rfl, by decide⟩ (lz ⟨rfl, rfl⟩ (lz ⟨_, rfl, rfl, rfl, by decide⟩ (lz ⟨by simp, KU (c := (dC 32)) (z := (List.replicate 32 0)) (zs := [.int .u8 0, .int .u8 0, .int .u8 0, .int .u8 0, .int .u8 0, .int .u8 0, .int .u8 0, .int .u8 0, .int .u8 0, .int .u8 0, .int .u8 0, .int .u8 0, .int .u8 0, .int .u8 0, .int .u8 0, .int .u8 0, .int .u8 0, .int .u8 0, .int .u8 0, .int .u8 0, .int .u8 0, .int .u8 0, .int .u8 0, .int .u8 0, .int .u8 0, .int .u8 0, .int .u8 0, .int .u8 0, .int .u8 0, .int .u8 0, .int .u8 0, .int .u8 0]) (fun _ => ⟨[.int .u8 0, .int .u8 0, .int .u8 0, .int .u8 0, .int .u8 0, .int .u8 0, .int .u8 0, .int .u8 0, .int .u8 0, .int .u8 0, .int .u8 0, .int .u8 0, .int .u8 0, .int .u8 0, .int .u8 0, .int .u8 0, .int .u8 0, .int .u8 0, .int .u8 0, .int .u8 0, .int .u8 0, .int .u8 0, .int .u8 0, .int .u8 0, .int .u8 0, .int .u8 0, .int .u8 0, .int .u8 0, .int .u8 0, .int .u8 0, .int .u8 0, .int .u8 0], _, rfl, ⟨rfl, rfl⟩, rfl⟩) Φ 32⟩ (lz ⟨_, rfl, rfl, by decide, .inl ⟨rfl, rfl⟩⟩ (lz ⟨_, rfl, rfl, by decide, .inl ⟨rfl, rfl⟩⟩ (lz ⟨rfl, rfl⟩ (lz ⟨_, rfl, rfl, by decide, .inl ⟨rfl, rfl⟩⟩ (lz ⟨_, rfl, rfl, rfl, by decide⟩ (lz ⟨_, rfl, rfl, rfl⟩ (lz ⟨_, rfl, rfl, rfl, by decide⟩ (lz ⟨_, rfl, rfl, rfl, by decide⟩ (lz ⟨rfl, rfl⟩ (lz ⟨_, rfl, rfl, by decide, .inl ⟨rfl, rfl⟩⟩ (lz ⟨_, rfl, rfl, rfl, by decide⟩ (lz ⟨rfl, rfl⟩ (lz ⟨_, rfl, rfl, by decide, .inl ⟨rfl, rfl⟩⟩ (lz ⟨_, rfl, rfl, by decide, .inl ⟨rfl, rfl⟩⟩ (lz ⟨_, rfl, rfl, rfl⟩ (lz ⟨_, rfl, rfl, rfl⟩ (lz ⟨_, rfl, rfl, rfl, by decide⟩ rfl)))))))))))))))))))))))))))))
theorem MR : ∀ Φ, Bg Φ (Value.agg #[.int .i64 0, .string ⟨#[]⟩, .int .u64 0, .int .u8 0, .int .u8 0, .int .u8 0, .int .u8 0, .int .u8 0, .int .u8 0, .int .u8 0, .int .u8 0, .int .u8 0, .int .u8 0, .int .u8 0, .int .u8 0, .int .u8 0, .int .u8 0, .int .u8 0, .int .u8 0, .int .u8 0, .int .u8 0, .int .u8 0, .int .u8 0, .int .u8 0, .int .u8 0, .int .u8 0, .int .u8 0, .int .u8 0, .int .u8 0, .int .u8 0, .int .u8 0, .int .u8 0, .int .u8 0, .int .u8 0, .int .u8 0]).cells.toList [one (Ab .i64 (0 : Int)), one (AJ []), one (Ab .u64 (0 : Int)), Af 32 (List.replicate 32 0)] := fun _ => ⟨[.int .i64 0], _, rfl, ⟨_, rfl, rfl, rfl, by decide⟩, ⟨[.string ⟨#[]⟩], _, rfl, ⟨_, rfl, rfl, rfl, by decide⟩, ⟨[.int .u64 0], _, rfl, ⟨_, rfl, rfl, rfl, by decide⟩, ⟨[.int .u8 0, .int .u8 0, .int .u8 0, .int .u8 0, .int .u8 0, .int .u8 0, .int .u8 0, .int .u8 0, .int .u8 0, .int .u8 0, .int .u8 0, .int .u8 0, .int .u8 0, .int .u8 0, .int .u8 0, .int .u8 0, .int .u8 0, .int .u8 0, .int .u8 0, .int .u8 0, .int .u8 0, .int .u8 0, .int .u8 0, .int .u8 0, .int .u8 0, .int .u8 0, .int .u8 0, .int .u8 0, .int .u8 0, .int .u8 0, .int .u8 0, .int .u8 0], _, rfl, ⟨rfl, rfl⟩, rfl⟩⟩⟩⟩
theorem MQ : ∀ Φ, Bg Φ (Value.agg #[.string ⟨#[]⟩, .int .u8 0, .int .u8 0, .int .u8 0, .int .u8 0, .int .u8 0, .int .u8 0, .int .u8 0, .int .u8 0, .int .u8 0, .int .u8 0, .int .u8 0, .int .u8 0, .int .u8 0, .int .u8 0, .int .u8 0, .int .u8 0, .int .u8 0, .int .u8 0, .int .u8 0, .int .u8 0, .int .u8 0, .int .u8 0, .int .u8 0, .int .u8 0, .int .u8 0, .int .u8 0, .int .u8 0, .int .u8 0, .int .u8 0, .int .u8 0, .int .u8 0, .int .u8 0, .int .u64 0, .int .u64 0]).cells.toList [one (AJ []), Af 32 (List.replicate 32 0), one (Ab .u64 (0 : Int)), one (Ab .u64 (0 : Int))] := fun _ => ⟨[.string ⟨#[]⟩], _, rfl, ⟨_, rfl, rfl, rfl, by decide⟩, ⟨[.int .u8 0, .int .u8 0, .int .u8 0, .int .u8 0, .int .u8 0, .int .u8 0, .int .u8 0, .int .u8 0, .int .u8 0, .int .u8 0, .int .u8 0, .int .u8 0, .int .u8 0, .int .u8 0, .int .u8 0, .int .u8 0, .int .u8 0, .int .u8 0, .int .u8 0, .int .u8 0, .int .u8 0, .int .u8 0, .int .u8 0, .int .u8 0, .int .u8 0, .int .u8 0, .int .u8 0, .int .u8 0, .int .u8 0, .int .u8 0, .int .u8 0, .int .u8 0], _, rfl, ⟨rfl, rfl⟩, ⟨[.int .u64 0], _, rfl, ⟨_, rfl, rfl, rfl, by decide⟩, ⟨[.int .u64 0], _, rfl, ⟨_, rfl, rfl, rfl, by decide⟩, rfl⟩⟩⟩⟩
theorem MP : ∀ Φ, Bg Φ (Value.agg #[.int .u32 0, .string ⟨#[]⟩, .int .u64 0, .int .u64 0, .int .u64 0, .int .u64 0, .int .u64 0]).cells.toList [one (Ab .u32 (0 : Int)), one (AJ []), one (Ab .u64 (0 : Int)), one (Ab .u64 (0 : Int)), one (Ab .u64 (0 : Int)), one (Ab .u64 (0 : Int)), one (Ab .u64 (0 : Int))] := fun _ => ⟨[.int .u32 0], _, rfl, ⟨_, rfl, rfl, rfl, by decide⟩, ⟨[.string ⟨#[]⟩], _, rfl, ⟨_, rfl, rfl, rfl, by decide⟩, ⟨[.int .u64 0], _, rfl, ⟨_, rfl, rfl, rfl, by decide⟩, ⟨[.int .u64 0], _, rfl, ⟨_, rfl, rfl, rfl, by decide⟩, ⟨[.int .u64 0], _, rfl, ⟨_, rfl, rfl, rfl, by decide⟩, ⟨[.int .u64 0], _, rfl, ⟨_, rfl, rfl, rfl, by decide⟩, ⟨[.int .u64 0], _, rfl, ⟨_, rfl, rfl, rfl, by decide⟩, rfl⟩⟩⟩⟩⟩⟩⟩
theorem MO : ∀ Φ, Bg Φ (Value.agg #[.int .u32 0, .string ⟨#[]⟩, .string ⟨#[]⟩, .int .u64 0]).cells.toList [one (Ab .u32 (0 : Int)), one (AJ []), one (AJ []), one (Ab .u64 (0 : Int))] := fun _ => ⟨[.int .u32 0], _, rfl, ⟨_, rfl, rfl, rfl, by decide⟩, ⟨[.string ⟨#[]⟩], _, rfl, ⟨_, rfl, rfl, rfl, by decide⟩, ⟨[.string ⟨#[]⟩], _, rfl, ⟨_, rfl, rfl, rfl, by decide⟩, ⟨[.int .u64 0], _, rfl, ⟨_, rfl, rfl, rfl, by decide⟩, rfl⟩⟩⟩⟩
theorem z85 : ∀ Φ, Bg Φ (Value.agg #[.int .u8 0, .int .u8 0, .int .u8 0, .int .u8 0, .int .u8 0, .int .u8 0, .int .u8 0, .int .u8 0, .int .u8 0, .int .u8 0, .int .u8 0, .int .u8 0, .int .u8 0, .int .u8 0, .int .u8 0, .int .u8 0, .int .u8 0, .int .u8 0, .int .u8 0, .int .u8 0, .int .u8 0, .int .u8 0, .int .u8 0, .int .u8 0, .int .u8 0, .int .u8 0, .int .u8 0, .int .u8 0, .int .u8 0, .int .u8 0, .int .u8 0, .int .u8 0, .int .i64 0, .int .u8 0, .int .u8 0, .int .u8 0, .int .u8 0, .int .u8 0, .int .u8 0, .int .u8 0, .int .u8 0, .int .u8 0, .int .u8 0, .int .u8 0, .int .u8 0, .int .u8 0, .int .u8 0, .int .u8 0, .int .u8 0, .int .u8 0, .int .u8 0, .int .u8 0, .int .u8 0, .int .u8 0, .int .u8 0, .int .u8 0, .int .u8 0, .int .u8 0, .int .u8 0, .int .u8 0, .int .u8 0, .int .u8 0, .int .u8 0, .int .u8 0, .int .u8 0]).cells.toList [Af 32 (List.replicate 32 0), one (Ab .i64 (0 : Int)), Af 32 (List.replicate 32 0)] := fun _ => ⟨[.int .u8 0, .int .u8 0, .int .u8 0, .int .u8 0, .int .u8 0, .int .u8 0, .int .u8 0, .int .u8 0, .int .u8 0, .int .u8 0, .int .u8 0, .int .u8 0, .int .u8 0, .int .u8 0, .int .u8 0, .int .u8 0, .int .u8 0, .int .u8 0, .int .u8 0, .int .u8 0, .int .u8 0, .int .u8 0, .int .u8 0, .int .u8 0, .int .u8 0, .int .u8 0, .int .u8 0, .int .u8 0, .int .u8 0, .int .u8 0, .int .u8 0, .int .u8 0], _, rfl, ⟨rfl, rfl⟩, ⟨[.int .i64 0], _, rfl, ⟨_, rfl, rfl, rfl, by decide⟩, ⟨[.int .u8 0, .int .u8 0, .int .u8 0, .int .u8 0, .int .u8 0, .int .u8 0, .int .u8 0, .int .u8 0, .int .u8 0, .int .u8 0, .int .u8 0, .int .u8 0, .int .u8 0, .int .u8 0, .int .u8 0, .int .u8 0, .int .u8 0, .int .u8 0, .int .u8 0, .int .u8 0, .int .u8 0, .int .u8 0, .int .u8 0, .int .u8 0, .int .u8 0, .int .u8 0, .int .u8 0, .int .u8 0, .int .u8 0, .int .u8 0, .int .u8 0, .int .u8 0], _, rfl, ⟨rfl, rfl⟩, rfl⟩⟩⟩
theorem LA : ∀ Φ, Bg Φ (Value.agg #[.int .u8 0, .int .u8 0, .int .u8 0, .int .u8 0, .int .u8 0, .int .u8 0, .int .u8 0, .int .u8 0, .int .u8 0, .int .u8 0, .int .u8 0, .int .u8 0, .int .u8 0, .int .u8 0, .int .u8 0, .int .u8 0, .int .u8 0, .int .u8 0, .int .u8 0, .int .u8 0, .int .u8 0, .int .u8 0, .int .u8 0, .int .u8 0]).cells.toList [Af 24 (List.replicate 24 0)] := fun _ => ⟨[.int .u8 0, .int .u8 0, .int .u8 0, .int .u8 0, .int .u8 0, .int .u8 0, .int .u8 0, .int .u8 0, .int .u8 0, .int .u8 0, .int .u8 0, .int .u8 0, .int .u8 0, .int .u8 0, .int .u8 0, .int .u8 0, .int .u8 0, .int .u8 0, .int .u8 0, .int .u8 0, .int .u8 0, .int .u8 0, .int .u8 0, .int .u8 0], _, rfl, ⟨rfl, rfl⟩, rfl⟩
theorem z160 : ∀ Φ, Bg Φ (Value.agg #[.int .u8 0, .int .u8 0, .int .u8 0, .int .u8 0, .int .u8 0, .int .u8 0, .int .u8 0, .int .u8 0, .int .u8 0, .int .u8 0, .int .u8 0, .int .u8 0, .int .u8 0, .int .u8 0, .int .u8 0, .int .u8 0, .int .u8 0, .int .u8 0, .int .u8 0, .int .u8 0, .int .u8 0, .int .u8 0, .int .u8 0, .int .u8 0, .int .u8 0, .int .u8 0, .int .u8 0, .int .u8 0, .int .u8 0, .int .u8 0, .int .u8 0, .int .u8 0, .int .u8 0, .int .u8 0, .int .u8 0, .int .u8 0, .int .u8 0, .int .u8 0, .int .u8 0, .int .u8 0, .int .u8 0, .int .u8 0, .int .u8 0, .int .u8 0, .int .u8 0, .int .u8 0, .int .u8 0, .int .u8 0, .int .u8 0, .int .u8 0, .int .u8 0, .int .u8 0, .int .u8 0, .int .u8 0, .int .u8 0, .int .u8 0, .int .u8 0, .int .u8 0, .int .u8 0, .int .u8 0, .int .u8 0, .int .u8 0, .int .u8 0, .int .u8 0, .int .u8 0]).cells.toList [Af 65 (List.replicate 65 0)] := fun _ => ⟨[.int .u8 0, .int .u8 0, .int .u8 0, .int .u8 0, .int .u8 0, .int .u8 0, .int .u8 0, .int .u8 0, .int .u8 0, .int .u8 0, .int .u8 0, .int .u8 0, .int .u8 0, .int .u8 0, .int .u8 0, .int .u8 0, .int .u8 0, .int .u8 0, .int .u8 0, .int .u8 0, .int .u8 0, .int .u8 0, .int .u8 0, .int .u8 0, .int .u8 0, .int .u8 0, .int .u8 0, .int .u8 0, .int .u8 0, .int .u8 0, .int .u8 0, .int .u8 0, .int .u8 0, .int .u8 0, .int .u8 0, .int .u8 0, .int .u8 0, .int .u8 0, .int .u8 0, .int .u8 0, .int .u8 0, .int .u8 0, .int .u8 0, .int .u8 0, .int .u8 0, .int .u8 0, .int .u8 0, .int .u8 0, .int .u8 0, .int .u8 0, .int .u8 0, .int .u8 0, .int .u8 0, .int .u8 0, .int .u8 0, .int .u8 0, .int .u8 0, .int .u8 0, .int .u8 0, .int .u8 0, .int .u8 0, .int .u8 0, .int .u8 0, .int .u8 0, .int .u8 0], _, rfl, ⟨rfl, rfl⟩, rfl⟩
theorem Lz : ∀ Φ, Bg Φ (Value.agg #[.pointer none, .slice none 0 0]).cells.toList [one (A4 (.pointer none)), one (A4 (.slice none 0 0))] := fun _ => ⟨[.pointer none], _, rfl, ⟨_, rfl, rfl, rfl⟩, ⟨[.slice none 0 0], _, rfl, ⟨_, rfl, rfl, rfl⟩, rfl⟩⟩
theorem Ml : ∀ Φ, Bg Φ (Value.agg #[.pointer none, .slice none 0 0]).cells.toList [one (A4 (.pointer none)), one (A4 (.slice none 0 0))] := fun _ => ⟨[.pointer none], _, rfl, ⟨_, rfl, rfl, rfl⟩, ⟨[.slice none 0 0], _, rfl, ⟨_, rfl, rfl, rfl⟩, rfl⟩⟩
theorem L3 : ∀ p, Tryd.prog.built 46 p = Instr.fill (fun i => (#[(0, 1), (1, 5), (6, 2), (8, 1095), (1103, 72), (1175, 1)] : Array (Nat × Nat))[i]?) (Value.agg Tryd.zeroCells46).cells.toList.toArray p := by intro p; kernel_rfl
theorem MK : ∀ p, Tryd.prog.built 66 p = Instr.fill (fun i => (#[(0, 2)] : Array (Nat × Nat))[i]?) (Value.agg #[.pointer none, .slice none 0 0]).cells.toList.toArray p := by intro p; kernel_rfl

structure Co where
  BN : List (UInt8)
def KT (p : Value) (v1 : Value) (s : Co) : RP := RP.sep (lb p 64 [one (BK p), one (A4 v1)]) (acc v1 5 1 bC s.BN)
def Hc (p : Value) (v1 : Value) (o : Option Co) : RP := match o with | none => RP.is (p = .pointer none) | some s => KT p v1 s
def Ct (p : Value) (o : Option Co) : RP := RP.ex fun v1 => Hc p v1 o
theorem F6 {p : Value} {v1 : Value} {o : Option Co} : RP.le (Hc p v1 o) (Ct p o) := fun _ _ _ q => ⟨v1, q⟩
theorem Mk : ∀ Φ w, CR Φ w → (Ct (.pointer none) none).p Φ [] w := fun _ _ _ => ⟨.pointer none, rfl, rfl⟩
theorem Hx {p : Value} {v1 : Value} {s : Co} : ∀ Φ f w, (KT p v1 s).p Φ f w → ∃ b, p = .pointer (some ⟨b, 0, none⟩) := fun _ _ _ ⟨_, _, _, ⟨b, _, h, _⟩, _⟩ => ⟨b, h⟩
theorem IV {p : Value} : RP.le (lb p 64 [one (A4 (.pointer none)), one (A4 (.slice none 0 0))]) (Ct p (some ⟨[]⟩)) := by
  rintro Φ f w ⟨b, cs, hp, hf, hb, ⟨c1, c2, rfl, ⟨q, rfl, h1, h2⟩, d1, d2, rfl, ⟨x, rfl, g1, g2⟩, hd⟩, hn⟩
  exact ⟨.slice none 0 0, f, [], by simp, ⟨b, _, hp, hf, hb, ⟨[q], _, rfl, ⟨q, rfl, h1, .inl h2, b, hp⟩, [x], d2, rfl, ⟨x, rfl, g1, g2⟩, hd⟩, hn⟩, by simp [Cp], .inl ⟨rfl, rfl, rfl⟩⟩
structure H4 where
  JL : List ((List UInt8) × (List UInt8))
  JK : List ((List UInt8) × Bool)
def KQ (p : Value) (v0 : Value) (v1 : Value) (s : H4) : RP := RP.sep (lb p 192 [one (A4 v0), one (A4 v1)]) (RP.sep (LH v0 MM (fun l => l.length = 32) (fun u y => RP.val (AJ y) u) s.JL) (LH v1 Mn (fun _ => True) (fun u y => RP.val (Ak y) u) s.JK))
def KP (p : Value) (v0 : Value) (v1 : Value) (o : Option H4) : RP := match o with | none => RP.is (p = .pointer none) | some s => KQ p v0 v1 s
def KR (p : Value) (o : Option H4) : RP := RP.ex fun v0 => RP.ex fun v1 => KP p v0 v1 o
theorem Lx {p : Value} {v0 : Value} {v1 : Value} {o : Option H4} : RP.le (KP p v0 v1 o) (KR p o) := fun _ _ _ q => ⟨v0, v1, q⟩
theorem Mi : ∀ Φ w, CR Φ w → (KR (.pointer none) none).p Φ [] w := fun _ _ _ => ⟨.pointer none, .pointer none, rfl, rfl⟩
theorem MN {p : Value} {v0 : Value} {v1 : Value} {s : H4} : ∀ Φ f w, (KQ p v0 v1 s).p Φ f w → ∃ b, p = .pointer (some ⟨b, 0, none⟩) := fun _ _ _ ⟨_, _, _, ⟨b, _, h, _⟩, _⟩ => ⟨b, h⟩
structure BJ where
  BN : List (UInt8)
def KS (p : Value) (v1 : Value) (s : BJ) : RP := RP.sep (lb p 66 [one (BK p), one (A4 v1)]) (acc v1 5 1 bC s.BN)
def IT (p : Value) (v1 : Value) (o : Option BJ) : RP := match o with | none => RP.is (p = .pointer none) | some s => KS p v1 s
def BV (p : Value) (o : Option BJ) : RP := RP.ex fun v1 => IT p v1 o
theorem Jd {p : Value} {v1 : Value} {o : Option BJ} : RP.le (IT p v1 o) (BV p o) := fun _ _ _ q => ⟨v1, q⟩
theorem Mj : ∀ Φ w, CR Φ w → (BV (.pointer none) none).p Φ [] w := fun _ _ _ => ⟨.pointer none, rfl, rfl⟩
theorem F4 {p : Value} {v1 : Value} {s : BJ} : ∀ Φ f w, (KS p v1 s).p Φ f w → ∃ b, p = .pointer (some ⟨b, 0, none⟩) := fun _ _ _ ⟨_, _, _, ⟨b, _, h, _⟩, _⟩ => ⟨b, h⟩
theorem Kz {p : Value} : RP.le (lb p 66 [one (A4 (.pointer none)), one (A4 (.slice none 0 0))]) (BV p (some ⟨[]⟩)) := by
  rintro Φ f w ⟨b, cs, hp, hf, hb, ⟨c1, c2, rfl, ⟨q, rfl, h1, h2⟩, d1, d2, rfl, ⟨x, rfl, g1, g2⟩, hd⟩, hn⟩
  exact ⟨.slice none 0 0, f, [], by simp, ⟨b, _, hp, hf, hb, ⟨[q], _, rfl, ⟨q, rfl, h1, .inl h2, b, hp⟩, [x], d2, rfl, ⟨x, rfl, g1, g2⟩, hd⟩, hn⟩, by simp [Cp], .inl ⟨rfl, rfl, rfl⟩⟩
def JH : List Int := [1, 10, 100, 1000, 10000, 100000, 1000000, 10000000, 100000000, 1000000000, 10000000000, 100000000000, 1000000000000, 10000000000000, 100000000000000, 1000000000000000, 10000000000000000, 100000000000000000, 1000000000000000000, 10000000000000000000]
def Kq : List UInt8 := [0, 1, 56, 2, 57, 49, 28, 3, 61, 58, 42, 50, 38, 29, 17, 4, 62, 47, 59, 36, 45, 43, 51, 22, 53, 39, 33, 30, 24, 18, 12, 5, 63, 55, 48, 27, 60, 41, 37, 16, 46, 35, 44, 21, 52, 32, 23, 11, 54, 26, 40, 15, 34, 20, 31, 10, 25, 14, 19, 9, 13, 8, 7, 6]
def DK : List (List UInt8) := [[110, 111, 110, 101], [112, 97, 105, 100], [100, 105, 115, 112, 97, 116, 99, 104, 101, 100], [117, 112, 100, 97, 116, 101, 100], [115, 108, 97, 115, 104, 101, 100], [97, 99, 99, 101, 112, 116, 101, 100], [115, 116, 111, 112, 112, 101, 100], [98, 114, 111, 107, 101, 110], [112, 114, 111, 118, 101, 110], [112, 114, 111, 99, 101, 115, 115, 101, 100], [115, 97, 105, 100]]
def KG : FP := ⟨fun Φ => (Eb [Cj .u64 20 JH]).p Φ (.pointer (some ⟨2, 0, none⟩)) ∧ (Eb [Af 64 Kq]).p Φ (.pointer (some ⟨6, 0, none⟩)) ∧ (Eb [Bd 11 1 Fk DM DK]).p Φ (.pointer (some ⟨0, 0, none⟩)) ∧ U8 Φ, fun hle h => ⟨(Eb _).mono hle h.1, (Eb _).mono hle h.2.1, (Eb _).mono hle h.2.2.1, h.2.2.2.mono hle⟩⟩
set_option maxHeartbeats 1000000 in
set_option maxRecDepth 100000 in
theorem I7 (b : Nat) (w : World) (h0 : w.cell? ⟨b, 0, none⟩ = some (.pointer none)) (hsh : w.shape? b = some (64, 2)) (hfz : w.frozen? ⟨b, 0, none⟩ = false) :
    Calls Tryd.prog 49 #[.pointer (some ⟨b, 0, none⟩)] w fun e w' => e = .returned (.tuple #[]) ∧ w' = w.setCell ⟨b, 0, none⟩ (.pointer (some ⟨b, 0, none⟩)) := by
  have hsz : (Tryd.prog.info? 64).map (·.size) = some 2 := by kernel_rfl
  have hlies : liesAt Tryd.prog Tryd.prog.depth 64 (2 / Tryd.prog.cellsOf 64) 0 64 1 = true := by kernel_rfl
  obtain ⟨j, hj, hjs⟩ := Option.map_eq_some_iff.1 hsz
  have mixed : Tryd.prog.follows .mixedOrders = true := by kernel_rfl
  go_enter Tryd.func49, Tryd.ntmps49
  go_wp2
  rw [Lib.run_to_unsafe w ⟨b, 0, none⟩ Tryd.underlying61 Tryd.underlying145 hj (by rw [hjs]; decide) hsh (Nat.zero_lt_succ 1)]
  simp only [Result.andThen]
  rw [Oper.upon_value]
  go_wp2
  rw [run_callFunc_extern Tryd.func60 (by kernel_rfl) (by kernel_rfl) (by kernel_rfl) (e := Extern.AbiNoEscape.same) (by kernel_rfl)]
  rw [Lib.run_noEscape]
  simp only [Result.andThen]
  rw [Oper.upon_value]
  go_wp2
  rw [Lib.run_from_unsafe w ⟨b, 0, none⟩ Tryd.underlying145 Tryd.underlying61 hj hsh hlies]
  simp only [Result.andThen]
  rw [Oper.upon_value]
  go_wp2
  go_end0
  exact ⟨rfl, rfl⟩
set_option maxHeartbeats 1000000 in
set_option maxRecDepth 100000 in
theorem JW (b : Nat) (w : World) (h0 : w.cell? ⟨b, 0, none⟩ = some (.pointer (some ⟨b, 0, none⟩))) :
    Calls Tryd.prog 49 #[.pointer (some ⟨b, 0, none⟩)] w fun e w' => e = .returned (.tuple #[]) ∧ w' = w := by
  have hsz : (Tryd.prog.info? 64).map (·.size) = some 2 := by kernel_rfl
  obtain ⟨j, hj, _⟩ := Option.map_eq_some_iff.1 hsz
  have mixed : Tryd.prog.follows .mixedOrders = true := by kernel_rfl
  go_enter Tryd.func49, Tryd.ntmps49
  go_wp2
  rw [Lib.run_neq_ptr_same w _ Tryd.underlying61 hj]
  go_wp2
  go_end0
  exact ⟨rfl, rfl⟩
theorem EJ {p v : Value} : AR Tryd.prog KG 49 [A4 p] [lb p 64 [one (BK p), one (A4 v)]] (fun _ => [lb p 64 [one (BK p), one (A4 v)]]) (Di []) := FL I7 JW
set_option maxHeartbeats 1000000 in
set_option maxRecDepth 100000 in
theorem Iq (b : Nat) (w : World) (h0 : w.cell? ⟨b, 0, none⟩ = some (.pointer none)) (hsh : w.shape? b = some (66, 2)) (hfz : w.frozen? ⟨b, 0, none⟩ = false) :
    Calls Tryd.prog 49 #[.pointer (some ⟨b, 0, none⟩)] w fun e w' => e = .returned (.tuple #[]) ∧ w' = w.setCell ⟨b, 0, none⟩ (.pointer (some ⟨b, 0, none⟩)) := by
  have hsz : (Tryd.prog.info? 64).map (·.size) = some 2 := by kernel_rfl
  have hlies : liesAt Tryd.prog Tryd.prog.depth 66 (2 / Tryd.prog.cellsOf 66) 0 64 1 = true := by kernel_rfl
  obtain ⟨j, hj, hjs⟩ := Option.map_eq_some_iff.1 hsz
  have mixed : Tryd.prog.follows .mixedOrders = true := by kernel_rfl
  go_enter Tryd.func49, Tryd.ntmps49
  go_wp2
  rw [Lib.run_to_unsafe w ⟨b, 0, none⟩ Tryd.underlying61 Tryd.underlying145 hj (by rw [hjs]; decide) hsh (Nat.zero_lt_succ 1)]
  simp only [Result.andThen]
  rw [Oper.upon_value]
  go_wp2
  rw [run_callFunc_extern Tryd.func60 (by kernel_rfl) (by kernel_rfl) (by kernel_rfl) (e := Extern.AbiNoEscape.same) (by kernel_rfl)]
  rw [Lib.run_noEscape]
  simp only [Result.andThen]
  rw [Oper.upon_value]
  go_wp2
  rw [Lib.run_from_unsafe w ⟨b, 0, none⟩ Tryd.underlying145 Tryd.underlying61 hj hsh hlies]
  simp only [Result.andThen]
  rw [Oper.upon_value]
  go_wp2
  go_end0
  exact ⟨rfl, rfl⟩
set_option maxHeartbeats 1000000 in
set_option maxRecDepth 100000 in
theorem I6 (b : Nat) (w : World) (h0 : w.cell? ⟨b, 0, none⟩ = some (.pointer (some ⟨b, 0, none⟩))) :
    Calls Tryd.prog 49 #[.pointer (some ⟨b, 0, none⟩)] w fun e w' => e = .returned (.tuple #[]) ∧ w' = w := by
  have hsz : (Tryd.prog.info? 64).map (·.size) = some 2 := by kernel_rfl
  obtain ⟨j, hj, _⟩ := Option.map_eq_some_iff.1 hsz
  have mixed : Tryd.prog.follows .mixedOrders = true := by kernel_rfl
  go_enter Tryd.func49, Tryd.ntmps49
  go_wp2
  rw [Lib.run_neq_ptr_same w _ Tryd.underlying61 hj]
  go_wp2
  go_end0
  exact ⟨rfl, rfl⟩
theorem GW {p v : Value} : AR Tryd.prog KG 49 [A4 p] [lb p 66 [one (BK p), one (A4 v)]] (fun _ => [lb p 66 [one (BK p), one (A4 v)]]) (Di []) := FL Iq I6


end Go.Proofs.YtemnhknjphjpnaaDoor
