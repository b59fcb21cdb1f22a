/- The functions' Lean twins and contracts, printed by this session's own program. -/
import Derived.Test.YtemnhknjphjpnaaDoorM1
import Derived.Test.YtemnhknjphjpnaaDoorK3
import Derived.Test.YtemnhknjphjpnaaDoorProg
import Derived.Shelf.Strings.Builder1
import Derived.Lib.Repeat
namespace Go.Proofs.YtemnhknjphjpnaaDoor
open Go Go.RowKit Go.Proofs
set_option maxRecDepth 100000
set_option linter.unusedVariables false
set_option linter.unusedSimpArgs false
theorem CQ (c : Ck) (L : List Ck) : lens (c :: L) = c.n + lens L := rfl
theorem CP : lens [] = 0 := rfl
theorem lz {Φ : BW} {c : Ck} {L : List Ck} {xs ys : List Value} (h1 : c.rel Φ xs) (h2 : Bs Φ ys L) : Bs Φ (List.append xs ys) (c :: L) := ⟨xs, ys, rfl, h1, h2⟩
theorem mixed : Tryd.prog.follows .mixedOrders = true := by kernel_rfl
structure Ap where
  Bv : Int
  Bb : List UInt8
  BB : Int
  BH : List UInt8
instance : Inhabited Ap := ⟨(Ap.mk (0 : Int) [] (0 : Int) (List.replicate 32 0))⟩
def Ap.ck (x : Ap) : List Ck := [one (Ab .i64 x.Bv), one (AF x.Bb), one (Ab .u64 x.BB), Af 32 x.BH]
theorem Ap.lens (x : Ap) : lens (Ap.ck x) = 35 := rfl
structure Aw where
  Bp : Int
  Bb : List UInt8
  Dq : Int
  BP : Int
  Bx : Int
  BO : Int
  BQ : Int
instance : Inhabited Aw := ⟨(Aw.mk (0 : Int) [] (0 : Int) (0 : Int) (0 : Int) (0 : Int) (0 : Int))⟩
def Aw.ck (x : Aw) : List Ck := [one (Ab .u32 x.Bp), one (AF x.Bb), one (Ab .u64 x.Dq), one (Ab .u64 x.BP), one (Ab .u64 x.Bx), one (Ab .u64 x.BO), one (Ab .u64 x.BQ)]
theorem Aw.lens (x : Aw) : lens (Aw.ck x) = 7 := rfl
structure Aq where
  Bb : List UInt8
  EE : List UInt8
  Dh : Int
  Di : Int
instance : Inhabited Aq := ⟨(Aq.mk [] (List.replicate 32 0) (0 : Int) (0 : Int))⟩
def Aq.ck (x : Aq) : List Ck := [one (AF x.Bb), Af 32 x.EE, one (Ab .u64 x.Dh), one (Ab .u64 x.Di)]
theorem Aq.lens (x : Aq) : lens (Aq.ck x) = 35 := rfl
structure Bo where
  AR : Int
  A6 : Int
  Bn : Int
  Ao : List (Aq)
  AD : List (Ap)
instance : Inhabited Bo := ⟨(Bo.mk (0 : Int) (0 : Int) (0 : Int) [] [])⟩
def Bo.ck (x : Bo) : List Ck := [one (Ab .u64 x.AR), one (Ab .u64 x.A6), one (Ab .u64 x.Bn), one (Ai Aq.ck x.Ao), one (Ai Ap.ck x.AD)]
theorem Bo.lens (x : Bo) : lens (Bo.ck x) = 5 := rfl
structure Ar where
  Bp : Int
  Cq : List UInt8
  Cr : List UInt8
  Ct : Int
instance : Inhabited Ar := ⟨(Ar.mk (0 : Int) [] [] (0 : Int))⟩
def Ar.ck (x : Ar) : List Ck := [one (Ab .u32 x.Bp), one (AF x.Cq), one (AF x.Cr), one (Ab .u64 x.Ct)]
theorem Ar.lens (x : Ar) : lens (Ar.ck x) = 4 := rfl
structure Br where
  At : List (Aw)
  Am : List (Ar)
instance : Inhabited Br := ⟨(Br.mk [] [])⟩
def Br.ck (x : Br) : List Ck := [one (Ai Aw.ck x.At), one (Ai Ar.ck x.Am)]
theorem Br.lens (x : Br) : lens (Br.ck x) = 2 := rfl
structure BE where
  A1 : Int
  AI : List (List UInt8)
instance : Inhabited BE := ⟨(BE.mk (0 : Int) (List.replicate 32 (List.replicate 32 0)))⟩
def BE.ck (x : BE) : List Ck := [one (Ab .u32 x.A1), A5 32 32 (dC 32) (AY 32) x.AI]
theorem BE.lens (x : BE) : lens (BE.ck x) = 1025 := by
  simp only [BE.ck, CQ, CP, one, Af, A5, B1]
structure AA where
  M7 : Int
  KY : Int
instance : Inhabited AA := ⟨(AA.mk (0 : Int) (0 : Int))⟩
def AA.ck (x : AA) : List Ck := [one (Ab .u32 x.M7), one (Ab .u32 x.KY)]
theorem AA.lens (x : AA) : lens (AA.ck x) = 2 := rfl
structure BA where
  AB : Int
  As : List UInt8
  AJ : BE
  AP : List (List UInt8)
  AW : List (List UInt8)
  Aj : List UInt8
  AS : List (AA)
  A8 : Int
  Au : Bool
instance : Inhabited BA := ⟨(BA.mk (0 : Int) (List.replicate 32 0) (BE.mk (0 : Int) (List.replicate 32 (List.replicate 32 0))) [] [] (List.replicate 32 0) [] (0 : Int) false)⟩
def BA.ck (x : BA) : List Ck := [one (Ab .u32 x.AB), Af 32 x.As, one (Ab .u32 x.AJ.A1), A5 32 32 (dC 32) (AY 32) x.AJ.AI, one (Ai (dC 32) x.AP), one (Ai (dC 32) x.AW), Af 32 x.Aj, one (Ai AA.ck x.AS), one (Ab .u64 x.A8), one (An x.Au)]
theorem BA.lens (x : BA) : lens (BA.ck x) = 1095 := by
  simp only [BA.ck, CQ, CP, one, Af, A5, B1]
structure Ay where
  Eu : List UInt8
  M8 : Int
instance : Inhabited Ay := ⟨(Ay.mk (List.replicate 32 0) (0 : Int))⟩
def Ay.ck (x : Ay) : List Ck := [Af 32 x.Eu, one (Ab .u64 x.M8)]
theorem Ay.lens (x : Ay) : lens (Ay.ck x) = 33 := rfl
structure Av where
  E7 : List UInt8
  Dc : Int
  Eu : List UInt8
instance : Inhabited Av := ⟨(Av.mk (List.replicate 32 0) (0 : Int) (List.replicate 32 0))⟩
def Av.ck (x : Av) : List Ck := [Af 32 x.E7, one (Ab .i64 x.Dc), Af 32 x.Eu]
theorem Av.lens (x : Av) : lens (Av.ck x) = 65 := rfl
structure Bl where
  AB : Int
  A7 : Int
  As : List UInt8
  AG : List (List UInt8)
  AQ : Int
  Aj : List UInt8
  AT : List (Ay)
  Az : List (Av)
  Au : Bool
  Bh : Bool
instance : Inhabited Bl := ⟨(Bl.mk (0 : Int) (0 : Int) (List.replicate 32 0) [] (0 : Int) (List.replicate 32 0) [] [] false false)⟩
def Bl.ck (x : Bl) : List Ck := [one (Ab .u32 x.AB), one (Ab .u32 x.A7), Af 32 x.As, one (Ai (dC 32) x.AG), one (Ab .u64 x.AQ), Af 32 x.Aj, one (Ai Ay.ck x.AT), one (Ai Av.ck x.Az), one (An x.Au), one (An x.Bh)]
theorem Bl.lens (x : Bl) : lens (Bl.ck x) = 72 := rfl
structure AK where
  BS : Int
  Ae : Bo
  Al : Br
  Ad : BA
  Aa : Bl
  AZ : List UInt8
instance : Inhabited AK := ⟨(AK.mk (0 : Int) (Bo.mk (0 : Int) (0 : Int) (0 : Int) [] []) (Br.mk [] []) (BA.mk (0 : Int) (List.replicate 32 0) (BE.mk (0 : Int) (List.replicate 32 (List.replicate 32 0))) [] [] (List.replicate 32 0) [] (0 : Int) false) (Bl.mk (0 : Int) (0 : Int) (List.replicate 32 0) [] (0 : Int) (List.replicate 32 0) [] [] false false) [])⟩
def AK.ck (x : AK) : List Ck := [one (Ab .u32 x.BS), one (Ab .u64 x.Ae.AR), one (Ab .u64 x.Ae.A6), one (Ab .u64 x.Ae.Bn), one (Ai Aq.ck x.Ae.Ao), one (Ai Ap.ck x.Ae.AD), one (Ai Aw.ck x.Al.At), one (Ai Ar.ck x.Al.Am), one (Ab .u32 x.Ad.AB), Af 32 x.Ad.As, one (Ab .u32 x.Ad.AJ.A1), A5 32 32 (dC 32) (AY 32) x.Ad.AJ.AI, one (Ai (dC 32) x.Ad.AP), one (Ai (dC 32) x.Ad.AW), Af 32 x.Ad.Aj, one (Ai AA.ck x.Ad.AS), one (Ab .u64 x.Ad.A8), one (An x.Ad.Au), one (Ab .u32 x.Aa.AB), one (Ab .u32 x.Aa.A7), Af 32 x.Aa.As, one (Ai (dC 32) x.Aa.AG), one (Ab .u64 x.Aa.AQ), Af 32 x.Aa.Aj, one (Ai Ay.ck x.Aa.AT), one (Ai Av.ck x.Aa.Az), one (An x.Aa.Au), one (An x.Aa.Bh), one (AF x.AZ)]
theorem AK.lens (x : AK) : lens (AK.ck x) = 1176 := by
  simp only [AK.ck, CQ, CP, one, Af, A5, B1]
structure Cl where
  KX : Value
  Ca : List (UInt8)
instance : Inhabited Cl := ⟨(Cl.mk undef [])⟩
def Cl.ck (x : Cl) : List Ck := [one (Bf x.KX), one (Ai bC x.Ca)]
theorem Cl.lens (x : Cl) : lens (Cl.ck x) = 2 := rfl
structure Dr where
  HX : Cl
instance : Inhabited Dr := ⟨(Dr.mk (Cl.mk undef []))⟩
def Dr.ck (x : Dr) : List Ck := [one (Bf x.HX.KX), one (Ai bC x.HX.Ca)]
theorem Dr.lens (x : Dr) : lens (Dr.ck x) = 2 := rfl

theorem z40 : ∀ Φ, Bs Φ (Value.agg Tryd.zeroCells40).cells.toList [one (Ab .u32 (0 : Int)), Af 32 (List.replicate 32 0), one (Ab .u32 (0 : Int)), A5 32 32 (dC 32) (AY 32) (List.replicate 32 (List.replicate 32 0)), one (Ai (dC 32) []), one (Ai (dC 32) []), Af 32 (List.replicate 32 0), one (Ai AA.ck []), one (Ab .u64 (0 : Int)), one (An false)] := by
  intro Φ
  have e : (Value.agg Tryd.zeroCells40).cells.toList = (List.append (α := Value) [.int .u32 0] (List.append (α := Value) [.int .u8 0, .int .u8 0, .int .u8 0, .int .u8 0, .int .u8 0, .int .u8 0, .int .u8 0, .int .u8 0, .int .u8 0, .int .u8 0, .int .u8 0, .int .u8 0, .int .u8 0, .int .u8 0, .int .u8 0, .int .u8 0, .int .u8 0, .int .u8 0, .int .u8 0, .int .u8 0, .int .u8 0, .int .u8 0, .int .u8 0, .int .u8 0, .int .u8 0, .int .u8 0, .int .u8 0, .int .u8 0, .int .u8 0, .int .u8 0, .int .u8 0, .int .u8 0] (List.append (α := Value) [.int .u32 0] (List.append (α := Value) (List.replicate 32 [.int .u8 0, .int .u8 0, .int .u8 0, .int .u8 0, .int .u8 0, .int .u8 0, .int .u8 0, .int .u8 0, .int .u8 0, .int .u8 0, .int .u8 0, .int .u8 0, .int .u8 0, .int .u8 0, .int .u8 0, .int .u8 0, .int .u8 0, .int .u8 0, .int .u8 0, .int .u8 0, .int .u8 0, .int .u8 0, .int .u8 0, .int .u8 0, .int .u8 0, .int .u8 0, .int .u8 0, .int .u8 0, .int .u8 0, .int .u8 0, .int .u8 0, .int .u8 0]).flatten (List.append (α := Value) [.slice none 0 0] (List.append (α := Value) [.slice none 0 0] (List.append (α := Value) [.int .u8 0, .int .u8 0, .int .u8 0, .int .u8 0, .int .u8 0, .int .u8 0, .int .u8 0, .int .u8 0, .int .u8 0, .int .u8 0, .int .u8 0, .int .u8 0, .int .u8 0, .int .u8 0, .int .u8 0, .int .u8 0, .int .u8 0, .int .u8 0, .int .u8 0, .int .u8 0, .int .u8 0, .int .u8 0, .int .u8 0, .int .u8 0, .int .u8 0, .int .u8 0, .int .u8 0, .int .u8 0, .int .u8 0, .int .u8 0, .int .u8 0, .int .u8 0] (List.append (α := Value) [.slice none 0 0] (List.append (α := Value) [.int .u64 0] (List.append (α := Value) [.bool false] ([])))))))))) : List Value) := by kernel_rfl
  rw [e]
  exact (lz ⟨_, rfl, rfl, rfl, by decide⟩ (lz ⟨rfl, rfl⟩ (lz ⟨_, rfl, rfl, rfl, by decide⟩ (lz ⟨by simp, Mb (c := (dC 32)) (z := (List.replicate 32 0)) (zs := [.int .u8 0, .int .u8 0, .int .u8 0, .int .u8 0, .int .u8 0, .int .u8 0, .int .u8 0, .int .u8 0, .int .u8 0, .int .u8 0, .int .u8 0, .int .u8 0, .int .u8 0, .int .u8 0, .int .u8 0, .int .u8 0, .int .u8 0, .int .u8 0, .int .u8 0, .int .u8 0, .int .u8 0, .int .u8 0, .int .u8 0, .int .u8 0, .int .u8 0, .int .u8 0, .int .u8 0, .int .u8 0, .int .u8 0, .int .u8 0, .int .u8 0, .int .u8 0]) (fun _ => ⟨[.int .u8 0, .int .u8 0, .int .u8 0, .int .u8 0, .int .u8 0, .int .u8 0, .int .u8 0, .int .u8 0, .int .u8 0, .int .u8 0, .int .u8 0, .int .u8 0, .int .u8 0, .int .u8 0, .int .u8 0, .int .u8 0, .int .u8 0, .int .u8 0, .int .u8 0, .int .u8 0, .int .u8 0, .int .u8 0, .int .u8 0, .int .u8 0, .int .u8 0, .int .u8 0, .int .u8 0, .int .u8 0, .int .u8 0, .int .u8 0, .int .u8 0, .int .u8 0], _, rfl, ⟨rfl, rfl⟩, rfl⟩) Φ 32⟩ (lz ⟨_, rfl, rfl, by decide, .inl ⟨rfl, rfl⟩⟩ (lz ⟨_, rfl, rfl, by decide, .inl ⟨rfl, rfl⟩⟩ (lz ⟨rfl, rfl⟩ (lz ⟨_, rfl, rfl, by decide, .inl ⟨rfl, rfl⟩⟩ (lz ⟨_, rfl, rfl, rfl, by decide⟩ (lz ⟨_, rfl, rfl, rfl⟩ rfl))))))))))
theorem z44 : ∀ Φ, Bs Φ (Value.agg #[.int .u32 0, .int .u32 0, .int .u8 0, .int .u8 0, .int .u8 0, .int .u8 0, .int .u8 0, .int .u8 0, .int .u8 0, .int .u8 0, .int .u8 0, .int .u8 0, .int .u8 0, .int .u8 0, .int .u8 0, .int .u8 0, .int .u8 0, .int .u8 0, .int .u8 0, .int .u8 0, .int .u8 0, .int .u8 0, .int .u8 0, .int .u8 0, .int .u8 0, .int .u8 0, .int .u8 0, .int .u8 0, .int .u8 0, .int .u8 0, .int .u8 0, .int .u8 0, .int .u8 0, .int .u8 0, .slice none 0 0, .int .u64 0, .int .u8 0, .int .u8 0, .int .u8 0, .int .u8 0, .int .u8 0, .int .u8 0, .int .u8 0, .int .u8 0, .int .u8 0, .int .u8 0, .int .u8 0, .int .u8 0, .int .u8 0, .int .u8 0, .int .u8 0, .int .u8 0, .int .u8 0, .int .u8 0, .int .u8 0, .int .u8 0, .int .u8 0, .int .u8 0, .int .u8 0, .int .u8 0, .int .u8 0, .int .u8 0, .int .u8 0, .int .u8 0, .int .u8 0, .int .u8 0, .int .u8 0, .int .u8 0, .slice none 0 0, .slice none 0 0, .bool false, .bool false]).cells.toList [one (Ab .u32 (0 : Int)), one (Ab .u32 (0 : Int)), Af 32 (List.replicate 32 0), one (Ai (dC 32) []), one (Ab .u64 (0 : Int)), Af 32 (List.replicate 32 0), one (Ai Ay.ck []), one (Ai Av.ck []), one (An false), one (An false)] := fun _ => ⟨[.int .u32 0], _, rfl, ⟨_, rfl, rfl, rfl, by decide⟩, ⟨[.int .u32 0], _, rfl, ⟨_, rfl, rfl, rfl, by decide⟩, ⟨[.int .u8 0, .int .u8 0, .int .u8 0, .int .u8 0, .int .u8 0, .int .u8 0, .int .u8 0, .int .u8 0, .int .u8 0, .int .u8 0, .int .u8 0, .int .u8 0, .int .u8 0, .int .u8 0, .int .u8 0, .int .u8 0, .int .u8 0, .int .u8 0, .int .u8 0, .int .u8 0, .int .u8 0, .int .u8 0, .int .u8 0, .int .u8 0, .int .u8 0, .int .u8 0, .int .u8 0, .int .u8 0, .int .u8 0, .int .u8 0, .int .u8 0, .int .u8 0], _, rfl, ⟨rfl, rfl⟩, ⟨[.slice none 0 0], _, rfl, ⟨_, rfl, rfl, by decide, .inl ⟨rfl, rfl⟩⟩, ⟨[.int .u64 0], _, rfl, ⟨_, rfl, rfl, rfl, by decide⟩, ⟨[.int .u8 0, .int .u8 0, .int .u8 0, .int .u8 0, .int .u8 0, .int .u8 0, .int .u8 0, .int .u8 0, .int .u8 0, .int .u8 0, .int .u8 0, .int .u8 0, .int .u8 0, .int .u8 0, .int .u8 0, .int .u8 0, .int .u8 0, .int .u8 0, .int .u8 0, .int .u8 0, .int .u8 0, .int .u8 0, .int .u8 0, .int .u8 0, .int .u8 0, .int .u8 0, .int .u8 0, .int .u8 0, .int .u8 0, .int .u8 0, .int .u8 0, .int .u8 0], _, rfl, ⟨rfl, rfl⟩, ⟨[.slice none 0 0], _, rfl, ⟨_, rfl, rfl, by decide, .inl ⟨rfl, rfl⟩⟩, ⟨[.slice none 0 0], _, rfl, ⟨_, rfl, rfl, by decide, .inl ⟨rfl, rfl⟩⟩, ⟨[.bool false], _, rfl, ⟨_, rfl, rfl, rfl⟩, ⟨[.bool false], _, rfl, ⟨_, rfl, rfl, rfl⟩, rfl⟩⟩⟩⟩⟩⟩⟩⟩⟩⟩
theorem z46 : ∀ Φ, Bs Φ (Value.agg Tryd.zeroCells46).cells.toList [one (Ab .u32 (0 : Int)), one (Ab .u64 (0 : Int)), one (Ab .u64 (0 : Int)), one (Ab .u64 (0 : Int)), one (Ai Aq.ck []), one (Ai Ap.ck []), one (Ai Aw.ck []), one (Ai Ar.ck []), one (Ab .u32 (0 : Int)), Af 32 (List.replicate 32 0), one (Ab .u32 (0 : Int)), A5 32 32 (dC 32) (AY 32) (List.replicate 32 (List.replicate 32 0)), one (Ai (dC 32) []), one (Ai (dC 32) []), Af 32 (List.replicate 32 0), one (Ai AA.ck []), one (Ab .u64 (0 : Int)), one (An false), one (Ab .u32 (0 : Int)), one (Ab .u32 (0 : Int)), Af 32 (List.replicate 32 0), one (Ai (dC 32) []), one (Ab .u64 (0 : Int)), Af 32 (List.replicate 32 0), one (Ai Ay.ck []), one (Ai Av.ck []), one (An false), one (An false), one (AF [])] := by
  intro Φ
  have e : (Value.agg Tryd.zeroCells46).cells.toList = (List.append (α := Value) [.int .u32 0] (List.append (α := Value) [.int .u64 0] (List.append (α := Value) [.int .u64 0] (List.append (α := Value) [.int .u64 0] (List.append (α := Value) [.slice none 0 0] (List.append (α := Value) [.slice none 0 0] (List.append (α := Value) [.slice none 0 0] (List.append (α := Value) [.slice none 0 0] (List.append (α := Value) [.int .u32 0] (List.append (α := Value) [.int .u8 0, .int .u8 0, .int .u8 0, .int .u8 0, .int .u8 0, .int .u8 0, .int .u8 0, .int .u8 0, .int .u8 0, .int .u8 0, .int .u8 0, .int .u8 0, .int .u8 0, .int .u8 0, .int .u8 0, .int .u8 0, .int .u8 0, .int .u8 0, .int .u8 0, .int .u8 0, .int .u8 0, .int .u8 0, .int .u8 0, .int .u8 0, .int .u8 0, .int .u8 0, .int .u8 0, .int .u8 0, .int .u8 0, .int .u8 0, .int .u8 0, .int .u8 0] (List.append (α := Value) [.int .u32 0] (List.append (α := Value) (List.replicate 32 [.int .u8 0, .int .u8 0, .int .u8 0, .int .u8 0, .int .u8 0, .int .u8 0, .int .u8 0, .int .u8 0, .int .u8 0, .int .u8 0, .int .u8 0, .int .u8 0, .int .u8 0, .int .u8 0, .int .u8 0, .int .u8 0, .int .u8 0, .int .u8 0, .int .u8 0, .int .u8 0, .int .u8 0, .int .u8 0, .int .u8 0, .int .u8 0, .int .u8 0, .int .u8 0, .int .u8 0, .int .u8 0, .int .u8 0, .int .u8 0, .int .u8 0, .int .u8 0]).flatten (List.append (α := Value) [.slice none 0 0] (List.append (α := Value) [.slice none 0 0] (List.append (α := Value) [.int .u8 0, .int .u8 0, .int .u8 0, .int .u8 0, .int .u8 0, .int .u8 0, .int .u8 0, .int .u8 0, .int .u8 0, .int .u8 0, .int .u8 0, .int .u8 0, .int .u8 0, .int .u8 0, .int .u8 0, .int .u8 0, .int .u8 0, .int .u8 0, .int .u8 0, .int .u8 0, .int .u8 0, .int .u8 0, .int .u8 0, .int .u8 0, .int .u8 0, .int .u8 0, .int .u8 0, .int .u8 0, .int .u8 0, .int .u8 0, .int .u8 0, .int .u8 0] (List.append (α := Value) [.slice none 0 0] (List.append (α := Value) [.int .u64 0] (List.append (α := Value) [.bool false] (List.append (α := Value) [.int .u32 0] (List.append (α := Value) [.int .u32 0] (List.append (α := Value) [.int .u8 0, .int .u8 0, .int .u8 0, .int .u8 0, .int .u8 0, .int .u8 0, .int .u8 0, .int .u8 0, .int .u8 0, .int .u8 0, .int .u8 0, .int .u8 0, .int .u8 0, .int .u8 0, .int .u8 0, .int .u8 0, .int .u8 0, .int .u8 0, .int .u8 0, .int .u8 0, .int .u8 0, .int .u8 0, .int .u8 0, .int .u8 0, .int .u8 0, .int .u8 0, .int .u8 0, .int .u8 0, .int .u8 0, .int .u8 0, .int .u8 0, .int .u8 0] (List.append (α := Value) [.slice none 0 0] (List.append (α := Value) [.int .u64 0] (List.append (α := Value) [.int .u8 0, .int .u8 0, .int .u8 0, .int .u8 0, .int .u8 0, .int .u8 0, .int .u8 0, .int .u8 0, .int .u8 0, .int .u8 0, .int .u8 0, .int .u8 0, .int .u8 0, .int .u8 0, .int .u8 0, .int .u8 0, .int .u8 0, .int .u8 0, .int .u8 0, .int .u8 0, .int .u8 0, .int .u8 0, .int .u8 0, .int .u8 0, .int .u8 0, .int .u8 0, .int .u8 0, .int .u8 0, .int .u8 0, .int .u8 0, .int .u8 0, .int .u8 0] (List.append (α := Value) [.slice none 0 0] (List.append (α := Value) [.slice none 0 0] (List.append (α := Value) [.bool false] (List.append (α := Value) [.bool false] (List.append (α := Value) [.string ⟨#[]⟩] ([]))))))))))))))))))))))))))))) : List Value) := by kernel_rfl
  rw [e]
  exact (lz ⟨_, rfl, rfl, rfl, by decide⟩ (lz ⟨_, rfl, rfl, rfl, by decide⟩ (lz ⟨_, rfl, rfl, rfl, by decide⟩ (lz ⟨_, rfl, rfl, rfl, by decide⟩ (lz ⟨_, rfl, rfl, by decide, .inl ⟨rfl, rfl⟩⟩ (lz ⟨_, rfl, rfl, by decide, .inl ⟨rfl, rfl⟩⟩ (lz ⟨_, rfl, rfl, by decide, .inl ⟨rfl, rfl⟩⟩ (lz ⟨_, rfl, rfl, by decide, .inl ⟨rfl, rfl⟩⟩ (lz ⟨_, rfl, rfl, rfl, by decide⟩ (lz ⟨rfl, rfl⟩ (lz ⟨_, rfl, rfl, rfl, by decide⟩ (lz ⟨by simp, Mb (c := (dC 32)) (z := (List.replicate 32 0)) (zs := [.int .u8 0, .int .u8 0, .int .u8 0, .int .u8 0, .int .u8 0, .int .u8 0, .int .u8 0, .int .u8 0, .int .u8 0, .int .u8 0, .int .u8 0, .int .u8 0, .int .u8 0, .int .u8 0, .int .u8 0, .int .u8 0, .int .u8 0, .int .u8 0, .int .u8 0, .int .u8 0, .int .u8 0, .int .u8 0, .int .u8 0, .int .u8 0, .int .u8 0, .int .u8 0, .int .u8 0, .int .u8 0, .int .u8 0, .int .u8 0, .int .u8 0, .int .u8 0]) (fun _ => ⟨[.int .u8 0, .int .u8 0, .int .u8 0, .int .u8 0, .int .u8 0, .int .u8 0, .int .u8 0, .int .u8 0, .int .u8 0, .int .u8 0, .int .u8 0, .int .u8 0, .int .u8 0, .int .u8 0, .int .u8 0, .int .u8 0, .int .u8 0, .int .u8 0, .int .u8 0, .int .u8 0, .int .u8 0, .int .u8 0, .int .u8 0, .int .u8 0, .int .u8 0, .int .u8 0, .int .u8 0, .int .u8 0, .int .u8 0, .int .u8 0, .int .u8 0, .int .u8 0], _, rfl, ⟨rfl, rfl⟩, rfl⟩) Φ 32⟩ (lz ⟨_, rfl, rfl, by decide, .inl ⟨rfl, rfl⟩⟩ (lz ⟨_, rfl, rfl, by decide, .inl ⟨rfl, rfl⟩⟩ (lz ⟨rfl, rfl⟩ (lz ⟨_, rfl, rfl, by decide, .inl ⟨rfl, rfl⟩⟩ (lz ⟨_, rfl, rfl, rfl, by decide⟩ (lz ⟨_, rfl, rfl, rfl⟩ (lz ⟨_, rfl, rfl, rfl, by decide⟩ (lz ⟨_, rfl, rfl, rfl, by decide⟩ (lz ⟨rfl, rfl⟩ (lz ⟨_, rfl, rfl, by decide, .inl ⟨rfl, rfl⟩⟩ (lz ⟨_, rfl, rfl, rfl, by decide⟩ (lz ⟨rfl, rfl⟩ (lz ⟨_, rfl, rfl, by decide, .inl ⟨rfl, rfl⟩⟩ (lz ⟨_, rfl, rfl, by decide, .inl ⟨rfl, rfl⟩⟩ (lz ⟨_, rfl, rfl, rfl⟩ (lz ⟨_, rfl, rfl, rfl⟩ (lz ⟨_, rfl, rfl, rfl, by decide⟩ rfl)))))))))))))))))))))))))))))
theorem NI : ∀ Φ, Bs Φ (Value.agg #[.int .i64 0, .string ⟨#[]⟩, .int .u64 0, .int .u8 0, .int .u8 0, .int .u8 0, .int .u8 0, .int .u8 0, .int .u8 0, .int .u8 0, .int .u8 0, .int .u8 0, .int .u8 0, .int .u8 0, .int .u8 0, .int .u8 0, .int .u8 0, .int .u8 0, .int .u8 0, .int .u8 0, .int .u8 0, .int .u8 0, .int .u8 0, .int .u8 0, .int .u8 0, .int .u8 0, .int .u8 0, .int .u8 0, .int .u8 0, .int .u8 0, .int .u8 0, .int .u8 0, .int .u8 0, .int .u8 0, .int .u8 0]).cells.toList [one (Ab .i64 (0 : Int)), one (AF []), one (Ab .u64 (0 : Int)), Af 32 (List.replicate 32 0)] := fun _ => ⟨[.int .i64 0], _, rfl, ⟨_, rfl, rfl, rfl, by decide⟩, ⟨[.string ⟨#[]⟩], _, rfl, ⟨_, rfl, rfl, rfl, by decide⟩, ⟨[.int .u64 0], _, rfl, ⟨_, rfl, rfl, rfl, by decide⟩, ⟨[.int .u8 0, .int .u8 0, .int .u8 0, .int .u8 0, .int .u8 0, .int .u8 0, .int .u8 0, .int .u8 0, .int .u8 0, .int .u8 0, .int .u8 0, .int .u8 0, .int .u8 0, .int .u8 0, .int .u8 0, .int .u8 0, .int .u8 0, .int .u8 0, .int .u8 0, .int .u8 0, .int .u8 0, .int .u8 0, .int .u8 0, .int .u8 0, .int .u8 0, .int .u8 0, .int .u8 0, .int .u8 0, .int .u8 0, .int .u8 0, .int .u8 0, .int .u8 0], _, rfl, ⟨rfl, rfl⟩, rfl⟩⟩⟩⟩
theorem NH : ∀ Φ, Bs Φ (Value.agg #[.string ⟨#[]⟩, .int .u8 0, .int .u8 0, .int .u8 0, .int .u8 0, .int .u8 0, .int .u8 0, .int .u8 0, .int .u8 0, .int .u8 0, .int .u8 0, .int .u8 0, .int .u8 0, .int .u8 0, .int .u8 0, .int .u8 0, .int .u8 0, .int .u8 0, .int .u8 0, .int .u8 0, .int .u8 0, .int .u8 0, .int .u8 0, .int .u8 0, .int .u8 0, .int .u8 0, .int .u8 0, .int .u8 0, .int .u8 0, .int .u8 0, .int .u8 0, .int .u8 0, .int .u8 0, .int .u64 0, .int .u64 0]).cells.toList [one (AF []), Af 32 (List.replicate 32 0), one (Ab .u64 (0 : Int)), one (Ab .u64 (0 : Int))] := fun _ => ⟨[.string ⟨#[]⟩], _, rfl, ⟨_, rfl, rfl, rfl, by decide⟩, ⟨[.int .u8 0, .int .u8 0, .int .u8 0, .int .u8 0, .int .u8 0, .int .u8 0, .int .u8 0, .int .u8 0, .int .u8 0, .int .u8 0, .int .u8 0, .int .u8 0, .int .u8 0, .int .u8 0, .int .u8 0, .int .u8 0, .int .u8 0, .int .u8 0, .int .u8 0, .int .u8 0, .int .u8 0, .int .u8 0, .int .u8 0, .int .u8 0, .int .u8 0, .int .u8 0, .int .u8 0, .int .u8 0, .int .u8 0, .int .u8 0, .int .u8 0, .int .u8 0], _, rfl, ⟨rfl, rfl⟩, ⟨[.int .u64 0], _, rfl, ⟨_, rfl, rfl, rfl, by decide⟩, ⟨[.int .u64 0], _, rfl, ⟨_, rfl, rfl, rfl, by decide⟩, rfl⟩⟩⟩⟩
theorem NG : ∀ Φ, Bs Φ (Value.agg #[.int .u32 0, .string ⟨#[]⟩, .int .u64 0, .int .u64 0, .int .u64 0, .int .u64 0, .int .u64 0]).cells.toList [one (Ab .u32 (0 : Int)), one (AF []), one (Ab .u64 (0 : Int)), one (Ab .u64 (0 : Int)), one (Ab .u64 (0 : Int)), one (Ab .u64 (0 : Int)), one (Ab .u64 (0 : Int))] := fun _ => ⟨[.int .u32 0], _, rfl, ⟨_, rfl, rfl, rfl, by decide⟩, ⟨[.string ⟨#[]⟩], _, rfl, ⟨_, rfl, rfl, rfl, by decide⟩, ⟨[.int .u64 0], _, rfl, ⟨_, rfl, rfl, rfl, by decide⟩, ⟨[.int .u64 0], _, rfl, ⟨_, rfl, rfl, rfl, by decide⟩, ⟨[.int .u64 0], _, rfl, ⟨_, rfl, rfl, rfl, by decide⟩, ⟨[.int .u64 0], _, rfl, ⟨_, rfl, rfl, rfl, by decide⟩, ⟨[.int .u64 0], _, rfl, ⟨_, rfl, rfl, rfl, by decide⟩, rfl⟩⟩⟩⟩⟩⟩⟩
theorem NF : ∀ Φ, Bs Φ (Value.agg #[.int .u32 0, .string ⟨#[]⟩, .string ⟨#[]⟩, .int .u64 0]).cells.toList [one (Ab .u32 (0 : Int)), one (AF []), one (AF []), one (Ab .u64 (0 : Int))] := fun _ => ⟨[.int .u32 0], _, rfl, ⟨_, rfl, rfl, rfl, by decide⟩, ⟨[.string ⟨#[]⟩], _, rfl, ⟨_, rfl, rfl, rfl, by decide⟩, ⟨[.string ⟨#[]⟩], _, rfl, ⟨_, rfl, rfl, rfl, by decide⟩, ⟨[.int .u64 0], _, rfl, ⟨_, rfl, rfl, rfl, by decide⟩, rfl⟩⟩⟩⟩
theorem z85 : ∀ Φ, Bs Φ (Value.agg #[.int .u8 0, .int .u8 0, .int .u8 0, .int .u8 0, .int .u8 0, .int .u8 0, .int .u8 0, .int .u8 0, .int .u8 0, .int .u8 0, .int .u8 0, .int .u8 0, .int .u8 0, .int .u8 0, .int .u8 0, .int .u8 0, .int .u8 0, .int .u8 0, .int .u8 0, .int .u8 0, .int .u8 0, .int .u8 0, .int .u8 0, .int .u8 0, .int .u8 0, .int .u8 0, .int .u8 0, .int .u8 0, .int .u8 0, .int .u8 0, .int .u8 0, .int .u8 0, .int .i64 0, .int .u8 0, .int .u8 0, .int .u8 0, .int .u8 0, .int .u8 0, .int .u8 0, .int .u8 0, .int .u8 0, .int .u8 0, .int .u8 0, .int .u8 0, .int .u8 0, .int .u8 0, .int .u8 0, .int .u8 0, .int .u8 0, .int .u8 0, .int .u8 0, .int .u8 0, .int .u8 0, .int .u8 0, .int .u8 0, .int .u8 0, .int .u8 0, .int .u8 0, .int .u8 0, .int .u8 0, .int .u8 0, .int .u8 0, .int .u8 0, .int .u8 0, .int .u8 0]).cells.toList [Af 32 (List.replicate 32 0), one (Ab .i64 (0 : Int)), Af 32 (List.replicate 32 0)] := fun _ => ⟨[.int .u8 0, .int .u8 0, .int .u8 0, .int .u8 0, .int .u8 0, .int .u8 0, .int .u8 0, .int .u8 0, .int .u8 0, .int .u8 0, .int .u8 0, .int .u8 0, .int .u8 0, .int .u8 0, .int .u8 0, .int .u8 0, .int .u8 0, .int .u8 0, .int .u8 0, .int .u8 0, .int .u8 0, .int .u8 0, .int .u8 0, .int .u8 0, .int .u8 0, .int .u8 0, .int .u8 0, .int .u8 0, .int .u8 0, .int .u8 0, .int .u8 0, .int .u8 0], _, rfl, ⟨rfl, rfl⟩, ⟨[.int .i64 0], _, rfl, ⟨_, rfl, rfl, rfl, by decide⟩, ⟨[.int .u8 0, .int .u8 0, .int .u8 0, .int .u8 0, .int .u8 0, .int .u8 0, .int .u8 0, .int .u8 0, .int .u8 0, .int .u8 0, .int .u8 0, .int .u8 0, .int .u8 0, .int .u8 0, .int .u8 0, .int .u8 0, .int .u8 0, .int .u8 0, .int .u8 0, .int .u8 0, .int .u8 0, .int .u8 0, .int .u8 0, .int .u8 0, .int .u8 0, .int .u8 0, .int .u8 0, .int .u8 0, .int .u8 0, .int .u8 0, .int .u8 0, .int .u8 0], _, rfl, ⟨rfl, rfl⟩, rfl⟩⟩⟩
theorem MP : ∀ Φ, Bs Φ (Value.agg #[.int .u8 0, .int .u8 0, .int .u8 0, .int .u8 0, .int .u8 0, .int .u8 0, .int .u8 0, .int .u8 0, .int .u8 0, .int .u8 0, .int .u8 0, .int .u8 0, .int .u8 0, .int .u8 0, .int .u8 0, .int .u8 0, .int .u8 0, .int .u8 0, .int .u8 0, .int .u8 0, .int .u8 0, .int .u8 0, .int .u8 0, .int .u8 0]).cells.toList [Af 24 (List.replicate 24 0)] := fun _ => ⟨[.int .u8 0, .int .u8 0, .int .u8 0, .int .u8 0, .int .u8 0, .int .u8 0, .int .u8 0, .int .u8 0, .int .u8 0, .int .u8 0, .int .u8 0, .int .u8 0, .int .u8 0, .int .u8 0, .int .u8 0, .int .u8 0, .int .u8 0, .int .u8 0, .int .u8 0, .int .u8 0, .int .u8 0, .int .u8 0, .int .u8 0, .int .u8 0], _, rfl, ⟨rfl, rfl⟩, rfl⟩
theorem z160 : ∀ Φ, Bs Φ (Value.agg #[.int .u8 0, .int .u8 0, .int .u8 0, .int .u8 0, .int .u8 0, .int .u8 0, .int .u8 0, .int .u8 0, .int .u8 0, .int .u8 0, .int .u8 0, .int .u8 0, .int .u8 0, .int .u8 0, .int .u8 0, .int .u8 0, .int .u8 0, .int .u8 0, .int .u8 0, .int .u8 0, .int .u8 0, .int .u8 0, .int .u8 0, .int .u8 0, .int .u8 0, .int .u8 0, .int .u8 0, .int .u8 0, .int .u8 0, .int .u8 0, .int .u8 0, .int .u8 0, .int .u8 0, .int .u8 0, .int .u8 0, .int .u8 0, .int .u8 0, .int .u8 0, .int .u8 0, .int .u8 0, .int .u8 0, .int .u8 0, .int .u8 0, .int .u8 0, .int .u8 0, .int .u8 0, .int .u8 0, .int .u8 0, .int .u8 0, .int .u8 0, .int .u8 0, .int .u8 0, .int .u8 0, .int .u8 0, .int .u8 0, .int .u8 0, .int .u8 0, .int .u8 0, .int .u8 0, .int .u8 0, .int .u8 0, .int .u8 0, .int .u8 0, .int .u8 0, .int .u8 0]).cells.toList [Af 65 (List.replicate 65 0)] := fun _ => ⟨[.int .u8 0, .int .u8 0, .int .u8 0, .int .u8 0, .int .u8 0, .int .u8 0, .int .u8 0, .int .u8 0, .int .u8 0, .int .u8 0, .int .u8 0, .int .u8 0, .int .u8 0, .int .u8 0, .int .u8 0, .int .u8 0, .int .u8 0, .int .u8 0, .int .u8 0, .int .u8 0, .int .u8 0, .int .u8 0, .int .u8 0, .int .u8 0, .int .u8 0, .int .u8 0, .int .u8 0, .int .u8 0, .int .u8 0, .int .u8 0, .int .u8 0, .int .u8 0, .int .u8 0, .int .u8 0, .int .u8 0, .int .u8 0, .int .u8 0, .int .u8 0, .int .u8 0, .int .u8 0, .int .u8 0, .int .u8 0, .int .u8 0, .int .u8 0, .int .u8 0, .int .u8 0, .int .u8 0, .int .u8 0, .int .u8 0, .int .u8 0, .int .u8 0, .int .u8 0, .int .u8 0, .int .u8 0, .int .u8 0, .int .u8 0, .int .u8 0, .int .u8 0, .int .u8 0, .int .u8 0, .int .u8 0, .int .u8 0, .int .u8 0, .int .u8 0, .int .u8 0], _, rfl, ⟨rfl, rfl⟩, rfl⟩
theorem MO : ∀ Φ, Bs Φ (Value.agg #[.pointer none, .slice none 0 0]).cells.toList [one (Bf (.pointer none)), one (Bf (.slice none 0 0))] := fun _ => ⟨[.pointer none], _, rfl, ⟨_, rfl, rfl, rfl⟩, ⟨[.slice none 0 0], _, rfl, ⟨_, rfl, rfl, rfl⟩, rfl⟩⟩
theorem ND : ∀ Φ, Bs Φ (Value.agg #[.pointer none, .slice none 0 0]).cells.toList [one (Bf (.pointer none)), one (Bf (.slice none 0 0))] := fun _ => ⟨[.pointer none], _, rfl, ⟨_, rfl, rfl, rfl⟩, ⟨[.slice none 0 0], _, rfl, ⟨_, rfl, rfl, rfl⟩, rfl⟩⟩
theorem Nq : ∀ p, Tryd.prog.built 46 p = Instr.fill (fun i => (#[(0, 1), (1, 5), (6, 2), (8, 1095), (1103, 72), (1175, 1)] : Array (Nat × Nat))[i]?) (Value.agg Tryd.zeroCells46).cells.toList.toArray p := by intro p; kernel_rfl
theorem Og : ∀ p, Tryd.prog.built 66 p = Instr.fill (fun i => (#[(0, 2)] : Array (Nat × Nat))[i]?) (Value.agg #[.pointer none, .slice none 0 0]).cells.toList.toArray p := by intro p; kernel_rfl

structure C2 where
  Ca : List (UInt8)
def Ma (p : Value) (v1 : Value) (s : C2) : RP := RP.sep (lb p 64 [one (B8 p), one (Bf v1)]) (acc v1 5 1 bC s.Ca)
def H4 (p : Value) (v1 : Value) (o : Option C2) : RP := match o with | none => RP.is (p = .pointer none) | some s => Ma p v1 s
def C4 (p : Value) (o : Option C2) : RP := RP.ex fun v1 => H4 p v1 o
theorem G7 {p : Value} {v1 : Value} {o : Option C2} : RP.le (H4 p v1 o) (C4 p o) := fun _ _ _ q => ⟨v1, q⟩
theorem NC : ∀ Φ w, Du Φ w → (C4 (.pointer none) none).p Φ [] w := fun _ _ _ => ⟨.pointer none, rfl, rfl⟩
theorem Iu {p : Value} {v1 : Value} {s : C2} : ∀ Φ f w, (Ma p v1 s).p Φ f w → ∃ b, p = .pointer (some ⟨b, 0, none⟩) := fun _ _ _ ⟨_, _, _, ⟨b, _, h, _⟩, _⟩ => ⟨b, h⟩
theorem JS {p : Value} : RP.le (lb p 64 [one (Bf (.pointer none)), one (Bf (.slice none 0 0))]) (C4 p (some ⟨[]⟩)) := by
  rintro Φ f w ⟨b, cs, hp, hf, hb, ⟨c1, c2, rfl, ⟨q, rfl, h1, h2⟩, d1, d2, rfl, ⟨x, rfl, g1, g2⟩, hd⟩, hn⟩
  exact ⟨.slice none 0 0, f, [], by simp, ⟨b, _, hp, hf, hb, ⟨[q], _, rfl, ⟨q, rfl, h1, .inl h2, b, hp⟩, [x], d2, rfl, ⟨x, rfl, g1, g2⟩, hd⟩, hn⟩, by simp [Bw], .inl ⟨rfl, rfl, rfl⟩⟩
structure I1 where
  KW : List ((List UInt8) × (List UInt8))
  KV : List ((List UInt8) × Bool)
def L7 (p : Value) (v0 : Value) (v1 : Value) (s : I1) : RP := RP.sep (lb p 192 [one (Bf v0), one (Bf v1)]) (RP.sep (MZ v0 Oi (fun l => l.length = 32) (fun u y => RP.val (AF y) u) s.KW) (MZ v1 NL (fun _ => True) (fun u y => RP.val (An y) u) s.KV))
def L6 (p : Value) (v0 : Value) (v1 : Value) (o : Option I1) : RP := match o with | none => RP.is (p = .pointer none) | some s => L7 p v0 v1 s
def L8 (p : Value) (o : Option I1) : RP := RP.ex fun v0 => RP.ex fun v1 => L6 p v0 v1 o
theorem MM {p : Value} {v0 : Value} {v1 : Value} {o : Option I1} : RP.le (L6 p v0 v1 o) (L8 p o) := fun _ _ _ q => ⟨v0, v1, q⟩
theorem NA : ∀ Φ w, Du Φ w → (L8 (.pointer none) none).p Φ [] w := fun _ _ _ => ⟨.pointer none, .pointer none, rfl, rfl⟩
theorem Ol {p : Value} {v0 : Value} {v1 : Value} {s : I1} : ∀ Φ f w, (L7 p v0 v1 s).p Φ f w → ∃ b, p = .pointer (some ⟨b, 0, none⟩) := fun _ _ _ ⟨_, _, _, ⟨b, _, h, _⟩, _⟩ => ⟨b, h⟩
structure B7 where
  Ca : List (UInt8)
def L9 (p : Value) (v1 : Value) (s : B7) : RP := RP.sep (lb p 66 [one (B8 p), one (Bf v1)]) (acc v1 5 1 bC s.Ca)
def JQ (p : Value) (v1 : Value) (o : Option B7) : RP := match o with | none => RP.is (p = .pointer none) | some s => L9 p v1 s
def Cm (p : Value) (o : Option B7) : RP := RP.ex fun v1 => JQ p v1 o
theorem Kg {p : Value} {v1 : Value} {o : Option B7} : RP.le (JQ p v1 o) (Cm p o) := fun _ _ _ q => ⟨v1, q⟩
theorem NB : ∀ Φ w, Du Φ w → (Cm (.pointer none) none).p Φ [] w := fun _ _ _ => ⟨.pointer none, rfl, rfl⟩
theorem G5 {p : Value} {v1 : Value} {s : B7} : ∀ Φ f w, (L9 p v1 s).p Φ f w → ∃ b, p = .pointer (some ⟨b, 0, none⟩) := fun _ _ _ ⟨_, _, _, ⟨b, _, h, _⟩, _⟩ => ⟨b, h⟩
theorem LN {p : Value} : RP.le (lb p 66 [one (Bf (.pointer none)), one (Bf (.slice none 0 0))]) (Cm p (some ⟨[]⟩)) := by
  rintro Φ f w ⟨b, cs, hp, hf, hb, ⟨c1, c2, rfl, ⟨q, rfl, h1, h2⟩, d1, d2, rfl, ⟨x, rfl, g1, g2⟩, hd⟩, hn⟩
  exact ⟨.slice none 0 0, f, [], by simp, ⟨b, _, hp, hf, hb, ⟨[q], _, rfl, ⟨q, rfl, h1, .inl h2, b, hp⟩, [x], d2, rfl, ⟨x, rfl, g1, g2⟩, hd⟩, hn⟩, by simp [Bw], .inl ⟨rfl, rfl, rfl⟩⟩
def KS : List Int := [1, 10, 100, 1000, 10000, 100000, 1000000, 10000000, 100000000, 1000000000, 10000000000, 100000000000, 1000000000000, 10000000000000, 100000000000000, 1000000000000000, 10000000000000000, 100000000000000000, 1000000000000000000, 10000000000000000000]
def LC : List UInt8 := [0, 1, 56, 2, 57, 49, 28, 3, 61, 58, 42, 50, 38, 29, 17, 4, 62, 47, 59, 36, 45, 43, 51, 22, 53, 39, 33, 30, 24, 18, 12, 5, 63, 55, 48, 27, 60, 41, 37, 16, 46, 35, 44, 21, 52, 32, 23, 11, 54, 26, 40, 15, 34, 20, 31, 10, 25, 14, 19, 9, 13, 8, 7, 6]
def DV : List (List UInt8) := [[110, 111, 110, 101], [112, 97, 105, 100], [100, 105, 115, 112, 97, 116, 99, 104, 101, 100], [117, 112, 100, 97, 116, 101, 100], [115, 108, 97, 115, 104, 101, 100], [97, 99, 99, 101, 112, 116, 101, 100], [115, 116, 111, 112, 112, 101, 100], [98, 114, 111, 107, 101, 110], [112, 114, 111, 118, 101, 110], [112, 114, 111, 99, 101, 115, 115, 101, 100], [115, 97, 105, 100]]
def KG : FP := ⟨fun Φ => (EI [B1 .u64 20 KS]).p Φ (.pointer (some ⟨2, 0, none⟩)) ∧ (EI [Af 64 LC]).p Φ (.pointer (some ⟨6, 0, none⟩)) ∧ (EI [A5 11 1 F1 DU DV]).p Φ (.pointer (some ⟨0, 0, none⟩)) ∧ U8 Φ, fun hle h => ⟨(EI _).mono hle h.1, (EI _).mono hle h.2.1, (EI _).mono hle h.2.2.1, h.2.2.2.mono hle⟩⟩
set_option maxHeartbeats 1000000 in
set_option maxRecDepth 100000 in
theorem Ka (b : Nat) (w : World) (h0 : w.cell? ⟨b, 0, none⟩ = some (.pointer none)) (hsh : w.shape? b = some (64, 2)) (hfz : w.frozen? ⟨b, 0, none⟩ = false) :
    Calls Tryd.prog 49 #[.pointer (some ⟨b, 0, none⟩)] w fun e w' => e = .returned (.tuple #[]) ∧ w' = w.setCell ⟨b, 0, none⟩ (.pointer (some ⟨b, 0, none⟩)) := by
  have hsz : (Tryd.prog.info? 64).map (·.size) = some 2 := by kernel_rfl
  have hlies : liesAt Tryd.prog Tryd.prog.depth 64 (2 / Tryd.prog.cellsOf 64) 0 64 1 = true := by kernel_rfl
  obtain ⟨j, hj, hjs⟩ := Option.map_eq_some_iff.1 hsz
  have mixed : Tryd.prog.follows .mixedOrders = true := by kernel_rfl
  go_enter Tryd.func49, Tryd.ntmps49
  go_wp2
  rw [Lib.run_to_unsafe w ⟨b, 0, none⟩ Tryd.underlying61 Tryd.underlying145 hj (by rw [hjs]; decide) hsh (Nat.zero_lt_succ 1)]
  simp only [Result.andThen]
  rw [Oper.upon_value]
  go_wp2
  rw [run_callFunc_extern Tryd.func60 (by kernel_rfl) (by kernel_rfl) (by kernel_rfl) (e := Extern.AbiNoEscape.same) (by kernel_rfl)]
  rw [Lib.run_noEscape]
  simp only [Result.andThen]
  rw [Oper.upon_value]
  go_wp2
  rw [Lib.run_from_unsafe w ⟨b, 0, none⟩ Tryd.underlying145 Tryd.underlying61 hj hsh hlies]
  simp only [Result.andThen]
  rw [Oper.upon_value]
  go_wp2
  go_end0
  exact ⟨rfl, rfl⟩
set_option maxHeartbeats 1000000 in
set_option maxRecDepth 100000 in
theorem K6 (b : Nat) (w : World) (h0 : w.cell? ⟨b, 0, none⟩ = some (.pointer (some ⟨b, 0, none⟩))) :
    Calls Tryd.prog 49 #[.pointer (some ⟨b, 0, none⟩)] w fun e w' => e = .returned (.tuple #[]) ∧ w' = w := by
  have hsz : (Tryd.prog.info? 64).map (·.size) = some 2 := by kernel_rfl
  obtain ⟨j, hj, _⟩ := Option.map_eq_some_iff.1 hsz
  have mixed : Tryd.prog.follows .mixedOrders = true := by kernel_rfl
  go_enter Tryd.func49, Tryd.ntmps49
  go_wp2
  rw [Lib.run_neq_ptr_same w _ Tryd.underlying61 hj]
  go_wp2
  go_end0
  exact ⟨rfl, rfl⟩
theorem Ft {p v : Value} : AX Tryd.prog KG 49 [Bf p] [lb p 64 [one (B8 p), one (Bf v)]] (fun _ => [lb p 64 [one (B8 p), one (Bf v)]]) (DJ []) := GN Ka K6
set_option maxHeartbeats 1000000 in
set_option maxRecDepth 100000 in
theorem Jk (b : Nat) (w : World) (h0 : w.cell? ⟨b, 0, none⟩ = some (.pointer none)) (hsh : w.shape? b = some (66, 2)) (hfz : w.frozen? ⟨b, 0, none⟩ = false) :
    Calls Tryd.prog 49 #[.pointer (some ⟨b, 0, none⟩)] w fun e w' => e = .returned (.tuple #[]) ∧ w' = w.setCell ⟨b, 0, none⟩ (.pointer (some ⟨b, 0, none⟩)) := by
  have hsz : (Tryd.prog.info? 64).map (·.size) = some 2 := by kernel_rfl
  have hlies : liesAt Tryd.prog Tryd.prog.depth 66 (2 / Tryd.prog.cellsOf 66) 0 64 1 = true := by kernel_rfl
  obtain ⟨j, hj, hjs⟩ := Option.map_eq_some_iff.1 hsz
  have mixed : Tryd.prog.follows .mixedOrders = true := by kernel_rfl
  go_enter Tryd.func49, Tryd.ntmps49
  go_wp2
  rw [Lib.run_to_unsafe w ⟨b, 0, none⟩ Tryd.underlying61 Tryd.underlying145 hj (by rw [hjs]; decide) hsh (Nat.zero_lt_succ 1)]
  simp only [Result.andThen]
  rw [Oper.upon_value]
  go_wp2
  rw [run_callFunc_extern Tryd.func60 (by kernel_rfl) (by kernel_rfl) (by kernel_rfl) (e := Extern.AbiNoEscape.same) (by kernel_rfl)]
  rw [Lib.run_noEscape]
  simp only [Result.andThen]
  rw [Oper.upon_value]
  go_wp2
  rw [Lib.run_from_unsafe w ⟨b, 0, none⟩ Tryd.underlying145 Tryd.underlying61 hj hsh hlies]
  simp only [Result.andThen]
  rw [Oper.upon_value]
  go_wp2
  go_end0
  exact ⟨rfl, rfl⟩
set_option maxHeartbeats 1000000 in
set_option maxRecDepth 100000 in
theorem J9 (b : Nat) (w : World) (h0 : w.cell? ⟨b, 0, none⟩ = some (.pointer (some ⟨b, 0, none⟩))) :
    Calls Tryd.prog 49 #[.pointer (some ⟨b, 0, none⟩)] w fun e w' => e = .returned (.tuple #[]) ∧ w' = w := by
  have hsz : (Tryd.prog.info? 64).map (·.size) = some 2 := by kernel_rfl
  obtain ⟨j, hj, _⟩ := Option.map_eq_some_iff.1 hsz
  have mixed : Tryd.prog.follows .mixedOrders = true := by kernel_rfl
  go_enter Tryd.func49, Tryd.ntmps49
  go_wp2
  rw [Lib.run_neq_ptr_same w _ Tryd.underlying61 hj]
  go_wp2
  go_end0
  exact ⟨rfl, rfl⟩
theorem HP {p v : Value} : AX Tryd.prog KG 49 [Bf p] [lb p 66 [one (B8 p), one (Bf v)]] (fun _ => [lb p 66 [one (B8 p), one (Bf v)]]) (DJ []) := GN Jk J9


end Go.Proofs.YtemnhknjphjpnaaDoor
