/- pontoon/pontoonlaw30.ReportChains: whatever the input (the listed variables as the program's text lays them), the call returns true and each argument reads afterwards as it read before: the tied card. -/
import Derived.Test.YtemnhknjphjpnaaDoorC2u
import Derived.Test.YtemnhknjphjpnaaDoorM1
import Derived.Test.YtemnhknjphjpnaaDoorP106
import Derived.SevenTiedAt
namespace Go.Proofs.YtemnhknjphjpnaaDoor
open Go Go.RowKit Go.Proofs Go.ChangeShapes Go.WideShapes Go.ChangeAt Go.WideMaps Go.WideElems
set_option maxRecDepth 100000
theorem It : Tryd.prog.cellsOf 22 = 1 := by kernel_rfl
theorem Gi : Tryd.prog.cellsOf 23 = 1 := by kernel_rfl
theorem MJ : Tryd.prog.cellsOf 9 = 1 := by kernel_rfl
theorem Kb : Tryd.prog.cellsOf 5 = 1 := by kernel_rfl
theorem ED : Tryd.prog.cellsOf 33 = 32 := by kernel_rfl
theorem Ng : Tryd.prog.cellsOf 74 = 35 := by kernel_rfl
theorem Aq.opens : DY Tryd.prog 74 Aq.ck := by
  intro H enc w base sp held fuel cs r h
  obtain ⟨hl, hf⟩ := CA Tryd.underlying74 h
  obtain ⟨x0, h0⟩ : ∃ x, Bs (Bu w) ((cs.drop 0).take (Tryd.prog.cellsOf 9)) (F1 x) := hf 0 _ rfl (EM Tryd.underlying9)
  obtain ⟨x1, h1⟩ : ∃ x, Bs (Bu w) ((cs.drop 1).take (Tryd.prog.cellsOf 33)) ((dC 32) x) := hf 1 _ rfl (CN Tryd.underlying33 Tryd.underlying5 Kb ED)
  obtain ⟨x2, h2⟩ : ∃ x, Bs (Bu w) ((cs.drop 33).take (Tryd.prog.cellsOf 23)) ((iC .u64) x) := hf 2 _ rfl (BX Tryd.underlying23)
  obtain ⟨x3, h3⟩ : ∃ x, Bs (Bu w) ((cs.drop 34).take (Tryd.prog.cellsOf 23)) ((iC .u64) x) := hf 3 _ rfl (BX Tryd.underlying23)
  rw [MJ] at h0
  rw [ED] at h1
  rw [Gi] at h2
  rw [Gi] at h3
  exact ⟨⟨x0, x1, x2, x3⟩, CR 0 _ h0 (CR _ _ h1 (CR _ _ h2 (CR _ _ h3 (G3 (hl.trans Ng)))))⟩
def Aq.W (x : Aq) : Prop := (x.Bb.length ≤ Bw) ∧ (x.EE.length = 32) ∧ (Db .u64 x.Dh) ∧ (Db .u64 x.Di)
theorem Aq.wf {Φ : BW} {cs : List Value} {x : Aq} (h : Bs Φ cs (Aq.ck x)) : Aq.W x := by
  obtain ⟨⟨_, g0⟩, _, k0⟩ := BK h
  obtain ⟨⟨_, g1⟩, _, k1⟩ := BK k0
  obtain ⟨⟨_, g2⟩, _, k2⟩ := BK k1
  obtain ⟨⟨_, g3⟩, _, k3⟩ := BK k2
  exact ⟨GS _ _ _ g0, DI _ _ _ g1, C5 _ _ _ g2, C5 _ _ _ g3⟩
theorem Aq.G9 : ∀ (Φ : BW) (cs : List Value) (x : Aq), Bs Φ cs (Aq.ck x) → Aq.W x := fun _ _ _ h => Aq.wf h
theorem Of : Tryd.prog.cellsOf 24 = 1 := by kernel_rfl
theorem Ox : Tryd.prog.cellsOf 3 = 1 := by kernel_rfl
theorem Nh : Tryd.prog.cellsOf 48 = 35 := by kernel_rfl
theorem Ap.opens : DY Tryd.prog 48 Ap.ck := by
  intro H enc w base sp held fuel cs r h
  obtain ⟨hl, hf⟩ := CA Tryd.underlying48 h
  obtain ⟨x0, h0⟩ : ∃ x, Bs (Bu w) ((cs.drop 0).take (Tryd.prog.cellsOf 3)) ((iC .i64) x) := hf 0 _ rfl (BX Tryd.underlying3)
  obtain ⟨x1, h1⟩ : ∃ x, Bs (Bu w) ((cs.drop 1).take (Tryd.prog.cellsOf 9)) (F1 x) := hf 1 _ rfl (EM Tryd.underlying9)
  obtain ⟨x2, h2⟩ : ∃ x, Bs (Bu w) ((cs.drop 2).take (Tryd.prog.cellsOf 23)) ((iC .u64) x) := hf 2 _ rfl (BX Tryd.underlying23)
  obtain ⟨x3, h3⟩ : ∃ x, Bs (Bu w) ((cs.drop 3).take (Tryd.prog.cellsOf 33)) ((dC 32) x) := hf 3 _ rfl (CN Tryd.underlying33 Tryd.underlying5 Kb ED)
  rw [Ox] at h0
  rw [MJ] at h1
  rw [Gi] at h2
  rw [ED] at h3
  exact ⟨⟨x0, x1, x2, x3⟩, CR 0 _ h0 (CR _ _ h1 (CR _ _ h2 (CR _ _ h3 (G3 (hl.trans Nh)))))⟩
def Ap.W (x : Ap) : Prop := (Db .i64 x.Bv) ∧ (x.Bb.length ≤ Bw) ∧ (Db .u64 x.BB) ∧ (x.BH.length = 32)
theorem Ap.wf {Φ : BW} {cs : List Value} {x : Ap} (h : Bs Φ cs (Ap.ck x)) : Ap.W x := by
  obtain ⟨⟨_, g0⟩, _, k0⟩ := BK h
  obtain ⟨⟨_, g1⟩, _, k1⟩ := BK k0
  obtain ⟨⟨_, g2⟩, _, k2⟩ := BK k1
  obtain ⟨⟨_, g3⟩, _, k3⟩ := BK k2
  exact ⟨C5 _ _ _ g0, GS _ _ _ g1, C5 _ _ _ g2, DI _ _ _ g3⟩
theorem Ap.G9 : ∀ (Φ : BW) (cs : List Value) (x : Ap), Bs Φ cs (Ap.ck x) → Ap.W x := fun _ _ _ h => Ap.wf h
theorem Oe : Tryd.prog.cellsOf 25 = 1 := by kernel_rfl
theorem No : Tryd.prog.cellsOf 27 = 5 := by kernel_rfl
theorem Bo.opens : DY Tryd.prog 27 Bo.ck := by
  intro H enc w base sp held fuel cs r h
  obtain ⟨hl, hf⟩ := CA Tryd.underlying27 h
  obtain ⟨x0, h0⟩ : ∃ x, Bs (Bu w) ((cs.drop 0).take (Tryd.prog.cellsOf 23)) ((iC .u64) x) := hf 0 _ rfl (BX Tryd.underlying23)
  obtain ⟨x1, h1⟩ : ∃ x, Bs (Bu w) ((cs.drop 1).take (Tryd.prog.cellsOf 23)) ((iC .u64) x) := hf 1 _ rfl (BX Tryd.underlying23)
  obtain ⟨x2, h2⟩ : ∃ x, Bs (Bu w) ((cs.drop 2).take (Tryd.prog.cellsOf 23)) ((iC .u64) x) := hf 2 _ rfl (BX Tryd.underlying23)
  obtain ⟨x3, h3⟩ : ∃ x, Bs (Bu w) ((cs.drop 3).take (Tryd.prog.cellsOf 24)) ((Kh Aq.ck) x) := hf 3 _ rfl (Dk Tryd.underlying24 Aq.opens Ng Aq.lens (by decide))
  obtain ⟨x4, h4⟩ : ∃ x, Bs (Bu w) ((cs.drop 4).take (Tryd.prog.cellsOf 25)) ((Kh Ap.ck) x) := hf 4 _ rfl (Dk Tryd.underlying25 Ap.opens Nh Ap.lens (by decide))
  rw [Gi] at h0
  rw [Gi] at h1
  rw [Gi] at h2
  rw [Of] at h3
  rw [Oe] at h4
  exact ⟨⟨x0, x1, x2, x3, x4⟩, CR 0 _ h0 (CR _ _ h1 (CR _ _ h2 (CR _ _ h3 (CR _ _ h4 (G3 (hl.trans No))))))⟩
def Bo.W (x : Bo) : Prop := (Db .u64 x.AR) ∧ (Db .u64 x.A6) ∧ (Db .u64 x.Bn) ∧ (x.Ao.length ≤ Bw ∧ ∀ y ∈ x.Ao, Aq.W y) ∧ (x.AD.length ≤ Bw ∧ ∀ y ∈ x.AD, Ap.W y)
theorem Bo.wf {Φ : BW} {cs : List Value} {x : Bo} (h : Bs Φ cs (Bo.ck x)) : Bo.W x := by
  obtain ⟨⟨_, g0⟩, _, k0⟩ := BK h
  obtain ⟨⟨_, g1⟩, _, k1⟩ := BK k0
  obtain ⟨⟨_, g2⟩, _, k2⟩ := BK k1
  obtain ⟨⟨_, g3⟩, _, k3⟩ := BK k2
  obtain ⟨⟨_, g4⟩, _, k4⟩ := BK k3
  exact ⟨C5 _ _ _ g0, C5 _ _ _ g1, C5 _ _ _ g2, (D6 Aq.G9) _ _ _ g3, (D6 Ap.G9) _ _ _ g4⟩
theorem Bo.G9 : ∀ (Φ : BW) (cs : List Value) (x : Bo), Bs Φ cs (Bo.ck x) → Bo.W x := fun _ _ _ h => Bo.wf h
theorem Nd : Tryd.prog.cellsOf 77 = 7 := by kernel_rfl
theorem Aw.opens : DY Tryd.prog 77 Aw.ck := by
  intro H enc w base sp held fuel cs r h
  obtain ⟨hl, hf⟩ := CA Tryd.underlying77 h
  obtain ⟨x0, h0⟩ : ∃ x, Bs (Bu w) ((cs.drop 0).take (Tryd.prog.cellsOf 22)) ((iC .u32) x) := hf 0 _ rfl (BX Tryd.underlying22)
  obtain ⟨x1, h1⟩ : ∃ x, Bs (Bu w) ((cs.drop 1).take (Tryd.prog.cellsOf 9)) (F1 x) := hf 1 _ rfl (EM Tryd.underlying9)
  obtain ⟨x2, h2⟩ : ∃ x, Bs (Bu w) ((cs.drop 2).take (Tryd.prog.cellsOf 23)) ((iC .u64) x) := hf 2 _ rfl (BX Tryd.underlying23)
  obtain ⟨x3, h3⟩ : ∃ x, Bs (Bu w) ((cs.drop 3).take (Tryd.prog.cellsOf 23)) ((iC .u64) x) := hf 3 _ rfl (BX Tryd.underlying23)
  obtain ⟨x4, h4⟩ : ∃ x, Bs (Bu w) ((cs.drop 4).take (Tryd.prog.cellsOf 23)) ((iC .u64) x) := hf 4 _ rfl (BX Tryd.underlying23)
  obtain ⟨x5, h5⟩ : ∃ x, Bs (Bu w) ((cs.drop 5).take (Tryd.prog.cellsOf 23)) ((iC .u64) x) := hf 5 _ rfl (BX Tryd.underlying23)
  obtain ⟨x6, h6⟩ : ∃ x, Bs (Bu w) ((cs.drop 6).take (Tryd.prog.cellsOf 23)) ((iC .u64) x) := hf 6 _ rfl (BX Tryd.underlying23)
  rw [It] at h0
  rw [MJ] at h1
  rw [Gi] at h2
  rw [Gi] at h3
  rw [Gi] at h4
  rw [Gi] at h5
  rw [Gi] at h6
  exact ⟨⟨x0, x1, x2, x3, x4, x5, x6⟩, CR 0 _ h0 (CR _ _ h1 (CR _ _ h2 (CR _ _ h3 (CR _ _ h4 (CR _ _ h5 (CR _ _ h6 (G3 (hl.trans Nd))))))))⟩
def Aw.W (x : Aw) : Prop := (Db .u32 x.Bp) ∧ (x.Bb.length ≤ Bw) ∧ (Db .u64 x.Dq) ∧ (Db .u64 x.BP) ∧ (Db .u64 x.Bx) ∧ (Db .u64 x.BO) ∧ (Db .u64 x.BQ)
theorem Aw.wf {Φ : BW} {cs : List Value} {x : Aw} (h : Bs Φ cs (Aw.ck x)) : Aw.W x := by
  obtain ⟨⟨_, g0⟩, _, k0⟩ := BK h
  obtain ⟨⟨_, g1⟩, _, k1⟩ := BK k0
  obtain ⟨⟨_, g2⟩, _, k2⟩ := BK k1
  obtain ⟨⟨_, g3⟩, _, k3⟩ := BK k2
  obtain ⟨⟨_, g4⟩, _, k4⟩ := BK k3
  obtain ⟨⟨_, g5⟩, _, k5⟩ := BK k4
  obtain ⟨⟨_, g6⟩, _, k6⟩ := BK k5
  exact ⟨C5 _ _ _ g0, GS _ _ _ g1, C5 _ _ _ g2, C5 _ _ _ g3, C5 _ _ _ g4, C5 _ _ _ g5, C5 _ _ _ g6⟩
theorem Aw.G9 : ∀ (Φ : BW) (cs : List Value) (x : Aw), Bs Φ cs (Aw.ck x) → Aw.W x := fun _ _ _ h => Aw.wf h
theorem Od : Tryd.prog.cellsOf 28 = 1 := by kernel_rfl
theorem Nc : Tryd.prog.cellsOf 81 = 4 := by kernel_rfl
theorem Ar.opens : DY Tryd.prog 81 Ar.ck := by
  intro H enc w base sp held fuel cs r h
  obtain ⟨hl, hf⟩ := CA Tryd.underlying81 h
  obtain ⟨x0, h0⟩ : ∃ x, Bs (Bu w) ((cs.drop 0).take (Tryd.prog.cellsOf 22)) ((iC .u32) x) := hf 0 _ rfl (BX Tryd.underlying22)
  obtain ⟨x1, h1⟩ : ∃ x, Bs (Bu w) ((cs.drop 1).take (Tryd.prog.cellsOf 9)) (F1 x) := hf 1 _ rfl (EM Tryd.underlying9)
  obtain ⟨x2, h2⟩ : ∃ x, Bs (Bu w) ((cs.drop 2).take (Tryd.prog.cellsOf 9)) (F1 x) := hf 2 _ rfl (EM Tryd.underlying9)
  obtain ⟨x3, h3⟩ : ∃ x, Bs (Bu w) ((cs.drop 3).take (Tryd.prog.cellsOf 23)) ((iC .u64) x) := hf 3 _ rfl (BX Tryd.underlying23)
  rw [It] at h0
  rw [MJ] at h1
  rw [MJ] at h2
  rw [Gi] at h3
  exact ⟨⟨x0, x1, x2, x3⟩, CR 0 _ h0 (CR _ _ h1 (CR _ _ h2 (CR _ _ h3 (G3 (hl.trans Nc)))))⟩
def Ar.W (x : Ar) : Prop := (Db .u32 x.Bp) ∧ (x.Cq.length ≤ Bw) ∧ (x.Cr.length ≤ Bw) ∧ (Db .u64 x.Ct)
theorem Ar.wf {Φ : BW} {cs : List Value} {x : Ar} (h : Bs Φ cs (Ar.ck x)) : Ar.W x := by
  obtain ⟨⟨_, g0⟩, _, k0⟩ := BK h
  obtain ⟨⟨_, g1⟩, _, k1⟩ := BK k0
  obtain ⟨⟨_, g2⟩, _, k2⟩ := BK k1
  obtain ⟨⟨_, g3⟩, _, k3⟩ := BK k2
  exact ⟨C5 _ _ _ g0, GS _ _ _ g1, GS _ _ _ g2, C5 _ _ _ g3⟩
theorem Ar.G9 : ∀ (Φ : BW) (cs : List Value) (x : Ar), Bs Φ cs (Ar.ck x) → Ar.W x := fun _ _ _ h => Ar.wf h
theorem Oc : Tryd.prog.cellsOf 29 = 1 := by kernel_rfl
theorem Nn : Tryd.prog.cellsOf 31 = 2 := by kernel_rfl
theorem Br.opens : DY Tryd.prog 31 Br.ck := by
  intro H enc w base sp held fuel cs r h
  obtain ⟨hl, hf⟩ := CA Tryd.underlying31 h
  obtain ⟨x0, h0⟩ : ∃ x, Bs (Bu w) ((cs.drop 0).take (Tryd.prog.cellsOf 28)) ((Kh Aw.ck) x) := hf 0 _ rfl (Dk Tryd.underlying28 Aw.opens Nd Aw.lens (by decide))
  obtain ⟨x1, h1⟩ : ∃ x, Bs (Bu w) ((cs.drop 1).take (Tryd.prog.cellsOf 29)) ((Kh Ar.ck) x) := hf 1 _ rfl (Dk Tryd.underlying29 Ar.opens Nc Ar.lens (by decide))
  rw [Od] at h0
  rw [Oc] at h1
  exact ⟨⟨x0, x1⟩, CR 0 _ h0 (CR _ _ h1 (G3 (hl.trans Nn)))⟩
def Br.W (x : Br) : Prop := (x.At.length ≤ Bw ∧ ∀ y ∈ x.At, Aw.W y) ∧ (x.Am.length ≤ Bw ∧ ∀ y ∈ x.Am, Ar.W y)
theorem Br.wf {Φ : BW} {cs : List Value} {x : Br} (h : Bs Φ cs (Br.ck x)) : Br.W x := by
  obtain ⟨⟨_, g0⟩, _, k0⟩ := BK h
  obtain ⟨⟨_, g1⟩, _, k1⟩ := BK k0
  exact ⟨(D6 Aw.G9) _ _ _ g0, (D6 Ar.G9) _ _ _ g1⟩
theorem Br.G9 : ∀ (Φ : BW) (cs : List Value) (x : Br), Bs Φ cs (Br.ck x) → Br.W x := fun _ _ _ h => Br.wf h
theorem Nl : Tryd.prog.cellsOf 34 = 1024 := by kernel_rfl
theorem Nk : Tryd.prog.cellsOf 36 = 1025 := by kernel_rfl
theorem BE.opens : DY Tryd.prog 36 BE.ck := by
  intro H enc w base sp held fuel cs r h
  obtain ⟨hl, hf⟩ := CA Tryd.underlying36 h
  obtain ⟨x0, h0⟩ : ∃ x, Bs (Bu w) ((cs.drop 0).take (Tryd.prog.cellsOf 22)) ((iC .u32) x) := hf 0 _ rfl (BX Tryd.underlying22)
  obtain ⟨x1, h1⟩ : ∃ x, Bs (Bu w) ((cs.drop 1).take (Tryd.prog.cellsOf 34)) ((fun l => [A5 32 32 (dC 32) (AY 32) l]) x) := hf 1 _ rfl (J5 Tryd.underlying34 (CN Tryd.underlying33 Tryd.underlying5 Kb ED) ED (Nl.trans rfl))
  rw [It] at h0
  rw [Nl] at h1
  exact ⟨⟨x0, x1⟩, CR 0 _ h0 (CR _ _ h1 (G3 (hl.trans Nk)))⟩
def BE.W (x : BE) : Prop := (Db .u32 x.A1) ∧ (x.AI.length = 32 ∧ ∀ y ∈ x.AI, y.length = 32)
theorem BE.wf {Φ : BW} {cs : List Value} {x : BE} (h : Bs Φ cs (BE.ck x)) : BE.W x := by
  obtain ⟨⟨_, g0⟩, _, k0⟩ := BK h
  obtain ⟨⟨_, g1⟩, _, k1⟩ := BK k0
  exact ⟨C5 _ _ _ g0, (Mc DI) _ _ _ g1⟩
theorem BE.G9 : ∀ (Φ : BW) (cs : List Value) (x : BE), Bs Φ cs (BE.ck x) → BE.W x := fun _ _ _ h => BE.wf h
theorem Mz : Tryd.prog.cellsOf 37 = 1 := by kernel_rfl
theorem L2 : Tryd.prog.cellsOf 186 = 2 := by kernel_rfl
theorem AA.opens : DY Tryd.prog 186 AA.ck := by
  intro H enc w base sp held fuel cs r h
  obtain ⟨hl, hf⟩ := CA Tryd.underlying186 h
  obtain ⟨x0, h0⟩ : ∃ x, Bs (Bu w) ((cs.drop 0).take (Tryd.prog.cellsOf 22)) ((iC .u32) x) := hf 0 _ rfl (BX Tryd.underlying22)
  obtain ⟨x1, h1⟩ : ∃ x, Bs (Bu w) ((cs.drop 1).take (Tryd.prog.cellsOf 22)) ((iC .u32) x) := hf 1 _ rfl (BX Tryd.underlying22)
  rw [It] at h0
  rw [It] at h1
  exact ⟨⟨x0, x1⟩, CR 0 _ h0 (CR _ _ h1 (G3 (hl.trans L2)))⟩
def AA.W (x : AA) : Prop := (Db .u32 x.M7) ∧ (Db .u32 x.KY)
theorem AA.wf {Φ : BW} {cs : List Value} {x : AA} (h : Bs Φ cs (AA.ck x)) : AA.W x := by
  obtain ⟨⟨_, g0⟩, _, k0⟩ := BK h
  obtain ⟨⟨_, g1⟩, _, k1⟩ := BK k0
  exact ⟨C5 _ _ _ g0, C5 _ _ _ g1⟩
theorem AA.G9 : ∀ (Φ : BW) (cs : List Value) (x : AA), Bs Φ cs (AA.ck x) → AA.W x := fun _ _ _ h => AA.wf h
theorem Ob : Tryd.prog.cellsOf 38 = 1 := by kernel_rfl
theorem Oa : Tryd.prog.cellsOf 4 = 1 := by kernel_rfl
theorem Nj : Tryd.prog.cellsOf 40 = 1095 := by kernel_rfl
theorem BA.opens : DY Tryd.prog 40 BA.ck := by
  intro H enc w base sp held fuel cs r h
  obtain ⟨hl, hf⟩ := CA Tryd.underlying40 h
  obtain ⟨x0, h0⟩ : ∃ x, Bs (Bu w) ((cs.drop 0).take (Tryd.prog.cellsOf 22)) ((iC .u32) x) := hf 0 _ rfl (BX Tryd.underlying22)
  obtain ⟨x1, h1⟩ : ∃ x, Bs (Bu w) ((cs.drop 1).take (Tryd.prog.cellsOf 33)) ((dC 32) x) := hf 1 _ rfl (CN Tryd.underlying33 Tryd.underlying5 Kb ED)
  obtain ⟨x2, h2⟩ : ∃ x, Bs (Bu w) ((cs.drop 33).take (Tryd.prog.cellsOf 36)) (BE.ck x) := hf 2 _ rfl BE.opens
  obtain ⟨x3, h3⟩ : ∃ x, Bs (Bu w) ((cs.drop 1058).take (Tryd.prog.cellsOf 37)) ((Kh (dC 32)) x) := hf 3 _ rfl (Dk Tryd.underlying37 (CN Tryd.underlying33 Tryd.underlying5 Kb ED) ED (AY 32) (by decide))
  obtain ⟨x4, h4⟩ : ∃ x, Bs (Bu w) ((cs.drop 1059).take (Tryd.prog.cellsOf 37)) ((Kh (dC 32)) x) := hf 4 _ rfl (Dk Tryd.underlying37 (CN Tryd.underlying33 Tryd.underlying5 Kb ED) ED (AY 32) (by decide))
  obtain ⟨x5, h5⟩ : ∃ x, Bs (Bu w) ((cs.drop 1060).take (Tryd.prog.cellsOf 33)) ((dC 32) x) := hf 5 _ rfl (CN Tryd.underlying33 Tryd.underlying5 Kb ED)
  obtain ⟨x6, h6⟩ : ∃ x, Bs (Bu w) ((cs.drop 1092).take (Tryd.prog.cellsOf 38)) ((Kh AA.ck) x) := hf 6 _ rfl (Dk Tryd.underlying38 AA.opens L2 AA.lens (by decide))
  obtain ⟨x7, h7⟩ : ∃ x, Bs (Bu w) ((cs.drop 1093).take (Tryd.prog.cellsOf 23)) ((iC .u64) x) := hf 7 _ rfl (BX Tryd.underlying23)
  obtain ⟨x8, h8⟩ : ∃ x, Bs (Bu w) ((cs.drop 1094).take (Tryd.prog.cellsOf 4)) (Nz x) := hf 8 _ rfl (Gd Tryd.underlying4)
  rw [It] at h0
  rw [ED] at h1
  rw [Nk] at h2
  rw [Mz] at h3
  rw [Mz] at h4
  rw [ED] at h5
  rw [Ob] at h6
  rw [Gi] at h7
  rw [Oa] at h8
  exact ⟨⟨x0, x1, x2, x3, x4, x5, x6, x7, x8⟩, CR 0 _ h0 (CR _ _ h1 (CR _ _ h2 (CR _ _ h3 (CR _ _ h4 (CR _ _ h5 (CR _ _ h6 (CR _ _ h7 (CR _ _ h8 (G3 (hl.trans Nj))))))))))⟩
def BA.W (x : BA) : Prop := (Db .u32 x.AB) ∧ (x.As.length = 32) ∧ (BE.W x.AJ) ∧ (x.AP.length ≤ Bw ∧ ∀ y ∈ x.AP, y.length = 32) ∧ (x.AW.length ≤ Bw ∧ ∀ y ∈ x.AW, y.length = 32) ∧ (x.Aj.length = 32) ∧ (x.AS.length ≤ Bw ∧ ∀ y ∈ x.AS, AA.W y) ∧ (Db .u64 x.A8)
theorem BA.wf {Φ : BW} {cs : List Value} {x : BA} (h : Bs Φ cs (BA.ck x)) : BA.W x := by
  obtain ⟨⟨_, g0⟩, _, k0⟩ := BK h
  obtain ⟨⟨_, g1⟩, _, k1⟩ := BK k0
  obtain ⟨⟨_, g2⟩, _, k2⟩ := Gl (K := BE.ck x.AJ) k1
  obtain ⟨⟨_, g3⟩, _, k3⟩ := BK k2
  obtain ⟨⟨_, g4⟩, _, k4⟩ := BK k3
  obtain ⟨⟨_, g5⟩, _, k5⟩ := BK k4
  obtain ⟨⟨_, g6⟩, _, k6⟩ := BK k5
  obtain ⟨⟨_, g7⟩, _, k7⟩ := BK k6
  obtain ⟨⟨_, g8⟩, _, k8⟩ := BK k7
  exact ⟨C5 _ _ _ g0, DI _ _ _ g1, BE.G9 _ _ _ g2, (D6 DI) _ _ _ g3, (D6 DI) _ _ _ g4, DI _ _ _ g5, (D6 AA.G9) _ _ _ g6, C5 _ _ _ g7⟩
theorem BA.G9 : ∀ (Φ : BW) (cs : List Value) (x : BA), Bs Φ cs (BA.ck x) → BA.W x := fun _ _ _ h => BA.wf h
theorem L1 : Tryd.prog.cellsOf 188 = 33 := by kernel_rfl
theorem Ay.opens : DY Tryd.prog 188 Ay.ck := by
  intro H enc w base sp held fuel cs r h
  obtain ⟨hl, hf⟩ := CA Tryd.underlying188 h
  obtain ⟨x0, h0⟩ : ∃ x, Bs (Bu w) ((cs.drop 0).take (Tryd.prog.cellsOf 33)) ((dC 32) x) := hf 0 _ rfl (CN Tryd.underlying33 Tryd.underlying5 Kb ED)
  obtain ⟨x1, h1⟩ : ∃ x, Bs (Bu w) ((cs.drop 32).take (Tryd.prog.cellsOf 23)) ((iC .u64) x) := hf 1 _ rfl (BX Tryd.underlying23)
  rw [ED] at h0
  rw [Gi] at h1
  exact ⟨⟨x0, x1⟩, CR 0 _ h0 (CR _ _ h1 (G3 (hl.trans L1)))⟩
def Ay.W (x : Ay) : Prop := (x.Eu.length = 32) ∧ (Db .u64 x.M8)
theorem Ay.wf {Φ : BW} {cs : List Value} {x : Ay} (h : Bs Φ cs (Ay.ck x)) : Ay.W x := by
  obtain ⟨⟨_, g0⟩, _, k0⟩ := BK h
  obtain ⟨⟨_, g1⟩, _, k1⟩ := BK k0
  exact ⟨DI _ _ _ g0, C5 _ _ _ g1⟩
theorem Ay.G9 : ∀ (Φ : BW) (cs : List Value) (x : Ay), Bs Φ cs (Ay.ck x) → Ay.W x := fun _ _ _ h => Ay.wf h
theorem N9 : Tryd.prog.cellsOf 41 = 1 := by kernel_rfl
theorem Nb : Tryd.prog.cellsOf 85 = 65 := by kernel_rfl
theorem Av.opens : DY Tryd.prog 85 Av.ck := by
  intro H enc w base sp held fuel cs r h
  obtain ⟨hl, hf⟩ := CA Tryd.underlying85 h
  obtain ⟨x0, h0⟩ : ∃ x, Bs (Bu w) ((cs.drop 0).take (Tryd.prog.cellsOf 33)) ((dC 32) x) := hf 0 _ rfl (CN Tryd.underlying33 Tryd.underlying5 Kb ED)
  obtain ⟨x1, h1⟩ : ∃ x, Bs (Bu w) ((cs.drop 32).take (Tryd.prog.cellsOf 3)) ((iC .i64) x) := hf 1 _ rfl (BX Tryd.underlying3)
  obtain ⟨x2, h2⟩ : ∃ x, Bs (Bu w) ((cs.drop 33).take (Tryd.prog.cellsOf 33)) ((dC 32) x) := hf 2 _ rfl (CN Tryd.underlying33 Tryd.underlying5 Kb ED)
  rw [ED] at h0
  rw [Ox] at h1
  rw [ED] at h2
  exact ⟨⟨x0, x1, x2⟩, CR 0 _ h0 (CR _ _ h1 (CR _ _ h2 (G3 (hl.trans Nb))))⟩
def Av.W (x : Av) : Prop := (x.E7.length = 32) ∧ (Db .i64 x.Dc) ∧ (x.Eu.length = 32)
theorem Av.wf {Φ : BW} {cs : List Value} {x : Av} (h : Bs Φ cs (Av.ck x)) : Av.W x := by
  obtain ⟨⟨_, g0⟩, _, k0⟩ := BK h
  obtain ⟨⟨_, g1⟩, _, k1⟩ := BK k0
  obtain ⟨⟨_, g2⟩, _, k2⟩ := BK k1
  exact ⟨DI _ _ _ g0, C5 _ _ _ g1, DI _ _ _ g2⟩
theorem Av.G9 : ∀ (Φ : BW) (cs : List Value) (x : Av), Bs Φ cs (Av.ck x) → Av.W x := fun _ _ _ h => Av.wf h
theorem N8 : Tryd.prog.cellsOf 42 = 1 := by kernel_rfl
theorem Ni : Tryd.prog.cellsOf 44 = 72 := by kernel_rfl
theorem Bl.opens : DY Tryd.prog 44 Bl.ck := by
  intro H enc w base sp held fuel cs r h
  obtain ⟨hl, hf⟩ := CA Tryd.underlying44 h
  obtain ⟨x0, h0⟩ : ∃ x, Bs (Bu w) ((cs.drop 0).take (Tryd.prog.cellsOf 22)) ((iC .u32) x) := hf 0 _ rfl (BX Tryd.underlying22)
  obtain ⟨x1, h1⟩ : ∃ x, Bs (Bu w) ((cs.drop 1).take (Tryd.prog.cellsOf 22)) ((iC .u32) x) := hf 1 _ rfl (BX Tryd.underlying22)
  obtain ⟨x2, h2⟩ : ∃ x, Bs (Bu w) ((cs.drop 2).take (Tryd.prog.cellsOf 33)) ((dC 32) x) := hf 2 _ rfl (CN Tryd.underlying33 Tryd.underlying5 Kb ED)
  obtain ⟨x3, h3⟩ : ∃ x, Bs (Bu w) ((cs.drop 34).take (Tryd.prog.cellsOf 37)) ((Kh (dC 32)) x) := hf 3 _ rfl (Dk Tryd.underlying37 (CN Tryd.underlying33 Tryd.underlying5 Kb ED) ED (AY 32) (by decide))
  obtain ⟨x4, h4⟩ : ∃ x, Bs (Bu w) ((cs.drop 35).take (Tryd.prog.cellsOf 23)) ((iC .u64) x) := hf 4 _ rfl (BX Tryd.underlying23)
  obtain ⟨x5, h5⟩ : ∃ x, Bs (Bu w) ((cs.drop 36).take (Tryd.prog.cellsOf 33)) ((dC 32) x) := hf 5 _ rfl (CN Tryd.underlying33 Tryd.underlying5 Kb ED)
  obtain ⟨x6, h6⟩ : ∃ x, Bs (Bu w) ((cs.drop 68).take (Tryd.prog.cellsOf 41)) ((Kh Ay.ck) x) := hf 6 _ rfl (Dk Tryd.underlying41 Ay.opens L1 Ay.lens (by decide))
  obtain ⟨x7, h7⟩ : ∃ x, Bs (Bu w) ((cs.drop 69).take (Tryd.prog.cellsOf 42)) ((Kh Av.ck) x) := hf 7 _ rfl (Dk Tryd.underlying42 Av.opens Nb Av.lens (by decide))
  obtain ⟨x8, h8⟩ : ∃ x, Bs (Bu w) ((cs.drop 70).take (Tryd.prog.cellsOf 4)) (Nz x) := hf 8 _ rfl (Gd Tryd.underlying4)
  obtain ⟨x9, h9⟩ : ∃ x, Bs (Bu w) ((cs.drop 71).take (Tryd.prog.cellsOf 4)) (Nz x) := hf 9 _ rfl (Gd Tryd.underlying4)
  rw [It] at h0
  rw [It] at h1
  rw [ED] at h2
  rw [Mz] at h3
  rw [Gi] at h4
  rw [ED] at h5
  rw [N9] at h6
  rw [N8] at h7
  rw [Oa] at h8
  rw [Oa] at h9
  exact ⟨⟨x0, x1, x2, x3, x4, x5, x6, x7, x8, x9⟩, CR 0 _ h0 (CR _ _ h1 (CR _ _ h2 (CR _ _ h3 (CR _ _ h4 (CR _ _ h5 (CR _ _ h6 (CR _ _ h7 (CR _ _ h8 (CR _ _ h9 (G3 (hl.trans Ni)))))))))))⟩
def Bl.W (x : Bl) : Prop := (Db .u32 x.AB) ∧ (Db .u32 x.A7) ∧ (x.As.length = 32) ∧ (x.AG.length ≤ Bw ∧ ∀ y ∈ x.AG, y.length = 32) ∧ (Db .u64 x.AQ) ∧ (x.Aj.length = 32) ∧ (x.AT.length ≤ Bw ∧ ∀ y ∈ x.AT, Ay.W y) ∧ (x.Az.length ≤ Bw ∧ ∀ y ∈ x.Az, Av.W y)
theorem Bl.wf {Φ : BW} {cs : List Value} {x : Bl} (h : Bs Φ cs (Bl.ck x)) : Bl.W x := by
  obtain ⟨⟨_, g0⟩, _, k0⟩ := BK h
  obtain ⟨⟨_, g1⟩, _, k1⟩ := BK k0
  obtain ⟨⟨_, g2⟩, _, k2⟩ := BK k1
  obtain ⟨⟨_, g3⟩, _, k3⟩ := BK k2
  obtain ⟨⟨_, g4⟩, _, k4⟩ := BK k3
  obtain ⟨⟨_, g5⟩, _, k5⟩ := BK k4
  obtain ⟨⟨_, g6⟩, _, k6⟩ := BK k5
  obtain ⟨⟨_, g7⟩, _, k7⟩ := BK k6
  obtain ⟨⟨_, g8⟩, _, k8⟩ := BK k7
  obtain ⟨⟨_, g9⟩, _, k9⟩ := BK k8
  exact ⟨C5 _ _ _ g0, C5 _ _ _ g1, DI _ _ _ g2, (D6 DI) _ _ _ g3, C5 _ _ _ g4, DI _ _ _ g5, (D6 Ay.G9) _ _ _ g6, (D6 Av.G9) _ _ _ g7⟩
theorem Bl.G9 : ∀ (Φ : BW) (cs : List Value) (x : Bl), Bs Φ cs (Bl.ck x) → Bl.W x := fun _ _ _ h => Bl.wf h
theorem N7 : Tryd.prog.cellsOf 46 = 1176 := by kernel_rfl
theorem AK.opens : DY Tryd.prog 46 AK.ck := by
  intro H enc w base sp held fuel cs r h
  obtain ⟨hl, hf⟩ := CA Tryd.underlying46 h
  obtain ⟨x0, h0⟩ : ∃ x, Bs (Bu w) ((cs.drop 0).take (Tryd.prog.cellsOf 22)) ((iC .u32) x) := hf 0 _ rfl (BX Tryd.underlying22)
  obtain ⟨x1, h1⟩ : ∃ x, Bs (Bu w) ((cs.drop 1).take (Tryd.prog.cellsOf 27)) (Bo.ck x) := hf 1 _ rfl Bo.opens
  obtain ⟨x2, h2⟩ : ∃ x, Bs (Bu w) ((cs.drop 6).take (Tryd.prog.cellsOf 31)) (Br.ck x) := hf 2 _ rfl Br.opens
  obtain ⟨x3, h3⟩ : ∃ x, Bs (Bu w) ((cs.drop 8).take (Tryd.prog.cellsOf 40)) (BA.ck x) := hf 3 _ rfl BA.opens
  obtain ⟨x4, h4⟩ : ∃ x, Bs (Bu w) ((cs.drop 1103).take (Tryd.prog.cellsOf 44)) (Bl.ck x) := hf 4 _ rfl Bl.opens
  obtain ⟨x5, h5⟩ : ∃ x, Bs (Bu w) ((cs.drop 1175).take (Tryd.prog.cellsOf 9)) (F1 x) := hf 5 _ rfl (EM Tryd.underlying9)
  rw [It] at h0
  rw [No] at h1
  rw [Nn] at h2
  rw [Nj] at h3
  rw [Ni] at h4
  rw [MJ] at h5
  exact ⟨⟨x0, x1, x2, x3, x4, x5⟩, CR 0 _ h0 (CR _ _ h1 (CR _ _ h2 (CR _ _ h3 (CR _ _ h4 (CR _ _ h5 (G3 (hl.trans N7)))))))⟩
def AK.W (x : AK) : Prop := (Db .u32 x.BS) ∧ (Bo.W x.Ae) ∧ (Br.W x.Al) ∧ (BA.W x.Ad) ∧ (Bl.W x.Aa) ∧ (x.AZ.length ≤ Bw)
theorem AK.wf {Φ : BW} {cs : List Value} {x : AK} (h : Bs Φ cs (AK.ck x)) : AK.W x := by
  obtain ⟨⟨_, g0⟩, _, k0⟩ := BK h
  obtain ⟨⟨_, g1⟩, _, k1⟩ := Gl (K := Bo.ck x.Ae) k0
  obtain ⟨⟨_, g2⟩, _, k2⟩ := Gl (K := Br.ck x.Al) k1
  obtain ⟨⟨_, g3⟩, _, k3⟩ := Gl (K := BA.ck x.Ad) k2
  obtain ⟨⟨_, g4⟩, _, k4⟩ := Gl (K := Bl.ck x.Aa) k3
  obtain ⟨⟨_, g5⟩, _, k5⟩ := BK k4
  exact ⟨C5 _ _ _ g0, Bo.G9 _ _ _ g1, Br.G9 _ _ _ g2, BA.G9 _ _ _ g3, Bl.G9 _ _ _ g4, GS _ _ _ g5⟩
theorem AK.G9 : ∀ (Φ : BW) (cs : List Value) (x : AK), Bs Φ cs (AK.ck x) → AK.W x := fun _ _ _ h => AK.wf h
def EU : Prop := ∀ (x0 : AK) (x1 : Ap), (AK.W x0) → (Ap.W x1) → Ba x0 x1 = some true
theorem F2 (plain : EU) (os : Os) (started : os.Started) (H : Type) (enc : TypeId × Value → H) :
    ReturnsInHanded {} Tryd.checked os 3 .any (fun w args => (Rows.reportChainsSpec.pre enc Tryd.prog Tryd.f3 [] false w args ∧ laidMetH Tryd.prog F7 w) ∧ sizedMet enc Tryd.prog Tryd.f3 (OpenSpec.ofChange Rows.reportChainsSpec) false w args)
      (Rows.reportChainsSpec.post enc Tryd.prog Tryd.f3 false true false false) := by
  refine returnsInHanded_of_change_and (C := Tryd.checked) (X := fun w _ => laidMetH Tryd.prog F7 w) (fun _ _ _ hh h => h.of_heap hh) MY started (by kernel_rfl) Tryd.func3
    (H5 (enc := enc) (C := Tryd.checked) (os := os) (X := fun w _ => laidMetH Tryd.prog F7 w) false (HW os) #[.agg Tryd.zeroCells46, .agg #[.int .i64 0, .string ⟨#[]⟩, .int .u64 0, .int .u8 0, .int .u8 0, .int .u8 0, .int .u8 0, .int .u8 0, .int .u8 0, .int .u8 0, .int .u8 0, .int .u8 0, .int .u8 0, .int .u8 0, .int .u8 0, .int .u8 0, .int .u8 0, .int .u8 0, .int .u8 0, .int .u8 0, .int .u8 0, .int .u8 0, .int .u8 0, .int .u8 0, .int .u8 0, .int .u8 0, .int .u8 0, .int .u8 0, .int .u8 0, .int .u8 0, .int .u8 0, .int .u8 0, .int .u8 0, .int .u8 0, .int .u8 0]] 8 rfl (World.shaped_of_RefB (by kernel_rfl) (by kernel_rfl)) (fun base => okInput (by kernel_rfl) Tryd.func3 (by kernel_rfl) (by kernel_rfl) (by kernel_rfl) (by kernel_rfl) (fun j t v ht hv => by
      have ht : (#[46, 48] : Array TypeId)[j]? = some t := by rw [← Tryd.params3]; exact ht
      match j, ht, hv with
      | 0, ht, hv => obtain rfl := Option.some.inj ht; obtain rfl := Option.some.inj hv; exact Je Tryd.underlying46 (by kernel_rfl) (by kernel_rfl)
      | 1, ht, hv => obtain rfl := Option.some.inj ht; obtain rfl := Option.some.inj hv; exact Value.okWide_of_okWideB (by kernel_rfl)
      | j + 2, ht, hv => simp at ht)) (by kernel_rfl) (by kernel_rfl) (K1 os _)) ?_
  intro W base args ds gs before hval0 hW _ _ hL _
  have hval : ∀ (j : Nat) t v, Tryd.f3.params[j]? = some t → args[j]? = some v → Value.okWide Tryd.prog W .any base t v := hval0
  have hW' := hW
  obtain ⟨p, q, hA0, hV, rfl, hfz, hnd⟩ := hW
  have hA : DataW.TrodAll enc Tryd.prog W 0 (fun _ => true) true Tryd.f3.params.toList args.toList ds p := hA0
  rw [Tryd.params3] at hA hval
  obtain ⟨v0, vs0, d0, ds0, p0, q0, hargs, rfl, rfl, h0, r0⟩ := trodAll_cons hA
  obtain ⟨v1, vs1, d1, ds1, p1, q1, rfl, rfl, rfl, h1, r1⟩ := trodAll_cons r0
  obtain ⟨rfl, rfl, rfl⟩ := trodAll_nil r1
  obtain rfl : args = #[v0, v1] := by cases args; simp_all
  obtain ⟨rfl, rfl⟩ := trodVars_none hV
  have lt0 : ∀ x ∈ p0, x.block < W.heap.size := by obtain ⟨m, hm⟩ := h0; exact DataW.trod_lt m _ _ _ hm
  have lt1 : ∀ x ∈ p1, x.block < W.heap.size := by obtain ⟨m, hm⟩ := h1; exact DataW.trod_lt m _ _ _ hm
  obtain ⟨x0, hx0⟩ := HT AK.opens h0
  obtain ⟨x1, hx1⟩ := HT Ap.opens h1
  have a0 := La (c := AK.ck) (hval 0 46 v0 rfl rfl) (by rw [Tryd.underlying46]; trivial) hx0
  have w0 := AK.G9 _ _ _ hx0
  have a1 := La (c := Ap.ck) (hval 1 48 v1 rfl rfl) (by rw [Tryd.underlying48]; trivial) hx1
  have w1 := Ap.G9 _ _ _ hx1
  clear hA0 hval0
  refine (J7 (FD (plain x0 x1 w0 w1)) (Nt hL) (args := [v0, v1]) ⟨a0, a1, trivial⟩).mono fun e W' ⟨he, bel⟩ => ?_
  subst he
  exact ⟨_, rfl, _, _, _, [], _, [], hW', trodAll_mk1 (shut_bool Tryd.underlying4 _), (trodAll_cons_mk (Below.trod laidOut (by kernel_rfl) (of_decide_eq_true (by kernel_rfl)) h0 bel lt0) (trodAll_cons_mk (Below.trod laidOut (by kernel_rfl) (of_decide_eq_true (by kernel_rfl)) h1 bel lt1) trodAll_mk0)), rfl, bel.frame _, fun h => by cases h⟩
theorem Gy (plain : EU) : Rows.ReportChainsSaid :=
  OpenClaim.holds_of_wide 3 Tryd.f3 rfl rfl rfl rfl rfl rfl rfl ⟨rfl, rfl, rfl, rfl, rfl⟩ rfl rfl rfl rfl rfl (by kernel_rfl) Tryd.func3 (by kernel_rfl)
    (of_decide_eq_true (by kernel_rfl)) (by unfold Func.isWrapper; first | (rw [if_pos (by decide +kernel)]; kernel_rfl) | (rw [if_neg (by decide +kernel)]; exact ⟨rfl, rfl⟩))
    (fun os started H enc _ => F2 plain os started H enc)
theorem reportChains_card : Rows.ReportChainsCardSaid :=
  Claim7.holds_tied_plain_at .later [] [.data, .data, .data, .data, .data, .pinned] true (true, "736105a79e06cc01ce5018173cbcc754d8def431b479d4005e4d2e8275847a7f") false
    (Gy (fun x0 x1 w0 w1 => Gx x0 x1 w0.1 w0.2.1 w0.2.2.1 w0.2.2.2.1.2.2.2.2.2.1 w0.2.2.2.1.2.2.2.2.2.2.2 w0.2.2.2.2.1.1 w0.2.2.2.2.1.2.2.2.2.2.1 w1.2.2.1)) (fun _ h => by cases h) (by kernel_rfl) (fun _ h => by cases h) reportChains_row_tie rfl ⟨rfl, rfl⟩ (by kernel_rfl) rfl
    (fun f fn hf hfn => by
      obtain rfl : f = 3 := Option.some.inj ((show Tryd.prog.funcNamed "pontoon/pontoonlaw30.ReportChains" = some 3 by kernel_rfl).symm.trans hf) |>.symm
      obtain rfl : fn = Tryd.f3 := (Option.some.inj (Tryd.func3.symm.trans hfn)).symm
      exact ⟨by kernel_rfl, fun j t ht => by
        rw [Tryd.params3] at ht
        have h3 : t ∈ ([46, 48] : List TypeId) := by
          have := List.mem_of_getElem? (by simpa using ht)
          simpa using this
        simp only [List.mem_cons, List.not_mem_nil, or_false] at h3
        rcases h3 with rfl | rfl
        · exact (show Tryd.prog.wantsStandIn 46 = false by kernel_rfl)
        · exact (show Tryd.prog.wantsStandIn 48 = false by kernel_rfl)⟩)
    (by kernel_rfl)
#print axioms reportChains_card
end Go.Proofs.YtemnhknjphjpnaaDoor
