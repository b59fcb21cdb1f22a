/- pontoon/pontoonlaw30.ReportPlain: whatever the input (the listed variables as the program's text lays them), the call returns true and each argument reads afterwards as it read before: the tied card. -/
import Derived.Test.YtemnhknjphjpnaaDoorC2u
import Derived.Test.YtemnhknjphjpnaaDoorM1
import Derived.Test.YtemnhknjphjpnaaDoorP101
import Derived.SevenTiedAt
namespace Go.Proofs.YtemnhknjphjpnaaDoor
open Go Go.RowKit Go.Proofs Go.ChangeShapes Go.WideShapes Go.ChangeAt Go.WideMaps Go.WideElems
set_option maxRecDepth 100000
theorem Hw : Tryd.prog.cellsOf 22 = 1 := by kernel_rfl
theorem Fs : Tryd.prog.cellsOf 23 = 1 := by kernel_rfl
theorem Lv : Tryd.prog.cellsOf 9 = 1 := by kernel_rfl
theorem I8 : Tryd.prog.cellsOf 5 = 1 := by kernel_rfl
theorem D8 : Tryd.prog.cellsOf 33 = 32 := by kernel_rfl
theorem LV : Tryd.prog.cellsOf 74 = 35 := by kernel_rfl
theorem Ao.opens : Dq Tryd.prog 74 Ao.ck := by
  intro H enc w base sp held fuel cs r h
  obtain ⟨hl, hf⟩ := B1 Tryd.underlying74 h
  obtain ⟨x0, h0⟩ : ∃ x, Bg (Bi w) ((cs.drop 0).take (Tryd.prog.cellsOf 9)) (Fk x) := hf 0 _ rfl (Eg Tryd.underlying9)
  obtain ⟨x1, h1⟩ : ∃ x, Bg (Bi w) ((cs.drop 1).take (Tryd.prog.cellsOf 33)) ((dC 32) x) := hf 1 _ rfl (Ca Tryd.underlying33 Tryd.underlying5 I8 D8)
  obtain ⟨x2, h2⟩ : ∃ x, Bg (Bi w) ((cs.drop 33).take (Tryd.prog.cellsOf 23)) ((iC .u64) x) := hf 2 _ rfl (BD Tryd.underlying23)
  obtain ⟨x3, h3⟩ : ∃ x, Bg (Bi w) ((cs.drop 34).take (Tryd.prog.cellsOf 23)) ((iC .u64) x) := hf 3 _ rfl (BD Tryd.underlying23)
  rw [Lv] at h0
  rw [D8] at h1
  rw [Fs] at h2
  rw [Fs] at h3
  exact ⟨⟨x0, x1, x2, x3⟩, Ce 0 _ h0 (Ce _ _ h1 (Ce _ _ h2 (Ce _ _ h3 (F2 (hl.trans LV)))))⟩
def Ao.W (x : Ao) : Prop := (x.Bk.length ≤ Cp) ∧ (x.E6.length = 32) ∧ (CH .u64 x.Dw) ∧ (CH .u64 x.Dx)
theorem Ao.wf {Φ : BC} {cs : List Value} {x : Ao} (h : Bg Φ cs (Ao.ck x)) : Ao.W x := by
  obtain ⟨⟨_, g0⟩, _, k0⟩ := Bv h
  obtain ⟨⟨_, g1⟩, _, k1⟩ := Bv k0
  obtain ⟨⟨_, g2⟩, _, k2⟩ := Bv k1
  obtain ⟨⟨_, g3⟩, _, k3⟩ := Bv k2
  exact ⟨FR _ _ _ g0, C6 _ _ _ g1, Cv _ _ _ g2, Cv _ _ _ g3⟩
theorem Ao.Gd : ∀ (Φ : BC) (cs : List Value) (x : Ao), Bg Φ cs (Ao.ck x) → Ao.W x := fun _ _ _ h => Ao.wf h
theorem MJ : Tryd.prog.cellsOf 24 = 1 := by kernel_rfl
theorem MZ : Tryd.prog.cellsOf 3 = 1 := by kernel_rfl
theorem LW : Tryd.prog.cellsOf 48 = 35 := by kernel_rfl
theorem An.opens : Dq Tryd.prog 48 An.ck := by
  intro H enc w base sp held fuel cs r h
  obtain ⟨hl, hf⟩ := B1 Tryd.underlying48 h
  obtain ⟨x0, h0⟩ : ∃ x, Bg (Bi w) ((cs.drop 0).take (Tryd.prog.cellsOf 3)) ((iC .i64) x) := hf 0 _ rfl (BD Tryd.underlying3)
  obtain ⟨x1, h1⟩ : ∃ x, Bg (Bi w) ((cs.drop 1).take (Tryd.prog.cellsOf 9)) (Fk x) := hf 1 _ rfl (Eg Tryd.underlying9)
  obtain ⟨x2, h2⟩ : ∃ x, Bg (Bi w) ((cs.drop 2).take (Tryd.prog.cellsOf 23)) ((iC .u64) x) := hf 2 _ rfl (BD Tryd.underlying23)
  obtain ⟨x3, h3⟩ : ∃ x, Bg (Bi w) ((cs.drop 3).take (Tryd.prog.cellsOf 33)) ((dC 32) x) := hf 3 _ rfl (Ca Tryd.underlying33 Tryd.underlying5 I8 D8)
  rw [MZ] at h0
  rw [Lv] at h1
  rw [Fs] at h2
  rw [D8] at h3
  exact ⟨⟨x0, x1, x2, x3⟩, Ce 0 _ h0 (Ce _ _ h1 (Ce _ _ h2 (Ce _ _ h3 (F2 (hl.trans LW)))))⟩
def An.W (x : An) : Prop := (CH .i64 x.B6) ∧ (x.Bk.length ≤ Cp) ∧ (CH .u64 x.B3) ∧ (x.Cm.length = 32)
theorem An.wf {Φ : BC} {cs : List Value} {x : An} (h : Bg Φ cs (An.ck x)) : An.W x := by
  obtain ⟨⟨_, g0⟩, _, k0⟩ := Bv h
  obtain ⟨⟨_, g1⟩, _, k1⟩ := Bv k0
  obtain ⟨⟨_, g2⟩, _, k2⟩ := Bv k1
  obtain ⟨⟨_, g3⟩, _, k3⟩ := Bv k2
  exact ⟨Cv _ _ _ g0, FR _ _ _ g1, Cv _ _ _ g2, C6 _ _ _ g3⟩
theorem An.Gd : ∀ (Φ : BC) (cs : List Value) (x : An), Bg Φ cs (An.ck x) → An.W x := fun _ _ _ h => An.wf h
theorem MI : Tryd.prog.cellsOf 25 = 1 := by kernel_rfl
theorem L2 : Tryd.prog.cellsOf 27 = 5 := by kernel_rfl
theorem A7.opens : Dq Tryd.prog 27 A7.ck := by
  intro H enc w base sp held fuel cs r h
  obtain ⟨hl, hf⟩ := B1 Tryd.underlying27 h
  obtain ⟨x0, h0⟩ : ∃ x, Bg (Bi w) ((cs.drop 0).take (Tryd.prog.cellsOf 23)) ((iC .u64) x) := hf 0 _ rfl (BD Tryd.underlying23)
  obtain ⟨x1, h1⟩ : ∃ x, Bg (Bi w) ((cs.drop 1).take (Tryd.prog.cellsOf 23)) ((iC .u64) x) := hf 1 _ rfl (BD Tryd.underlying23)
  obtain ⟨x2, h2⟩ : ∃ x, Bg (Bi w) ((cs.drop 2).take (Tryd.prog.cellsOf 23)) ((iC .u64) x) := hf 2 _ rfl (BD Tryd.underlying23)
  obtain ⟨x3, h3⟩ : ∃ x, Bg (Bi w) ((cs.drop 3).take (Tryd.prog.cellsOf 24)) ((Je Ao.ck) x) := hf 3 _ rfl (CK Tryd.underlying24 Ao.opens LV Ao.lens (by decide))
  obtain ⟨x4, h4⟩ : ∃ x, Bg (Bi w) ((cs.drop 4).take (Tryd.prog.cellsOf 25)) ((Je An.ck) x) := hf 4 _ rfl (CK Tryd.underlying25 An.opens LW An.lens (by decide))
  rw [Fs] at h0
  rw [Fs] at h1
  rw [Fs] at h2
  rw [MJ] at h3
  rw [MI] at h4
  exact ⟨⟨x0, x1, x2, x3, x4⟩, Ce 0 _ h0 (Ce _ _ h1 (Ce _ _ h2 (Ce _ _ h3 (Ce _ _ h4 (F2 (hl.trans L2))))))⟩
def A7.W (x : A7) : Prop := (CH .u64 x.AO) ∧ (CH .u64 x.Bc) ∧ (CH .u64 x.Bq) ∧ (x.Ap.length ≤ Cp ∧ ∀ y ∈ x.Ap, Ao.W y) ∧ (x.AD.length ≤ Cp ∧ ∀ y ∈ x.AD, An.W y)
theorem A7.wf {Φ : BC} {cs : List Value} {x : A7} (h : Bg Φ cs (A7.ck x)) : A7.W x := by
  obtain ⟨⟨_, g0⟩, _, k0⟩ := Bv h
  obtain ⟨⟨_, g1⟩, _, k1⟩ := Bv k0
  obtain ⟨⟨_, g2⟩, _, k2⟩ := Bv k1
  obtain ⟨⟨_, g3⟩, _, k3⟩ := Bv k2
  obtain ⟨⟨_, g4⟩, _, k4⟩ := Bv k3
  exact ⟨Cv _ _ _ g0, Cv _ _ _ g1, Cv _ _ _ g2, (DA Ao.Gd) _ _ _ g3, (DA An.Gd) _ _ _ g4⟩
theorem A7.Gd : ∀ (Φ : BC) (cs : List Value) (x : A7), Bg Φ cs (A7.ck x) → A7.W x := fun _ _ _ h => A7.wf h
theorem LU : Tryd.prog.cellsOf 77 = 7 := by kernel_rfl
theorem Av.opens : Dq Tryd.prog 77 Av.ck := by
  intro H enc w base sp held fuel cs r h
  obtain ⟨hl, hf⟩ := B1 Tryd.underlying77 h
  obtain ⟨x0, h0⟩ : ∃ x, Bg (Bi w) ((cs.drop 0).take (Tryd.prog.cellsOf 22)) ((iC .u32) x) := hf 0 _ rfl (BD Tryd.underlying22)
  obtain ⟨x1, h1⟩ : ∃ x, Bg (Bi w) ((cs.drop 1).take (Tryd.prog.cellsOf 9)) (Fk x) := hf 1 _ rfl (Eg Tryd.underlying9)
  obtain ⟨x2, h2⟩ : ∃ x, Bg (Bi w) ((cs.drop 2).take (Tryd.prog.cellsOf 23)) ((iC .u64) x) := hf 2 _ rfl (BD Tryd.underlying23)
  obtain ⟨x3, h3⟩ : ∃ x, Bg (Bi w) ((cs.drop 3).take (Tryd.prog.cellsOf 23)) ((iC .u64) x) := hf 3 _ rfl (BD Tryd.underlying23)
  obtain ⟨x4, h4⟩ : ∃ x, Bg (Bi w) ((cs.drop 4).take (Tryd.prog.cellsOf 23)) ((iC .u64) x) := hf 4 _ rfl (BD Tryd.underlying23)
  obtain ⟨x5, h5⟩ : ∃ x, Bg (Bi w) ((cs.drop 5).take (Tryd.prog.cellsOf 23)) ((iC .u64) x) := hf 5 _ rfl (BD Tryd.underlying23)
  obtain ⟨x6, h6⟩ : ∃ x, Bg (Bi w) ((cs.drop 6).take (Tryd.prog.cellsOf 23)) ((iC .u64) x) := hf 6 _ rfl (BD Tryd.underlying23)
  rw [Hw] at h0
  rw [Lv] at h1
  rw [Fs] at h2
  rw [Fs] at h3
  rw [Fs] at h4
  rw [Fs] at h5
  rw [Fs] at h6
  exact ⟨⟨x0, x1, x2, x3, x4, x5, x6⟩, Ce 0 _ h0 (Ce _ _ h1 (Ce _ _ h2 (Ce _ _ h3 (Ce _ _ h4 (Ce _ _ h5 (Ce _ _ h6 (F2 (hl.trans LU))))))))⟩
def Av.W (x : Av) : Prop := (CH .u32 x.Bw) ∧ (x.Bk.length ≤ Cp) ∧ (CH .u64 x.DU) ∧ (CH .u64 x.Cc) ∧ (CH .u64 x.BI) ∧ (CH .u64 x.Cb) ∧ (CH .u64 x.Cd)
theorem Av.wf {Φ : BC} {cs : List Value} {x : Av} (h : Bg Φ cs (Av.ck x)) : Av.W x := by
  obtain ⟨⟨_, g0⟩, _, k0⟩ := Bv h
  obtain ⟨⟨_, g1⟩, _, k1⟩ := Bv k0
  obtain ⟨⟨_, g2⟩, _, k2⟩ := Bv k1
  obtain ⟨⟨_, g3⟩, _, k3⟩ := Bv k2
  obtain ⟨⟨_, g4⟩, _, k4⟩ := Bv k3
  obtain ⟨⟨_, g5⟩, _, k5⟩ := Bv k4
  obtain ⟨⟨_, g6⟩, _, k6⟩ := Bv k5
  exact ⟨Cv _ _ _ g0, FR _ _ _ g1, Cv _ _ _ g2, Cv _ _ _ g3, Cv _ _ _ g4, Cv _ _ _ g5, Cv _ _ _ g6⟩
theorem Av.Gd : ∀ (Φ : BC) (cs : List Value) (x : Av), Bg Φ cs (Av.ck x) → Av.W x := fun _ _ _ h => Av.wf h
theorem MH : Tryd.prog.cellsOf 28 = 1 := by kernel_rfl
theorem LS : Tryd.prog.cellsOf 81 = 4 := by kernel_rfl
theorem Aq.opens : Dq Tryd.prog 81 Aq.ck := by
  intro H enc w base sp held fuel cs r h
  obtain ⟨hl, hf⟩ := B1 Tryd.underlying81 h
  obtain ⟨x0, h0⟩ : ∃ x, Bg (Bi w) ((cs.drop 0).take (Tryd.prog.cellsOf 22)) ((iC .u32) x) := hf 0 _ rfl (BD Tryd.underlying22)
  obtain ⟨x1, h1⟩ : ∃ x, Bg (Bi w) ((cs.drop 1).take (Tryd.prog.cellsOf 9)) (Fk x) := hf 1 _ rfl (Eg Tryd.underlying9)
  obtain ⟨x2, h2⟩ : ∃ x, Bg (Bi w) ((cs.drop 2).take (Tryd.prog.cellsOf 9)) (Fk x) := hf 2 _ rfl (Eg Tryd.underlying9)
  obtain ⟨x3, h3⟩ : ∃ x, Bg (Bi w) ((cs.drop 3).take (Tryd.prog.cellsOf 23)) ((iC .u64) x) := hf 3 _ rfl (BD Tryd.underlying23)
  rw [Hw] at h0
  rw [Lv] at h1
  rw [Lv] at h2
  rw [Fs] at h3
  exact ⟨⟨x0, x1, x2, x3⟩, Ce 0 _ h0 (Ce _ _ h1 (Ce _ _ h2 (Ce _ _ h3 (F2 (hl.trans LS)))))⟩
def Aq.W (x : Aq) : Prop := (CH .u32 x.Bw) ∧ (x.CB.length ≤ Cp) ∧ (x.CC.length ≤ Cp) ∧ (CH .u64 x.CG)
theorem Aq.wf {Φ : BC} {cs : List Value} {x : Aq} (h : Bg Φ cs (Aq.ck x)) : Aq.W x := by
  obtain ⟨⟨_, g0⟩, _, k0⟩ := Bv h
  obtain ⟨⟨_, g1⟩, _, k1⟩ := Bv k0
  obtain ⟨⟨_, g2⟩, _, k2⟩ := Bv k1
  obtain ⟨⟨_, g3⟩, _, k3⟩ := Bv k2
  exact ⟨Cv _ _ _ g0, FR _ _ _ g1, FR _ _ _ g2, Cv _ _ _ g3⟩
theorem Aq.Gd : ∀ (Φ : BC) (cs : List Value) (x : Aq), Bg Φ cs (Aq.ck x) → Aq.W x := fun _ _ _ h => Aq.wf h
theorem MG : Tryd.prog.cellsOf 29 = 1 := by kernel_rfl
theorem L1 : Tryd.prog.cellsOf 31 = 2 := by kernel_rfl
theorem Bf.opens : Dq Tryd.prog 31 Bf.ck := by
  intro H enc w base sp held fuel cs r h
  obtain ⟨hl, hf⟩ := B1 Tryd.underlying31 h
  obtain ⟨x0, h0⟩ : ∃ x, Bg (Bi w) ((cs.drop 0).take (Tryd.prog.cellsOf 28)) ((Je Av.ck) x) := hf 0 _ rfl (CK Tryd.underlying28 Av.opens LU Av.lens (by decide))
  obtain ⟨x1, h1⟩ : ∃ x, Bg (Bi w) ((cs.drop 1).take (Tryd.prog.cellsOf 29)) ((Je Aq.ck) x) := hf 1 _ rfl (CK Tryd.underlying29 Aq.opens LS Aq.lens (by decide))
  rw [MH] at h0
  rw [MG] at h1
  exact ⟨⟨x0, x1⟩, Ce 0 _ h0 (Ce _ _ h1 (F2 (hl.trans L1)))⟩
def Bf.W (x : Bf) : Prop := (x.Au.length ≤ Cp ∧ ∀ y ∈ x.Au, Av.W y) ∧ (x.Am.length ≤ Cp ∧ ∀ y ∈ x.Am, Aq.W y)
theorem Bf.wf {Φ : BC} {cs : List Value} {x : Bf} (h : Bg Φ cs (Bf.ck x)) : Bf.W x := by
  obtain ⟨⟨_, g0⟩, _, k0⟩ := Bv h
  obtain ⟨⟨_, g1⟩, _, k1⟩ := Bv k0
  exact ⟨(DA Av.Gd) _ _ _ g0, (DA Aq.Gd) _ _ _ g1⟩
theorem Bf.Gd : ∀ (Φ : BC) (cs : List Value) (x : Bf), Bg Φ cs (Bf.ck x) → Bf.W x := fun _ _ _ h => Bf.wf h
theorem L0 : Tryd.prog.cellsOf 34 = 1024 := by kernel_rfl
theorem LZ : Tryd.prog.cellsOf 36 = 1025 := by kernel_rfl
theorem Bo.opens : Dq Tryd.prog 36 Bo.ck := by
  intro H enc w base sp held fuel cs r h
  obtain ⟨hl, hf⟩ := B1 Tryd.underlying36 h
  obtain ⟨x0, h0⟩ : ∃ x, Bg (Bi w) ((cs.drop 0).take (Tryd.prog.cellsOf 22)) ((iC .u32) x) := hf 0 _ rfl (BD Tryd.underlying22)
  obtain ⟨x1, h1⟩ : ∃ x, Bg (Bi w) ((cs.drop 1).take (Tryd.prog.cellsOf 34)) ((fun l => [Bd 32 32 (dC 32) (AV 32) l]) x) := hf 1 _ rfl (I1 Tryd.underlying34 (Ca Tryd.underlying33 Tryd.underlying5 I8 D8) D8 (L0.trans rfl))
  rw [Hw] at h0
  rw [L0] at h1
  exact ⟨⟨x0, x1⟩, Ce 0 _ h0 (Ce _ _ h1 (F2 (hl.trans LZ)))⟩
def Bo.W (x : Bo) : Prop := (CH .u32 x.AY) ∧ (x.AH.length = 32 ∧ ∀ y ∈ x.AH, y.length = 32)
theorem Bo.wf {Φ : BC} {cs : List Value} {x : Bo} (h : Bg Φ cs (Bo.ck x)) : Bo.W x := by
  obtain ⟨⟨_, g0⟩, _, k0⟩ := Bv h
  obtain ⟨⟨_, g1⟩, _, k1⟩ := Bv k0
  exact ⟨Cv _ _ _ g0, (KV C6) _ _ _ g1⟩
theorem Bo.Gd : ∀ (Φ : BC) (cs : List Value) (x : Bo), Bg Φ cs (Bo.ck x) → Bo.W x := fun _ _ _ h => Bo.wf h
theorem Lm : Tryd.prog.cellsOf 37 = 1 := by kernel_rfl
theorem KL : Tryd.prog.cellsOf 186 = 2 := by kernel_rfl
theorem Ay.opens : Dq Tryd.prog 186 Ay.ck := by
  intro H enc w base sp held fuel cs r h
  obtain ⟨hl, hf⟩ := B1 Tryd.underlying186 h
  obtain ⟨x0, h0⟩ : ∃ x, Bg (Bi w) ((cs.drop 0).take (Tryd.prog.cellsOf 22)) ((iC .u32) x) := hf 0 _ rfl (BD Tryd.underlying22)
  obtain ⟨x1, h1⟩ : ∃ x, Bg (Bi w) ((cs.drop 1).take (Tryd.prog.cellsOf 22)) ((iC .u32) x) := hf 1 _ rfl (BD Tryd.underlying22)
  rw [Hw] at h0
  rw [Hw] at h1
  exact ⟨⟨x0, x1⟩, Ce 0 _ h0 (Ce _ _ h1 (F2 (hl.trans KL)))⟩
def Ay.W (x : Ay) : Prop := (CH .u32 x.LO) ∧ (CH .u32 x.JN)
theorem Ay.wf {Φ : BC} {cs : List Value} {x : Ay} (h : Bg Φ cs (Ay.ck x)) : Ay.W x := by
  obtain ⟨⟨_, g0⟩, _, k0⟩ := Bv h
  obtain ⟨⟨_, g1⟩, _, k1⟩ := Bv k0
  exact ⟨Cv _ _ _ g0, Cv _ _ _ g1⟩
theorem Ay.Gd : ∀ (Φ : BC) (cs : List Value) (x : Ay), Bg Φ cs (Ay.ck x) → Ay.W x := fun _ _ _ h => Ay.wf h
theorem MF : Tryd.prog.cellsOf 38 = 1 := by kernel_rfl
theorem ME : Tryd.prog.cellsOf 4 = 1 := by kernel_rfl
theorem LY : Tryd.prog.cellsOf 40 = 1095 := by kernel_rfl
theorem Bl.opens : Dq Tryd.prog 40 Bl.ck := by
  intro H enc w base sp held fuel cs r h
  obtain ⟨hl, hf⟩ := B1 Tryd.underlying40 h
  obtain ⟨x0, h0⟩ : ∃ x, Bg (Bi w) ((cs.drop 0).take (Tryd.prog.cellsOf 22)) ((iC .u32) x) := hf 0 _ rfl (BD Tryd.underlying22)
  obtain ⟨x1, h1⟩ : ∃ x, Bg (Bi w) ((cs.drop 1).take (Tryd.prog.cellsOf 33)) ((dC 32) x) := hf 1 _ rfl (Ca Tryd.underlying33 Tryd.underlying5 I8 D8)
  obtain ⟨x2, h2⟩ : ∃ x, Bg (Bi w) ((cs.drop 33).take (Tryd.prog.cellsOf 36)) (Bo.ck x) := hf 2 _ rfl Bo.opens
  obtain ⟨x3, h3⟩ : ∃ x, Bg (Bi w) ((cs.drop 1058).take (Tryd.prog.cellsOf 37)) ((Je (dC 32)) x) := hf 3 _ rfl (CK Tryd.underlying37 (Ca Tryd.underlying33 Tryd.underlying5 I8 D8) D8 (AV 32) (by decide))
  obtain ⟨x4, h4⟩ : ∃ x, Bg (Bi w) ((cs.drop 1059).take (Tryd.prog.cellsOf 37)) ((Je (dC 32)) x) := hf 4 _ rfl (CK Tryd.underlying37 (Ca Tryd.underlying33 Tryd.underlying5 I8 D8) D8 (AV 32) (by decide))
  obtain ⟨x5, h5⟩ : ∃ x, Bg (Bi w) ((cs.drop 1060).take (Tryd.prog.cellsOf 33)) ((dC 32) x) := hf 5 _ rfl (Ca Tryd.underlying33 Tryd.underlying5 I8 D8)
  obtain ⟨x6, h6⟩ : ∃ x, Bg (Bi w) ((cs.drop 1092).take (Tryd.prog.cellsOf 38)) ((Je Ay.ck) x) := hf 6 _ rfl (CK Tryd.underlying38 Ay.opens KL Ay.lens (by decide))
  obtain ⟨x7, h7⟩ : ∃ x, Bg (Bi w) ((cs.drop 1093).take (Tryd.prog.cellsOf 23)) ((iC .u64) x) := hf 7 _ rfl (BD Tryd.underlying23)
  obtain ⟨x8, h8⟩ : ∃ x, Bg (Bi w) ((cs.drop 1094).take (Tryd.prog.cellsOf 4)) (Mg x) := hf 8 _ rfl (Fo Tryd.underlying4)
  rw [Hw] at h0
  rw [D8] at h1
  rw [LZ] at h2
  rw [Lm] at h3
  rw [Lm] at h4
  rw [D8] at h5
  rw [MF] at h6
  rw [Fs] at h7
  rw [ME] at h8
  exact ⟨⟨x0, x1, x2, x3, x4, x5, x6, x7, x8⟩, Ce 0 _ h0 (Ce _ _ h1 (Ce _ _ h2 (Ce _ _ h3 (Ce _ _ h4 (Ce _ _ h5 (Ce _ _ h6 (Ce _ _ h7 (Ce _ _ h8 (F2 (hl.trans LY))))))))))⟩
def Bl.W (x : Bl) : Prop := (CH .u32 x.Az) ∧ (x.Ar.length = 32) ∧ (Bo.W x.AI) ∧ (x.AP.length ≤ Cp ∧ ∀ y ∈ x.AP, y.length = 32) ∧ (x.AW.length ≤ Cp ∧ ∀ y ∈ x.AW, y.length = 32) ∧ (x.Ai.length = 32) ∧ (x.AQ.length ≤ Cp ∧ ∀ y ∈ x.AQ, Ay.W y) ∧ (CH .u64 x.Be)
theorem Bl.wf {Φ : BC} {cs : List Value} {x : Bl} (h : Bg Φ cs (Bl.ck x)) : Bl.W x := by
  obtain ⟨⟨_, g0⟩, _, k0⟩ := Bv h
  obtain ⟨⟨_, g1⟩, _, k1⟩ := Bv k0
  obtain ⟨⟨_, g2⟩, _, k2⟩ := Fx (K := Bo.ck x.AI) k1
  obtain ⟨⟨_, g3⟩, _, k3⟩ := Bv k2
  obtain ⟨⟨_, g4⟩, _, k4⟩ := Bv k3
  obtain ⟨⟨_, g5⟩, _, k5⟩ := Bv k4
  obtain ⟨⟨_, g6⟩, _, k6⟩ := Bv k5
  obtain ⟨⟨_, g7⟩, _, k7⟩ := Bv k6
  obtain ⟨⟨_, g8⟩, _, k8⟩ := Bv k7
  exact ⟨Cv _ _ _ g0, C6 _ _ _ g1, Bo.Gd _ _ _ g2, (DA C6) _ _ _ g3, (DA C6) _ _ _ g4, C6 _ _ _ g5, (DA Ay.Gd) _ _ _ g6, Cv _ _ _ g7⟩
theorem Bl.Gd : ∀ (Φ : BC) (cs : List Value) (x : Bl), Bg Φ cs (Bl.ck x) → Bl.W x := fun _ _ _ h => Bl.wf h
theorem KK : Tryd.prog.cellsOf 188 = 33 := by kernel_rfl
theorem Ax.opens : Dq Tryd.prog 188 Ax.ck := by
  intro H enc w base sp held fuel cs r h
  obtain ⟨hl, hf⟩ := B1 Tryd.underlying188 h
  obtain ⟨x0, h0⟩ : ∃ x, Bg (Bi w) ((cs.drop 0).take (Tryd.prog.cellsOf 33)) ((dC 32) x) := hf 0 _ rfl (Ca Tryd.underlying33 Tryd.underlying5 I8 D8)
  obtain ⟨x1, h1⟩ : ∃ x, Bg (Bi w) ((cs.drop 32).take (Tryd.prog.cellsOf 23)) ((iC .u64) x) := hf 1 _ rfl (BD Tryd.underlying23)
  rw [D8] at h0
  rw [Fs] at h1
  exact ⟨⟨x0, x1⟩, Ce 0 _ h0 (Ce _ _ h1 (F2 (hl.trans KK)))⟩
def Ax.W (x : Ax) : Prop := (x.E5.length = 32) ∧ (CH .u64 x.LP)
theorem Ax.wf {Φ : BC} {cs : List Value} {x : Ax} (h : Bg Φ cs (Ax.ck x)) : Ax.W x := by
  obtain ⟨⟨_, g0⟩, _, k0⟩ := Bv h
  obtain ⟨⟨_, g1⟩, _, k1⟩ := Bv k0
  exact ⟨C6 _ _ _ g0, Cv _ _ _ g1⟩
theorem Ax.Gd : ∀ (Φ : BC) (cs : List Value) (x : Ax), Bg Φ cs (Ax.ck x) → Ax.W x := fun _ _ _ h => Ax.wf h
theorem MD : Tryd.prog.cellsOf 41 = 1 := by kernel_rfl
theorem LR : Tryd.prog.cellsOf 85 = 65 := by kernel_rfl
theorem At.opens : Dq Tryd.prog 85 At.ck := by
  intro H enc w base sp held fuel cs r h
  obtain ⟨hl, hf⟩ := B1 Tryd.underlying85 h
  obtain ⟨x0, h0⟩ : ∃ x, Bg (Bi w) ((cs.drop 0).take (Tryd.prog.cellsOf 33)) ((dC 32) x) := hf 0 _ rfl (Ca Tryd.underlying33 Tryd.underlying5 I8 D8)
  obtain ⟨x1, h1⟩ : ∃ x, Bg (Bi w) ((cs.drop 32).take (Tryd.prog.cellsOf 3)) ((iC .i64) x) := hf 1 _ rfl (BD Tryd.underlying3)
  obtain ⟨x2, h2⟩ : ∃ x, Bg (Bi w) ((cs.drop 33).take (Tryd.prog.cellsOf 33)) ((dC 32) x) := hf 2 _ rfl (Ca Tryd.underlying33 Tryd.underlying5 I8 D8)
  rw [D8] at h0
  rw [MZ] at h1
  rw [D8] at h2
  exact ⟨⟨x0, x1, x2⟩, Ce 0 _ h0 (Ce _ _ h1 (Ce _ _ h2 (F2 (hl.trans LR))))⟩
def At.W (x : At) : Prop := (x.GL.length = 32) ∧ (CH .i64 x.DT) ∧ (x.E5.length = 32)
theorem At.wf {Φ : BC} {cs : List Value} {x : At} (h : Bg Φ cs (At.ck x)) : At.W x := by
  obtain ⟨⟨_, g0⟩, _, k0⟩ := Bv h
  obtain ⟨⟨_, g1⟩, _, k1⟩ := Bv k0
  obtain ⟨⟨_, g2⟩, _, k2⟩ := Bv k1
  exact ⟨C6 _ _ _ g0, Cv _ _ _ g1, C6 _ _ _ g2⟩
theorem At.Gd : ∀ (Φ : BC) (cs : List Value) (x : At), Bg Φ cs (At.ck x) → At.W x := fun _ _ _ h => At.wf h
theorem MC : Tryd.prog.cellsOf 42 = 1 := by kernel_rfl
theorem LX : Tryd.prog.cellsOf 44 = 72 := by kernel_rfl
theorem A6.opens : Dq Tryd.prog 44 A6.ck := by
  intro H enc w base sp held fuel cs r h
  obtain ⟨hl, hf⟩ := B1 Tryd.underlying44 h
  obtain ⟨x0, h0⟩ : ∃ x, Bg (Bi w) ((cs.drop 0).take (Tryd.prog.cellsOf 22)) ((iC .u32) x) := hf 0 _ rfl (BD Tryd.underlying22)
  obtain ⟨x1, h1⟩ : ∃ x, Bg (Bi w) ((cs.drop 1).take (Tryd.prog.cellsOf 22)) ((iC .u32) x) := hf 1 _ rfl (BD Tryd.underlying22)
  obtain ⟨x2, h2⟩ : ∃ x, Bg (Bi w) ((cs.drop 2).take (Tryd.prog.cellsOf 33)) ((dC 32) x) := hf 2 _ rfl (Ca Tryd.underlying33 Tryd.underlying5 I8 D8)
  obtain ⟨x3, h3⟩ : ∃ x, Bg (Bi w) ((cs.drop 34).take (Tryd.prog.cellsOf 37)) ((Je (dC 32)) x) := hf 3 _ rfl (CK Tryd.underlying37 (Ca Tryd.underlying33 Tryd.underlying5 I8 D8) D8 (AV 32) (by decide))
  obtain ⟨x4, h4⟩ : ∃ x, Bg (Bi w) ((cs.drop 35).take (Tryd.prog.cellsOf 23)) ((iC .u64) x) := hf 4 _ rfl (BD Tryd.underlying23)
  obtain ⟨x5, h5⟩ : ∃ x, Bg (Bi w) ((cs.drop 36).take (Tryd.prog.cellsOf 33)) ((dC 32) x) := hf 5 _ rfl (Ca Tryd.underlying33 Tryd.underlying5 I8 D8)
  obtain ⟨x6, h6⟩ : ∃ x, Bg (Bi w) ((cs.drop 68).take (Tryd.prog.cellsOf 41)) ((Je Ax.ck) x) := hf 6 _ rfl (CK Tryd.underlying41 Ax.opens KK Ax.lens (by decide))
  obtain ⟨x7, h7⟩ : ∃ x, Bg (Bi w) ((cs.drop 69).take (Tryd.prog.cellsOf 42)) ((Je At.ck) x) := hf 7 _ rfl (CK Tryd.underlying42 At.opens LR At.lens (by decide))
  obtain ⟨x8, h8⟩ : ∃ x, Bg (Bi w) ((cs.drop 70).take (Tryd.prog.cellsOf 4)) (Mg x) := hf 8 _ rfl (Fo Tryd.underlying4)
  obtain ⟨x9, h9⟩ : ∃ x, Bg (Bi w) ((cs.drop 71).take (Tryd.prog.cellsOf 4)) (Mg x) := hf 9 _ rfl (Fo Tryd.underlying4)
  rw [Hw] at h0
  rw [Hw] at h1
  rw [D8] at h2
  rw [Lm] at h3
  rw [Fs] at h4
  rw [D8] at h5
  rw [MD] at h6
  rw [MC] at h7
  rw [ME] at h8
  rw [ME] at h9
  exact ⟨⟨x0, x1, x2, x3, x4, x5, x6, x7, x8, x9⟩, Ce 0 _ h0 (Ce _ _ h1 (Ce _ _ h2 (Ce _ _ h3 (Ce _ _ h4 (Ce _ _ h5 (Ce _ _ h6 (Ce _ _ h7 (Ce _ _ h8 (Ce _ _ h9 (F2 (hl.trans LX)))))))))))⟩
def A6.W (x : A6) : Prop := (CH .u32 x.Az) ∧ (CH .u32 x.A9) ∧ (x.Ar.length = 32) ∧ (x.AF.length ≤ Cp ∧ ∀ y ∈ x.AF, y.length = 32) ∧ (CH .u64 x.AN) ∧ (x.Ai.length = 32) ∧ (x.AT.length ≤ Cp ∧ ∀ y ∈ x.AT, Ax.W y) ∧ (x.AB.length ≤ Cp ∧ ∀ y ∈ x.AB, At.W y)
theorem A6.wf {Φ : BC} {cs : List Value} {x : A6} (h : Bg Φ cs (A6.ck x)) : A6.W x := by
  obtain ⟨⟨_, g0⟩, _, k0⟩ := Bv h
  obtain ⟨⟨_, g1⟩, _, k1⟩ := Bv k0
  obtain ⟨⟨_, g2⟩, _, k2⟩ := Bv k1
  obtain ⟨⟨_, g3⟩, _, k3⟩ := Bv k2
  obtain ⟨⟨_, g4⟩, _, k4⟩ := Bv k3
  obtain ⟨⟨_, g5⟩, _, k5⟩ := Bv k4
  obtain ⟨⟨_, g6⟩, _, k6⟩ := Bv k5
  obtain ⟨⟨_, g7⟩, _, k7⟩ := Bv k6
  obtain ⟨⟨_, g8⟩, _, k8⟩ := Bv k7
  obtain ⟨⟨_, g9⟩, _, k9⟩ := Bv k8
  exact ⟨Cv _ _ _ g0, Cv _ _ _ g1, C6 _ _ _ g2, (DA C6) _ _ _ g3, Cv _ _ _ g4, C6 _ _ _ g5, (DA Ax.Gd) _ _ _ g6, (DA At.Gd) _ _ _ g7⟩
theorem A6.Gd : ∀ (Φ : BC) (cs : List Value) (x : A6), Bg Φ cs (A6.ck x) → A6.W x := fun _ _ _ h => A6.wf h
theorem MB : Tryd.prog.cellsOf 46 = 1176 := by kernel_rfl
theorem AK.opens : Dq Tryd.prog 46 AK.ck := by
  intro H enc w base sp held fuel cs r h
  obtain ⟨hl, hf⟩ := B1 Tryd.underlying46 h
  obtain ⟨x0, h0⟩ : ∃ x, Bg (Bi w) ((cs.drop 0).take (Tryd.prog.cellsOf 22)) ((iC .u32) x) := hf 0 _ rfl (BD Tryd.underlying22)
  obtain ⟨x1, h1⟩ : ∃ x, Bg (Bi w) ((cs.drop 1).take (Tryd.prog.cellsOf 27)) (A7.ck x) := hf 1 _ rfl A7.opens
  obtain ⟨x2, h2⟩ : ∃ x, Bg (Bi w) ((cs.drop 6).take (Tryd.prog.cellsOf 31)) (Bf.ck x) := hf 2 _ rfl Bf.opens
  obtain ⟨x3, h3⟩ : ∃ x, Bg (Bi w) ((cs.drop 8).take (Tryd.prog.cellsOf 40)) (Bl.ck x) := hf 3 _ rfl Bl.opens
  obtain ⟨x4, h4⟩ : ∃ x, Bg (Bi w) ((cs.drop 1103).take (Tryd.prog.cellsOf 44)) (A6.ck x) := hf 4 _ rfl A6.opens
  obtain ⟨x5, h5⟩ : ∃ x, Bg (Bi w) ((cs.drop 1175).take (Tryd.prog.cellsOf 9)) (Fk x) := hf 5 _ rfl (Eg Tryd.underlying9)
  rw [Hw] at h0
  rw [L2] at h1
  rw [L1] at h2
  rw [LY] at h3
  rw [LX] at h4
  rw [Lv] at h5
  exact ⟨⟨x0, x1, x2, x3, x4, x5⟩, Ce 0 _ h0 (Ce _ _ h1 (Ce _ _ h2 (Ce _ _ h3 (Ce _ _ h4 (Ce _ _ h5 (F2 (hl.trans MB)))))))⟩
def AK.W (x : AK) : Prop := (CH .u32 x.B4) ∧ (A7.W x.Ae) ∧ (Bf.W x.As) ∧ (Bl.W x.Ad) ∧ (A6.W x.Aa) ∧ (x.AZ.length ≤ Cp)
theorem AK.wf {Φ : BC} {cs : List Value} {x : AK} (h : Bg Φ cs (AK.ck x)) : AK.W x := by
  obtain ⟨⟨_, g0⟩, _, k0⟩ := Bv h
  obtain ⟨⟨_, g1⟩, _, k1⟩ := Fx (K := A7.ck x.Ae) k0
  obtain ⟨⟨_, g2⟩, _, k2⟩ := Fx (K := Bf.ck x.As) k1
  obtain ⟨⟨_, g3⟩, _, k3⟩ := Fx (K := Bl.ck x.Ad) k2
  obtain ⟨⟨_, g4⟩, _, k4⟩ := Fx (K := A6.ck x.Aa) k3
  obtain ⟨⟨_, g5⟩, _, k5⟩ := Bv k4
  exact ⟨Cv _ _ _ g0, A7.Gd _ _ _ g1, Bf.Gd _ _ _ g2, Bl.Gd _ _ _ g3, A6.Gd _ _ _ g4, FR _ _ _ g5⟩
theorem AK.Gd : ∀ (Φ : BC) (cs : List Value) (x : AK), Bg Φ cs (AK.ck x) → AK.W x := fun _ _ _ h => AK.wf h
def Eo : Prop := ∀ (x0 : AK), (AK.W x0) → AL x0 = some true
theorem Fm (plain : Eo) (os : Os) (started : os.Started) (H : Type) (enc : TypeId × Value → H) :
    ReturnsInHanded {} Tryd.checked os 4 .any (fun w args => (Rows.reportPlainSpec.pre enc Tryd.prog Tryd.f4 [] false w args ∧ laidMetH Tryd.prog Ff w) ∧ sizedMet enc Tryd.prog Tryd.f4 (OpenSpec.ofChange Rows.reportPlainSpec) false w args)
      (Rows.reportPlainSpec.post enc Tryd.prog Tryd.f4 false true false false) := by
  refine returnsInHanded_of_change_and (C := Tryd.checked) (X := fun w _ => laidMetH Tryd.prog Ff w) (fun _ _ _ hh h => h.of_heap hh) LG started (by kernel_rfl) Tryd.func4
    (Hd (enc := enc) (C := Tryd.checked) (os := os) (X := fun w _ => laidMetH Tryd.prog Ff w) false (G5 os) #[.agg Tryd.zeroCells46] 8 rfl (World.shaped_of_RefB (by kernel_rfl) (by kernel_rfl)) (fun base => okInput (by kernel_rfl) Tryd.func4 (by kernel_rfl) (by kernel_rfl) (by kernel_rfl) (by kernel_rfl) (fun j t v ht hv => by
      have ht : (#[46] : Array TypeId)[j]? = some t := by rw [← Tryd.params4]; exact ht
      match j, ht, hv with
      | 0, ht, hv => obtain rfl := Option.some.inj ht; obtain rfl := Option.some.inj hv; exact Ii Tryd.underlying46 (by kernel_rfl) (by kernel_rfl)
      | j + 1, ht, hv => simp at ht)) (by kernel_rfl) (by kernel_rfl) (JR os _)) ?_
  intro W base args ds gs before hval0 hW _ _ hL _
  have hval : ∀ (j : Nat) t v, Tryd.f4.params[j]? = some t → args[j]? = some v → Value.okWide Tryd.prog W .any base t v := hval0
  have hW' := hW
  obtain ⟨p, q, hA0, hV, rfl, hfz, hnd⟩ := hW
  have hA : DataW.TrodAll enc Tryd.prog W 0 (fun _ => true) true Tryd.f4.params.toList args.toList ds p := hA0
  rw [Tryd.params4] at hA hval
  obtain ⟨v0, vs0, d0, ds0, p0, q0, hargs, rfl, rfl, h0, r0⟩ := trodAll_cons hA
  obtain ⟨rfl, rfl, rfl⟩ := trodAll_nil r0
  obtain rfl : args = #[v0] := by cases args; simp_all
  obtain ⟨rfl, rfl⟩ := trodVars_none hV
  have lt0 : ∀ x ∈ p0, x.block < W.heap.size := by obtain ⟨m, hm⟩ := h0; exact DataW.trod_lt m _ _ _ hm
  obtain ⟨x0, hx0⟩ := I0 AK.opens h0
  have a0 := Lq (c := AK.ck) (hval 0 46 v0 rfl rfl) (by rw [Tryd.underlying46]; trivial) hx0
  have w0 := AK.Gd _ _ _ hx0
  clear hA0 hval0
  refine (I4 (E3 (plain x0 w0)) (L8 hL) (args := [v0]) ⟨a0, trivial⟩).mono fun e W' ⟨he, bel⟩ => ?_
  subst he
  exact ⟨_, rfl, _, _, _, [], _, [], hW', trodAll_mk1 (shut_bool Tryd.underlying4 _), (trodAll_cons_mk (Below.trod laidOut (by kernel_rfl) (of_decide_eq_true (by kernel_rfl)) h0 bel lt0) trodAll_mk0), rfl, bel.frame _, fun h => by cases h⟩
theorem FU (plain : Eo) : Rows.ReportPlainSaid :=
  OpenClaim.holds_of_wide 4 Tryd.f4 rfl rfl rfl rfl rfl rfl rfl ⟨rfl, rfl, rfl, rfl, rfl⟩ rfl rfl rfl rfl rfl (by kernel_rfl) Tryd.func4 (by kernel_rfl)
    (of_decide_eq_true (by kernel_rfl)) (by unfold Func.isWrapper; first | (rw [if_pos (by decide +kernel)]; kernel_rfl) | (rw [if_neg (by decide +kernel)]; exact ⟨rfl, rfl⟩))
    (fun os started H enc _ => Fm plain os started H enc)
theorem reportPlain_card : Rows.ReportPlainCardSaid :=
  Claim7.holds_tied_plain_at .later [] [.data, .data, .data, .data, .data, .pinned] true (true, "736105a79e06cc01ce5018173cbcc754d8def431b479d4005e4d2e8275847a7f") false
    (FU (fun x0 w0 => FT x0 w0.1 w0.2.1 w0.2.2.1 w0.2.2.2.1.2.2.2.2.2.1 w0.2.2.2.1.2.2.2.2.2.2.2 w0.2.2.2.2.1.1 w0.2.2.2.2.1.2.2.2.2.2.1)) (fun _ h => by cases h) (by kernel_rfl) (fun _ h => by cases h) reportPlain_row_tie rfl ⟨rfl, rfl⟩ (by kernel_rfl) rfl
    (fun f fn hf hfn => by
      obtain rfl : f = 4 := Option.some.inj ((show Tryd.prog.funcNamed "pontoon/pontoonlaw30.ReportPlain" = some 4 by kernel_rfl).symm.trans hf) |>.symm
      obtain rfl : fn = Tryd.f4 := (Option.some.inj (Tryd.func4.symm.trans hfn)).symm
      exact ⟨by kernel_rfl, fun j t ht => by
        rw [Tryd.params4] at ht
        have h3 : t ∈ ([46] : List TypeId) := by
          have := List.mem_of_getElem? (by simpa using ht)
          simpa using this
        simp only [List.mem_cons, List.not_mem_nil, or_false] at h3
        rcases h3 with rfl
        · exact (show Tryd.prog.wantsStandIn 46 = false by kernel_rfl)⟩)
    (by kernel_rfl)
#print axioms reportPlain_card
end Go.Proofs.YtemnhknjphjpnaaDoor
