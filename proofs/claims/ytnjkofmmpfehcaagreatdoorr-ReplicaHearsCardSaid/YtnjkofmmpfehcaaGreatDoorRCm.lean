/- pontoon/pontoonlaw17.ReplicaHears: whatever the input (the listed variables as the program's text lays them), the call returns true and each argument reads afterwards as it read before: the tied card. -/
import Derived.Test.YtnjkofmmpfehcaaGreatDoorRC1
import Derived.Test.YtnjkofmmpfehcaaGreatDoorRA22
import Derived.Test.YtnjkofmmpfehcaaGreatDoorRP51
import Derived.SevenTiedAt
namespace Go.Proofs.YtnjkofmmpfehcaaGreatDoorR
open Go Go.RowKit Go.Proofs Go.ChangeShapes Go.WideShapes Go.ChangeAt Go.WideMaps Go.WideElems
set_option maxRecDepth 100000
theorem cO22 : Tryz.prog.cellsOf 22 = 1 := by kernel_rfl
theorem cO5 : Tryz.prog.cellsOf 5 = 1 := by kernel_rfl
theorem cO24 : Tryz.prog.cellsOf 24 = 32 := by kernel_rfl
theorem cO25 : Tryz.prog.cellsOf 25 = 1 := by kernel_rfl
theorem cO26 : Tryz.prog.cellsOf 26 = 1 := by kernel_rfl
theorem cO62 : Tryz.prog.cellsOf 62 = 33 := by kernel_rfl
theorem S_api_Timed.opens : Opens Tryz.prog 62 S_api_Timed.ck := by
  intro H enc w base sp held fuel cs r h
  obtain ⟨hl, hf⟩ := opens_fields Tryz.underlying62 h
  obtain ⟨x0, h0⟩ : ∃ x, Lrel (allPub w) ((cs.drop 0).take (Tryz.prog.cellsOf 24)) ((dC 32) x) := hf 0 _ rfl (opens_bytes Tryz.underlying24 Tryz.underlying5 cO5 cO24)
  obtain ⟨x1, h1⟩ : ∃ x, Lrel (allPub w) ((cs.drop 32).take (Tryz.prog.cellsOf 26)) ((iC .u64) x) := hf 1 _ rfl (opens_int Tryz.underlying26)
  rw [cO24] at h0
  rw [cO26] at h1
  exact ⟨⟨x0, x1⟩, cut1 0 _ h0 (cut1 _ _ h1 (cut0 (hl.trans cO62)))⟩
def S_api_Timed.W (x : S_api_Timed) : Prop := (x.f_Root.length = 32) ∧ (InR .u64 x.f_At)
theorem S_api_Timed.wf {Φ : Pub} {cs : List Value} {x : S_api_Timed} (h : Lrel Φ cs (S_api_Timed.ck x)) : S_api_Timed.W x := by
  obtain ⟨⟨_, g0⟩, _, k0⟩ := wf_cut h
  obtain ⟨⟨_, g1⟩, _, k1⟩ := wf_cut k0
  exact ⟨wf_bytes _ _ _ g0, wf_int _ _ _ g1⟩
theorem S_api_Timed.wf' : ∀ (Φ : Pub) (cs : List Value) (x : S_api_Timed), Lrel Φ cs (S_api_Timed.ck x) → S_api_Timed.W x := fun _ _ _ h => S_api_Timed.wf h
theorem cO27 : Tryz.prog.cellsOf 27 = 1 := by kernel_rfl
theorem cO3 : Tryz.prog.cellsOf 3 = 1 := by kernel_rfl
theorem cO79 : Tryz.prog.cellsOf 79 = 65 := by kernel_rfl
theorem S_api_State.opens : Opens Tryz.prog 79 S_api_State.ck := by
  intro H enc w base sp held fuel cs r h
  obtain ⟨hl, hf⟩ := opens_fields Tryz.underlying79 h
  obtain ⟨x0, h0⟩ : ∃ x, Lrel (allPub w) ((cs.drop 0).take (Tryz.prog.cellsOf 24)) ((dC 32) x) := hf 0 _ rfl (opens_bytes Tryz.underlying24 Tryz.underlying5 cO5 cO24)
  obtain ⟨x1, h1⟩ : ∃ x, Lrel (allPub w) ((cs.drop 32).take (Tryz.prog.cellsOf 3)) ((iC .i64) x) := hf 1 _ rfl (opens_int Tryz.underlying3)
  obtain ⟨x2, h2⟩ : ∃ x, Lrel (allPub w) ((cs.drop 33).take (Tryz.prog.cellsOf 24)) ((dC 32) x) := hf 2 _ rfl (opens_bytes Tryz.underlying24 Tryz.underlying5 cO5 cO24)
  rw [cO24] at h0
  rw [cO3] at h1
  rw [cO24] at h2
  exact ⟨⟨x0, x1, x2⟩, cut1 0 _ h0 (cut1 _ _ h1 (cut1 _ _ h2 (cut0 (hl.trans cO79))))⟩
def S_api_State.W (x : S_api_State) : Prop := (x.f_Leaf.length = 32) ∧ (InR .i64 x.f_Status) ∧ (x.f_Root.length = 32)
theorem S_api_State.wf {Φ : Pub} {cs : List Value} {x : S_api_State} (h : Lrel Φ cs (S_api_State.ck x)) : S_api_State.W x := by
  obtain ⟨⟨_, g0⟩, _, k0⟩ := wf_cut h
  obtain ⟨⟨_, g1⟩, _, k1⟩ := wf_cut k0
  obtain ⟨⟨_, g2⟩, _, k2⟩ := wf_cut k1
  exact ⟨wf_bytes _ _ _ g0, wf_int _ _ _ g1, wf_bytes _ _ _ g2⟩
theorem S_api_State.wf' : ∀ (Φ : Pub) (cs : List Value) (x : S_api_State), Lrel Φ cs (S_api_State.ck x) → S_api_State.W x := fun _ _ _ h => S_api_State.wf h
theorem cO28 : Tryz.prog.cellsOf 28 = 1 := by kernel_rfl
theorem cO4 : Tryz.prog.cellsOf 4 = 1 := by kernel_rfl
theorem cO30 : Tryz.prog.cellsOf 30 = 72 := by kernel_rfl
theorem S_api_Replica.opens : Opens Tryz.prog 30 S_api_Replica.ck := by
  intro H enc w base sp held fuel cs r h
  obtain ⟨hl, hf⟩ := opens_fields Tryz.underlying30 h
  obtain ⟨x0, h0⟩ : ∃ x, Lrel (allPub w) ((cs.drop 0).take (Tryz.prog.cellsOf 22)) ((iC .u32) x) := hf 0 _ rfl (opens_int Tryz.underlying22)
  obtain ⟨x1, h1⟩ : ∃ x, Lrel (allPub w) ((cs.drop 1).take (Tryz.prog.cellsOf 22)) ((iC .u32) x) := hf 1 _ rfl (opens_int Tryz.underlying22)
  obtain ⟨x2, h2⟩ : ∃ x, Lrel (allPub w) ((cs.drop 2).take (Tryz.prog.cellsOf 24)) ((dC 32) x) := hf 2 _ rfl (opens_bytes Tryz.underlying24 Tryz.underlying5 cO5 cO24)
  obtain ⟨x3, h3⟩ : ∃ x, Lrel (allPub w) ((cs.drop 34).take (Tryz.prog.cellsOf 25)) ((slC (dC 32)) x) := hf 3 _ rfl (opens_slice Tryz.underlying25 (opens_bytes Tryz.underlying24 Tryz.underlying5 cO5 cO24) cO24 (lens_dC 32) (by decide))
  obtain ⟨x4, h4⟩ : ∃ x, Lrel (allPub w) ((cs.drop 35).take (Tryz.prog.cellsOf 26)) ((iC .u64) x) := hf 4 _ rfl (opens_int Tryz.underlying26)
  obtain ⟨x5, h5⟩ : ∃ x, Lrel (allPub w) ((cs.drop 36).take (Tryz.prog.cellsOf 24)) ((dC 32) x) := hf 5 _ rfl (opens_bytes Tryz.underlying24 Tryz.underlying5 cO5 cO24)
  obtain ⟨x6, h6⟩ : ∃ x, Lrel (allPub w) ((cs.drop 68).take (Tryz.prog.cellsOf 27)) ((slC S_api_Timed.ck) x) := hf 6 _ rfl (opens_slice Tryz.underlying27 S_api_Timed.opens cO62 S_api_Timed.lens (by decide))
  obtain ⟨x7, h7⟩ : ∃ x, Lrel (allPub w) ((cs.drop 69).take (Tryz.prog.cellsOf 28)) ((slC S_api_State.ck) x) := hf 7 _ rfl (opens_slice Tryz.underlying28 S_api_State.opens cO79 S_api_State.lens (by decide))
  obtain ⟨x8, h8⟩ : ∃ x, Lrel (allPub w) ((cs.drop 70).take (Tryz.prog.cellsOf 4)) (boC x) := hf 8 _ rfl (opens_bool Tryz.underlying4)
  obtain ⟨x9, h9⟩ : ∃ x, Lrel (allPub w) ((cs.drop 71).take (Tryz.prog.cellsOf 4)) (boC x) := hf 9 _ rfl (opens_bool Tryz.underlying4)
  rw [cO22] at h0
  rw [cO22] at h1
  rw [cO24] at h2
  rw [cO25] at h3
  rw [cO26] at h4
  rw [cO24] at h5
  rw [cO27] at h6
  rw [cO28] at h7
  rw [cO4] at h8
  rw [cO4] at h9
  exact ⟨⟨x0, x1, x2, x3, x4, x5, x6, x7, x8, x9⟩, cut1 0 _ h0 (cut1 _ _ h1 (cut1 _ _ h2 (cut1 _ _ h3 (cut1 _ _ h4 (cut1 _ _ h5 (cut1 _ _ h6 (cut1 _ _ h7 (cut1 _ _ h8 (cut1 _ _ h9 (cut0 (hl.trans cO30)))))))))))⟩
def S_api_Replica.W (x : S_api_Replica) : Prop := (InR .u32 x.f_Chain) ∧ (InR .u32 x.f_Here) ∧ (x.f_Updater.length = 32) ∧ (x.f_Watchers.length ≤ mxl ∧ ∀ y ∈ x.f_Watchers, y.length = 32) ∧ (InR .u64 x.f_Window) ∧ (x.f_Committed.length = 32) ∧ (x.f_Roots.length ≤ mxl ∧ ∀ y ∈ x.f_Roots, S_api_Timed.W y) ∧ (x.f_States.length ≤ mxl ∧ ∀ y ∈ x.f_States, S_api_State.W y)
theorem S_api_Replica.wf {Φ : Pub} {cs : List Value} {x : S_api_Replica} (h : Lrel Φ cs (S_api_Replica.ck x)) : S_api_Replica.W x := by
  obtain ⟨⟨_, g0⟩, _, k0⟩ := wf_cut h
  obtain ⟨⟨_, g1⟩, _, k1⟩ := wf_cut k0
  obtain ⟨⟨_, g2⟩, _, k2⟩ := wf_cut k1
  obtain ⟨⟨_, g3⟩, _, k3⟩ := wf_cut k2
  obtain ⟨⟨_, g4⟩, _, k4⟩ := wf_cut k3
  obtain ⟨⟨_, g5⟩, _, k5⟩ := wf_cut k4
  obtain ⟨⟨_, g6⟩, _, k6⟩ := wf_cut k5
  obtain ⟨⟨_, g7⟩, _, k7⟩ := wf_cut k6
  obtain ⟨⟨_, g8⟩, _, k8⟩ := wf_cut k7
  obtain ⟨⟨_, g9⟩, _, k9⟩ := wf_cut k8
  exact ⟨wf_int _ _ _ g0, wf_int _ _ _ g1, wf_bytes _ _ _ g2, (wf_slice wf_bytes) _ _ _ g3, wf_int _ _ _ g4, wf_bytes _ _ _ g5, (wf_slice S_api_Timed.wf') _ _ _ g6, (wf_slice S_api_State.wf') _ _ _ g7⟩
theorem S_api_Replica.wf' : ∀ (Φ : Pub) (cs : List Value) (x : S_api_Replica), Lrel Φ cs (S_api_Replica.ck x) → S_api_Replica.W x := fun _ _ _ h => S_api_Replica.wf h
theorem cO32 : Tryz.prog.cellsOf 32 = 4 := by kernel_rfl
theorem S_api_Sig.opens : Opens Tryz.prog 32 S_api_Sig.ck := by
  intro H enc w base sp held fuel cs r h
  obtain ⟨hl, hf⟩ := opens_fields Tryz.underlying32 h
  obtain ⟨x0, h0⟩ : ∃ x, Lrel (allPub w) ((cs.drop 0).take (Tryz.prog.cellsOf 3)) ((iC .i64) x) := hf 0 _ rfl (opens_int Tryz.underlying3)
  obtain ⟨x1, h1⟩ : ∃ x, Lrel (allPub w) ((cs.drop 1).take (Tryz.prog.cellsOf 25)) ((slC (dC 32)) x) := hf 1 _ rfl (opens_slice Tryz.underlying25 (opens_bytes Tryz.underlying24 Tryz.underlying5 cO5 cO24) cO24 (lens_dC 32) (by decide))
  obtain ⟨x2, h2⟩ : ∃ x, Lrel (allPub w) ((cs.drop 2).take (Tryz.prog.cellsOf 25)) ((slC (dC 32)) x) := hf 2 _ rfl (opens_slice Tryz.underlying25 (opens_bytes Tryz.underlying24 Tryz.underlying5 cO5 cO24) cO24 (lens_dC 32) (by decide))
  obtain ⟨x3, h3⟩ : ∃ x, Lrel (allPub w) ((cs.drop 3).take (Tryz.prog.cellsOf 25)) ((slC (dC 32)) x) := hf 3 _ rfl (opens_slice Tryz.underlying25 (opens_bytes Tryz.underlying24 Tryz.underlying5 cO5 cO24) cO24 (lens_dC 32) (by decide))
  rw [cO3] at h0
  rw [cO25] at h1
  rw [cO25] at h2
  rw [cO25] at h3
  exact ⟨⟨x0, x1, x2, x3⟩, cut1 0 _ h0 (cut1 _ _ h1 (cut1 _ _ h2 (cut1 _ _ h3 (cut0 (hl.trans cO32)))))⟩
def S_api_Sig.W (x : S_api_Sig) : Prop := (InR .i64 x.f_Index) ∧ (x.f_Parts.length ≤ mxl ∧ ∀ y ∈ x.f_Parts, y.length = 32) ∧ (x.f_Others.length ≤ mxl ∧ ∀ y ∈ x.f_Others, y.length = 32) ∧ (x.f_Path.length ≤ mxl ∧ ∀ y ∈ x.f_Path, y.length = 32)
theorem S_api_Sig.wf {Φ : Pub} {cs : List Value} {x : S_api_Sig} (h : Lrel Φ cs (S_api_Sig.ck x)) : S_api_Sig.W x := by
  obtain ⟨⟨_, g0⟩, _, k0⟩ := wf_cut h
  obtain ⟨⟨_, g1⟩, _, k1⟩ := wf_cut k0
  obtain ⟨⟨_, g2⟩, _, k2⟩ := wf_cut k1
  obtain ⟨⟨_, g3⟩, _, k3⟩ := wf_cut k2
  exact ⟨wf_int _ _ _ g0, (wf_slice wf_bytes) _ _ _ g1, (wf_slice wf_bytes) _ _ _ g2, (wf_slice wf_bytes) _ _ _ g3⟩
theorem S_api_Sig.wf' : ∀ (Φ : Pub) (cs : List Value) (x : S_api_Sig), Lrel Φ cs (S_api_Sig.ck x) → S_api_Sig.W x := fun _ _ _ h => S_api_Sig.wf h
theorem cO34 : Tryz.prog.cellsOf 34 = 69 := by kernel_rfl
theorem S_api_Update.opens : Opens Tryz.prog 34 S_api_Update.ck := by
  intro H enc w base sp held fuel cs r h
  obtain ⟨hl, hf⟩ := opens_fields Tryz.underlying34 h
  obtain ⟨x0, h0⟩ : ∃ x, Lrel (allPub w) ((cs.drop 0).take (Tryz.prog.cellsOf 22)) ((iC .u32) x) := hf 0 _ rfl (opens_int Tryz.underlying22)
  obtain ⟨x1, h1⟩ : ∃ x, Lrel (allPub w) ((cs.drop 1).take (Tryz.prog.cellsOf 24)) ((dC 32) x) := hf 1 _ rfl (opens_bytes Tryz.underlying24 Tryz.underlying5 cO5 cO24)
  obtain ⟨x2, h2⟩ : ∃ x, Lrel (allPub w) ((cs.drop 33).take (Tryz.prog.cellsOf 24)) ((dC 32) x) := hf 2 _ rfl (opens_bytes Tryz.underlying24 Tryz.underlying5 cO5 cO24)
  obtain ⟨x3, h3⟩ : ∃ x, Lrel (allPub w) ((cs.drop 65).take (Tryz.prog.cellsOf 32)) (S_api_Sig.ck x) := hf 3 _ rfl S_api_Sig.opens
  rw [cO22] at h0
  rw [cO24] at h1
  rw [cO24] at h2
  rw [cO32] at h3
  exact ⟨⟨x0, x1, x2, x3⟩, cut1 0 _ h0 (cut1 _ _ h1 (cut1 _ _ h2 (cut1 _ _ h3 (cut0 (hl.trans cO34)))))⟩
def S_api_Update.W (x : S_api_Update) : Prop := (InR .u32 x.f_Home) ∧ (x.f_Old.length = 32) ∧ (x.f_New.length = 32) ∧ (S_api_Sig.W x.f_Sig)
theorem S_api_Update.wf {Φ : Pub} {cs : List Value} {x : S_api_Update} (h : Lrel Φ cs (S_api_Update.ck x)) : S_api_Update.W x := by
  obtain ⟨⟨_, g0⟩, _, k0⟩ := wf_cut h
  obtain ⟨⟨_, g1⟩, _, k1⟩ := wf_cut k0
  obtain ⟨⟨_, g2⟩, _, k2⟩ := wf_cut k1
  obtain ⟨⟨_, g3⟩, _, k3⟩ := wf_cuts (K := S_api_Sig.ck x.f_Sig) k2
  exact ⟨wf_int _ _ _ g0, wf_bytes _ _ _ g1, wf_bytes _ _ _ g2, S_api_Sig.wf' _ _ _ g3⟩
theorem S_api_Update.wf' : ∀ (Φ : Pub) (cs : List Value) (x : S_api_Update), Lrel Φ cs (S_api_Update.ck x) → S_api_Update.W x := fun _ _ _ h => S_api_Update.wf h
theorem cO36 : Tryz.prog.cellsOf 36 = 38 := by kernel_rfl
theorem S_api_Stop.opens : Opens Tryz.prog 36 S_api_Stop.ck := by
  intro H enc w base sp held fuel cs r h
  obtain ⟨hl, hf⟩ := opens_fields Tryz.underlying36 h
  obtain ⟨x0, h0⟩ : ∃ x, Lrel (allPub w) ((cs.drop 0).take (Tryz.prog.cellsOf 22)) ((iC .u32) x) := hf 0 _ rfl (opens_int Tryz.underlying22)
  obtain ⟨x1, h1⟩ : ∃ x, Lrel (allPub w) ((cs.drop 1).take (Tryz.prog.cellsOf 24)) ((dC 32) x) := hf 1 _ rfl (opens_bytes Tryz.underlying24 Tryz.underlying5 cO5 cO24)
  obtain ⟨x2, h2⟩ : ∃ x, Lrel (allPub w) ((cs.drop 33).take (Tryz.prog.cellsOf 3)) ((iC .i64) x) := hf 2 _ rfl (opens_int Tryz.underlying3)
  obtain ⟨x3, h3⟩ : ∃ x, Lrel (allPub w) ((cs.drop 34).take (Tryz.prog.cellsOf 32)) (S_api_Sig.ck x) := hf 3 _ rfl S_api_Sig.opens
  rw [cO22] at h0
  rw [cO24] at h1
  rw [cO3] at h2
  rw [cO32] at h3
  exact ⟨⟨x0, x1, x2, x3⟩, cut1 0 _ h0 (cut1 _ _ h1 (cut1 _ _ h2 (cut1 _ _ h3 (cut0 (hl.trans cO36)))))⟩
def S_api_Stop.W (x : S_api_Stop) : Prop := (InR .u32 x.f_Home) ∧ (x.f_Key.length = 32) ∧ (InR .i64 x.f_Watcher) ∧ (S_api_Sig.W x.f_Sig)
theorem S_api_Stop.wf {Φ : Pub} {cs : List Value} {x : S_api_Stop} (h : Lrel Φ cs (S_api_Stop.ck x)) : S_api_Stop.W x := by
  obtain ⟨⟨_, g0⟩, _, k0⟩ := wf_cut h
  obtain ⟨⟨_, g1⟩, _, k1⟩ := wf_cut k0
  obtain ⟨⟨_, g2⟩, _, k2⟩ := wf_cut k1
  obtain ⟨⟨_, g3⟩, _, k3⟩ := wf_cuts (K := S_api_Sig.ck x.f_Sig) k2
  exact ⟨wf_int _ _ _ g0, wf_bytes _ _ _ g1, wf_int _ _ _ g2, S_api_Sig.wf' _ _ _ g3⟩
theorem S_api_Stop.wf' : ∀ (Φ : Pub) (cs : List Value) (x : S_api_Stop), Lrel Φ cs (S_api_Stop.ck x) → S_api_Stop.W x := fun _ _ _ h => S_api_Stop.wf h
def plain_replicaHears : Prop := ∀ (x0 : S_api_Replica) (x1 : Int) (x2 : S_api_Update) (x3 : S_api_Update) (x4 : S_api_Stop), (S_api_Replica.W x0) → (InR .u64 x1) → (S_api_Update.W x2) → (S_api_Update.W x3) → (S_api_Stop.W x4) → law17_ReplicaHears x0 x1 x2 x3 x4 = some true
theorem replicaHears_lifted (plain : plain_replicaHears) (os : Os) (started : os.Started) (H : Type) (enc : TypeId × Value → H) :
    ReturnsInHanded {} Tryz.checked os 3 .any (fun w args => (Rows.replicaHearsSpec.pre enc Tryz.prog Tryz.f3 [] false w args ∧ laidMetH Tryz.prog laidL w) ∧ sizedMet enc Tryz.prog Tryz.f3 (OpenSpec.ofChange Rows.replicaHearsSpec) false w args)
      (Rows.replicaHearsSpec.post enc Tryz.prog Tryz.f3 false true false false) := by
  refine returnsInHanded_of_change_and (C := Tryz.checked) (X := fun w _ => laidMetH Tryz.prog laidL w) (fun _ _ _ hh h => h.of_heap hh) ownKn started (by kernel_rfl) Tryz.func3
    (ChangeSpec.witness_shaped (enc := enc) (C := Tryz.checked) (os := os) (X := fun w _ => laidMetH Tryz.prog laidL w) false (World.doorLaid Tryz.prog 400 os) #[.agg #[.int .u32 0, .int .u32 0, .int .u8 0, .int .u8 0, .int .u8 0, .int .u8 0, .int .u8 0, .int .u8 0, .int .u8 0, .int .u8 0, .int .u8 0, .int .u8 0, .int .u8 0, .int .u8 0, .int .u8 0, .int .u8 0, .int .u8 0, .int .u8 0, .int .u8 0, .int .u8 0, .int .u8 0, .int .u8 0, .int .u8 0, .int .u8 0, .int .u8 0, .int .u8 0, .int .u8 0, .int .u8 0, .int .u8 0, .int .u8 0, .int .u8 0, .int .u8 0, .int .u8 0, .int .u8 0, .slice none 0 0, .int .u64 0, .int .u8 0, .int .u8 0, .int .u8 0, .int .u8 0, .int .u8 0, .int .u8 0, .int .u8 0, .int .u8 0, .int .u8 0, .int .u8 0, .int .u8 0, .int .u8 0, .int .u8 0, .int .u8 0, .int .u8 0, .int .u8 0, .int .u8 0, .int .u8 0, .int .u8 0, .int .u8 0, .int .u8 0, .int .u8 0, .int .u8 0, .int .u8 0, .int .u8 0, .int .u8 0, .int .u8 0, .int .u8 0, .int .u8 0, .int .u8 0, .int .u8 0, .int .u8 0, .slice none 0 0, .slice none 0 0, .bool false, .bool false], .int .u64 0, .agg #[.int .u32 0, .int .u8 0, .int .u8 0, .int .u8 0, .int .u8 0, .int .u8 0, .int .u8 0, .int .u8 0, .int .u8 0, .int .u8 0, .int .u8 0, .int .u8 0, .int .u8 0, .int .u8 0, .int .u8 0, .int .u8 0, .int .u8 0, .int .u8 0, .int .u8 0, .int .u8 0, .int .u8 0, .int .u8 0, .int .u8 0, .int .u8 0, .int .u8 0, .int .u8 0, .int .u8 0, .int .u8 0, .int .u8 0, .int .u8 0, .int .u8 0, .int .u8 0, .int .u8 0, .int .u8 0, .int .u8 0, .int .u8 0, .int .u8 0, .int .u8 0, .int .u8 0, .int .u8 0, .int .u8 0, .int .u8 0, .int .u8 0, .int .u8 0, .int .u8 0, .int .u8 0, .int .u8 0, .int .u8 0, .int .u8 0, .int .u8 0, .int .u8 0, .int .u8 0, .int .u8 0, .int .u8 0, .int .u8 0, .int .u8 0, .int .u8 0, .int .u8 0, .int .u8 0, .int .u8 0, .int .u8 0, .int .u8 0, .int .u8 0, .int .u8 0, .int .u8 0, .int .i64 0, .slice none 0 0, .slice none 0 0, .slice none 0 0], .agg #[.int .u32 0, .int .u8 0, .int .u8 0, .int .u8 0, .int .u8 0, .int .u8 0, .int .u8 0, .int .u8 0, .int .u8 0, .int .u8 0, .int .u8 0, .int .u8 0, .int .u8 0, .int .u8 0, .int .u8 0, .int .u8 0, .int .u8 0, .int .u8 0, .int .u8 0, .int .u8 0, .int .u8 0, .int .u8 0, .int .u8 0, .int .u8 0, .int .u8 0, .int .u8 0, .int .u8 0, .int .u8 0, .int .u8 0, .int .u8 0, .int .u8 0, .int .u8 0, .int .u8 0, .int .u8 0, .int .u8 0, .int .u8 0, .int .u8 0, .int .u8 0, .int .u8 0, .int .u8 0, .int .u8 0, .int .u8 0, .int .u8 0, .int .u8 0, .int .u8 0, .int .u8 0, .int .u8 0, .int .u8 0, .int .u8 0, .int .u8 0, .int .u8 0, .int .u8 0, .int .u8 0, .int .u8 0, .int .u8 0, .int .u8 0, .int .u8 0, .int .u8 0, .int .u8 0, .int .u8 0, .int .u8 0, .int .u8 0, .int .u8 0, .int .u8 0, .int .u8 0, .int .i64 0, .slice none 0 0, .slice none 0 0, .slice none 0 0], .agg #[.int .u32 0, .int .u8 0, .int .u8 0, .int .u8 0, .int .u8 0, .int .u8 0, .int .u8 0, .int .u8 0, .int .u8 0, .int .u8 0, .int .u8 0, .int .u8 0, .int .u8 0, .int .u8 0, .int .u8 0, .int .u8 0, .int .u8 0, .int .u8 0, .int .u8 0, .int .u8 0, .int .u8 0, .int .u8 0, .int .u8 0, .int .u8 0, .int .u8 0, .int .u8 0, .int .u8 0, .int .u8 0, .int .u8 0, .int .u8 0, .int .u8 0, .int .u8 0, .int .u8 0, .int .i64 0, .int .i64 0, .slice none 0 0, .slice none 0 0, .slice none 0 0]] 8 rfl (World.shaped_of_RefB (by kernel_rfl) (by kernel_rfl)) (by kernel_rfl) (by kernel_rfl) (by kernel_rfl) (door_met os _)) ?_
  intro W base args ds gs before hval0 hW _ _ hL _
  have hval : ∀ (j : Nat) t v, Tryz.f3.params[j]? = some t → args[j]? = some v → Value.okWide Tryz.prog W .any base t v := hval0
  have hW' := hW
  obtain ⟨p, q, hA0, hV, rfl, hfz, hnd⟩ := hW
  have hA : DataW.TrodAll enc Tryz.prog W 0 (fun _ => true) true Tryz.f3.params.toList args.toList ds p := hA0
  rw [Tryz.params3] at hA hval
  obtain ⟨v0, vs0, d0, ds0, p0, q0, hargs, rfl, rfl, h0, r0⟩ := trodAll_cons hA
  obtain ⟨v1, vs1, d1, ds1, p1, q1, rfl, rfl, rfl, h1, r1⟩ := trodAll_cons r0
  obtain ⟨v2, vs2, d2, ds2, p2, q2, rfl, rfl, rfl, h2, r2⟩ := trodAll_cons r1
  obtain ⟨v3, vs3, d3, ds3, p3, q3, rfl, rfl, rfl, h3, r3⟩ := trodAll_cons r2
  obtain ⟨v4, vs4, d4, ds4, p4, q4, rfl, rfl, rfl, h4, r4⟩ := trodAll_cons r3
  obtain ⟨rfl, rfl, rfl⟩ := trodAll_nil r4
  obtain rfl : args = #[v0, v1, v2, v3, v4] := by cases args; simp_all
  obtain ⟨rfl, rfl⟩ := trodVars_none hV
  have lt0 : ∀ x ∈ p0, x.block < W.heap.size := by obtain ⟨m, hm⟩ := h0; exact DataW.trod_lt m _ _ _ hm
  have lt1 : ∀ x ∈ p1, x.block < W.heap.size := by obtain ⟨m, hm⟩ := h1; exact DataW.trod_lt m _ _ _ hm
  have lt2 : ∀ x ∈ p2, x.block < W.heap.size := by obtain ⟨m, hm⟩ := h2; exact DataW.trod_lt m _ _ _ hm
  have lt3 : ∀ x ∈ p3, x.block < W.heap.size := by obtain ⟨m, hm⟩ := h3; exact DataW.trod_lt m _ _ _ hm
  have lt4 : ∀ x ∈ p4, x.block < W.heap.size := by obtain ⟨m, hm⟩ := h4; exact DataW.trod_lt m _ _ _ hm
  obtain ⟨x0, hx0⟩ := opens_val S_api_Replica.opens h0
  obtain ⟨x1, hx1⟩ := opens_val (opens_int Tryz.underlying26) h1
  obtain ⟨x2, hx2⟩ := opens_val S_api_Update.opens h2
  obtain ⟨x3, hx3⟩ := opens_val S_api_Update.opens h3
  obtain ⟨x4, hx4⟩ := opens_val S_api_Stop.opens h4
  have a0 := agg_of (c := S_api_Replica.ck) (hval 0 30 v0 rfl rfl) (by rw [Tryz.underlying30]; trivial) hx0
  have w0 := S_api_Replica.wf' _ _ _ hx0
  have a1 := val_int (hval 1 26 v1 rfl rfl) Tryz.underlying26 hx1
  have w1 := wf_int _ _ _ hx1
  have a2 := agg_of (c := S_api_Update.ck) (hval 2 34 v2 rfl rfl) (by rw [Tryz.underlying34]; trivial) hx2
  have w2 := S_api_Update.wf' _ _ _ hx2
  have a3 := agg_of (c := S_api_Update.ck) (hval 3 34 v3 rfl rfl) (by rw [Tryz.underlying34]; trivial) hx3
  have w3 := S_api_Update.wf' _ _ _ hx3
  have a4 := agg_of (c := S_api_Stop.ck) (hval 4 36 v4 rfl rfl) (by rw [Tryz.underlying36]; trivial) hx4
  have w4 := S_api_Stop.wf' _ _ _ hx4
  clear hA0 hval0
  refine (law_calls (law17_ReplicaHears_ok (plain x0 x1 x2 x3 x4 w0 w1 w2 w3 w4)) (KG_of hL) (args := [v0, v1, v2, v3, v4]) ⟨a0, a1, a2, a3, a4, trivial⟩).mono fun e W' ⟨he, bel⟩ => ?_
  subst he
  exact ⟨_, rfl, _, _, _, [], _, [], hW', trodAll_mk1 (shut_bool Tryz.underlying4 _), (trodAll_cons_mk (Below.trod laidOut (by kernel_rfl) (of_decide_eq_true (by kernel_rfl)) h0 bel lt0) (trodAll_cons_mk (Below.trod laidOut (by kernel_rfl) (of_decide_eq_true (by kernel_rfl)) h1 bel lt1) (trodAll_cons_mk (Below.trod laidOut (by kernel_rfl) (of_decide_eq_true (by kernel_rfl)) h2 bel lt2) (trodAll_cons_mk (Below.trod laidOut (by kernel_rfl) (of_decide_eq_true (by kernel_rfl)) h3 bel lt3) (trodAll_cons_mk (Below.trod laidOut (by kernel_rfl) (of_decide_eq_true (by kernel_rfl)) h4 bel lt4) trodAll_mk0))))), rfl, bel.frame _, fun h => by cases h⟩
theorem replicaHears_said (plain : plain_replicaHears) : Rows.ReplicaHearsSaid :=
  OpenClaim.holds_of_wide 3 Tryz.f3 rfl rfl rfl rfl rfl rfl rfl ⟨rfl, rfl, rfl, rfl, rfl⟩ rfl rfl rfl rfl rfl (by kernel_rfl) Tryz.func3 (by kernel_rfl)
    (of_decide_eq_true (by kernel_rfl)) (by unfold Func.isWrapper; first | (rw [if_pos (by decide +kernel)]; kernel_rfl) | (rw [if_neg (by decide +kernel)]; exact ⟨rfl, rfl⟩))
    (fun os started H enc _ => replicaHears_lifted plain os started H enc)
theorem replicaHears_card : Rows.ReplicaHearsCardSaid :=
  Claim7.holds_tied_plain_at .later [] [.data, .data] true (true, "dac0d8fcaa1ad1c2fce9de4874f60d2c0115a93ace50a498ca03d9f37c9a0f47") true
    (replicaHears_said (fun x0 x1 x2 x3 x4 w0 w1 w2 w3 w4 => replicaHears_true x0 x1 x2 x3 x4 w0.2.2.2.2.1 w1 ⟨w2.1, w2.2.1, w2.2.2.1, w2.2.2.2.2.1.2, w2.2.2.2.2.2.1.2, w2.2.2.2.2.2.2.2⟩ ⟨w3.1, w3.2.1, w3.2.2.1, w3.2.2.2.2.1.2, w3.2.2.2.2.2.1.2, w3.2.2.2.2.2.2.2⟩ ⟨w4.1, w4.2.1, w4.2.2.2.2.1.2, w4.2.2.2.2.2.1.2, w4.2.2.2.2.2.2.2⟩)) (fun _ h => by cases h) (by kernel_rfl) (fun _ h => by cases h) replicaHears_row_tie rfl ⟨rfl, rfl⟩ (by kernel_rfl) rfl
    (fun f fn hf hfn => by
      obtain rfl : f = 3 := Option.some.inj ((show Tryz.prog.funcNamed "pontoon/pontoonlaw17.ReplicaHears" = some 3 by kernel_rfl).symm.trans hf) |>.symm
      obtain rfl : fn = Tryz.f3 := (Option.some.inj (Tryz.func3.symm.trans hfn)).symm
      exact ⟨by kernel_rfl, fun j t ht => by
        rw [Tryz.params3] at ht
        have h3 : t ∈ ([30, 26, 34, 34, 36] : List TypeId) := by
          have := List.mem_of_getElem? (by simpa using ht)
          simpa using this
        simp only [List.mem_cons, List.not_mem_nil, or_false] at h3
        rcases h3 with rfl | rfl | rfl | rfl | rfl
        · exact (show Tryz.prog.wantsStandIn 30 = false by kernel_rfl)
        · exact (show Tryz.prog.wantsStandIn 26 = false by kernel_rfl)
        · exact (show Tryz.prog.wantsStandIn 34 = false by kernel_rfl)
        · exact (show Tryz.prog.wantsStandIn 34 = false by kernel_rfl)
        · exact (show Tryz.prog.wantsStandIn 36 = false by kernel_rfl)⟩)
    (by kernel_rfl)
#print axioms replicaHears_card
end Go.Proofs.YtnjkofmmpfehcaaGreatDoorR
