/- pontoon/pontoonlaw17.ReplicaOnce: whatever the input (the listed variables as the program's text lays them), the call returns true and each argument reads afterwards as it read before: the tied card. -/
import Derived.Test.YtnjkofmmpfehcaaDoorRC1
import Derived.Test.YtnjkofmmpfehcaaDoorRA22
import Derived.Test.YtnjkofmmpfehcaaDoorRP52
import Derived.SevenTiedAt
namespace Go.Proofs.YtnjkofmmpfehcaaDoorR
open Go Go.RowKit Go.Proofs Go.ChangeShapes Go.WideShapes Go.ChangeAt Go.WideMaps Go.WideElems
set_option maxRecDepth 100000
theorem cO22 : Tryd.prog.cellsOf 22 = 1 := by kernel_rfl
theorem cO5 : Tryd.prog.cellsOf 5 = 1 := by kernel_rfl
theorem cO25 : Tryd.prog.cellsOf 25 = 32 := by kernel_rfl
theorem cO26 : Tryd.prog.cellsOf 26 = 1 := by kernel_rfl
theorem cO27 : Tryd.prog.cellsOf 27 = 1 := by kernel_rfl
theorem cO60 : Tryd.prog.cellsOf 60 = 33 := by kernel_rfl
theorem S_api_Timed.opens : Opens Tryd.prog 60 S_api_Timed.ck := by
  intro H enc w base sp held fuel cs r h
  obtain ⟨hl, hf⟩ := opens_fields Tryd.underlying60 h
  obtain ⟨x0, h0⟩ : ∃ x, Lrel (allPub w) ((cs.drop 0).take (Tryd.prog.cellsOf 25)) ((dC 32) x) := hf 0 _ rfl (opens_bytes Tryd.underlying25 Tryd.underlying5 cO5 cO25)
  obtain ⟨x1, h1⟩ : ∃ x, Lrel (allPub w) ((cs.drop 32).take (Tryd.prog.cellsOf 27)) ((iC .u64) x) := hf 1 _ rfl (opens_int Tryd.underlying27)
  rw [cO25] at h0
  rw [cO27] at h1
  exact ⟨⟨x0, x1⟩, cut1 0 _ h0 (cut1 _ _ h1 (cut0 (hl.trans cO60)))⟩
def S_api_Timed.W (x : S_api_Timed) : Prop := (x.f_Root.length = 32) ∧ (InR .u64 x.f_At)
theorem S_api_Timed.wf {Φ : Pub} {cs : List Value} {x : S_api_Timed} (h : Lrel Φ cs (S_api_Timed.ck x)) : S_api_Timed.W x := by
  obtain ⟨⟨_, g0⟩, _, k0⟩ := wf_cut h
  obtain ⟨⟨_, g1⟩, _, k1⟩ := wf_cut k0
  exact ⟨wf_bytes _ _ _ g0, wf_int _ _ _ g1⟩
theorem S_api_Timed.wf' : ∀ (Φ : Pub) (cs : List Value) (x : S_api_Timed), Lrel Φ cs (S_api_Timed.ck x) → S_api_Timed.W x := fun _ _ _ h => S_api_Timed.wf h
theorem cO28 : Tryd.prog.cellsOf 28 = 1 := by kernel_rfl
theorem cO3 : Tryd.prog.cellsOf 3 = 1 := by kernel_rfl
theorem cO71 : Tryd.prog.cellsOf 71 = 65 := by kernel_rfl
theorem S_api_State.opens : Opens Tryd.prog 71 S_api_State.ck := by
  intro H enc w base sp held fuel cs r h
  obtain ⟨hl, hf⟩ := opens_fields Tryd.underlying71 h
  obtain ⟨x0, h0⟩ : ∃ x, Lrel (allPub w) ((cs.drop 0).take (Tryd.prog.cellsOf 25)) ((dC 32) x) := hf 0 _ rfl (opens_bytes Tryd.underlying25 Tryd.underlying5 cO5 cO25)
  obtain ⟨x1, h1⟩ : ∃ x, Lrel (allPub w) ((cs.drop 32).take (Tryd.prog.cellsOf 3)) ((iC .i64) x) := hf 1 _ rfl (opens_int Tryd.underlying3)
  obtain ⟨x2, h2⟩ : ∃ x, Lrel (allPub w) ((cs.drop 33).take (Tryd.prog.cellsOf 25)) ((dC 32) x) := hf 2 _ rfl (opens_bytes Tryd.underlying25 Tryd.underlying5 cO5 cO25)
  rw [cO25] at h0
  rw [cO3] at h1
  rw [cO25] at h2
  exact ⟨⟨x0, x1, x2⟩, cut1 0 _ h0 (cut1 _ _ h1 (cut1 _ _ h2 (cut0 (hl.trans cO71))))⟩
def S_api_State.W (x : S_api_State) : Prop := (x.f_Leaf.length = 32) ∧ (InR .i64 x.f_Status) ∧ (x.f_Root.length = 32)
theorem S_api_State.wf {Φ : Pub} {cs : List Value} {x : S_api_State} (h : Lrel Φ cs (S_api_State.ck x)) : S_api_State.W x := by
  obtain ⟨⟨_, g0⟩, _, k0⟩ := wf_cut h
  obtain ⟨⟨_, g1⟩, _, k1⟩ := wf_cut k0
  obtain ⟨⟨_, g2⟩, _, k2⟩ := wf_cut k1
  exact ⟨wf_bytes _ _ _ g0, wf_int _ _ _ g1, wf_bytes _ _ _ g2⟩
theorem S_api_State.wf' : ∀ (Φ : Pub) (cs : List Value) (x : S_api_State), Lrel Φ cs (S_api_State.ck x) → S_api_State.W x := fun _ _ _ h => S_api_State.wf h
theorem cO29 : Tryd.prog.cellsOf 29 = 1 := by kernel_rfl
theorem cO4 : Tryd.prog.cellsOf 4 = 1 := by kernel_rfl
theorem cO31 : Tryd.prog.cellsOf 31 = 72 := by kernel_rfl
theorem S_api_Replica.opens : Opens Tryd.prog 31 S_api_Replica.ck := by
  intro H enc w base sp held fuel cs r h
  obtain ⟨hl, hf⟩ := opens_fields Tryd.underlying31 h
  obtain ⟨x0, h0⟩ : ∃ x, Lrel (allPub w) ((cs.drop 0).take (Tryd.prog.cellsOf 22)) ((iC .u32) x) := hf 0 _ rfl (opens_int Tryd.underlying22)
  obtain ⟨x1, h1⟩ : ∃ x, Lrel (allPub w) ((cs.drop 1).take (Tryd.prog.cellsOf 22)) ((iC .u32) x) := hf 1 _ rfl (opens_int Tryd.underlying22)
  obtain ⟨x2, h2⟩ : ∃ x, Lrel (allPub w) ((cs.drop 2).take (Tryd.prog.cellsOf 25)) ((dC 32) x) := hf 2 _ rfl (opens_bytes Tryd.underlying25 Tryd.underlying5 cO5 cO25)
  obtain ⟨x3, h3⟩ : ∃ x, Lrel (allPub w) ((cs.drop 34).take (Tryd.prog.cellsOf 26)) ((slC (dC 32)) x) := hf 3 _ rfl (opens_slice Tryd.underlying26 (opens_bytes Tryd.underlying25 Tryd.underlying5 cO5 cO25) cO25 (lens_dC 32) (by decide))
  obtain ⟨x4, h4⟩ : ∃ x, Lrel (allPub w) ((cs.drop 35).take (Tryd.prog.cellsOf 27)) ((iC .u64) x) := hf 4 _ rfl (opens_int Tryd.underlying27)
  obtain ⟨x5, h5⟩ : ∃ x, Lrel (allPub w) ((cs.drop 36).take (Tryd.prog.cellsOf 25)) ((dC 32) x) := hf 5 _ rfl (opens_bytes Tryd.underlying25 Tryd.underlying5 cO5 cO25)
  obtain ⟨x6, h6⟩ : ∃ x, Lrel (allPub w) ((cs.drop 68).take (Tryd.prog.cellsOf 28)) ((slC S_api_Timed.ck) x) := hf 6 _ rfl (opens_slice Tryd.underlying28 S_api_Timed.opens cO60 S_api_Timed.lens (by decide))
  obtain ⟨x7, h7⟩ : ∃ x, Lrel (allPub w) ((cs.drop 69).take (Tryd.prog.cellsOf 29)) ((slC S_api_State.ck) x) := hf 7 _ rfl (opens_slice Tryd.underlying29 S_api_State.opens cO71 S_api_State.lens (by decide))
  obtain ⟨x8, h8⟩ : ∃ x, Lrel (allPub w) ((cs.drop 70).take (Tryd.prog.cellsOf 4)) (boC x) := hf 8 _ rfl (opens_bool Tryd.underlying4)
  obtain ⟨x9, h9⟩ : ∃ x, Lrel (allPub w) ((cs.drop 71).take (Tryd.prog.cellsOf 4)) (boC x) := hf 9 _ rfl (opens_bool Tryd.underlying4)
  rw [cO22] at h0
  rw [cO22] at h1
  rw [cO25] at h2
  rw [cO26] at h3
  rw [cO27] at h4
  rw [cO25] at h5
  rw [cO28] at h6
  rw [cO29] at h7
  rw [cO4] at h8
  rw [cO4] at h9
  exact ⟨⟨x0, x1, x2, x3, x4, x5, x6, x7, x8, x9⟩, cut1 0 _ h0 (cut1 _ _ h1 (cut1 _ _ h2 (cut1 _ _ h3 (cut1 _ _ h4 (cut1 _ _ h5 (cut1 _ _ h6 (cut1 _ _ h7 (cut1 _ _ h8 (cut1 _ _ h9 (cut0 (hl.trans cO31)))))))))))⟩
def S_api_Replica.W (x : S_api_Replica) : Prop := (InR .u32 x.f_Chain) ∧ (InR .u32 x.f_Here) ∧ (x.f_Updater.length = 32) ∧ (x.f_Watchers.length ≤ mxl ∧ ∀ y ∈ x.f_Watchers, y.length = 32) ∧ (InR .u64 x.f_Window) ∧ (x.f_Committed.length = 32) ∧ (x.f_Roots.length ≤ mxl ∧ ∀ y ∈ x.f_Roots, S_api_Timed.W y) ∧ (x.f_States.length ≤ mxl ∧ ∀ y ∈ x.f_States, S_api_State.W y)
theorem S_api_Replica.wf {Φ : Pub} {cs : List Value} {x : S_api_Replica} (h : Lrel Φ cs (S_api_Replica.ck x)) : S_api_Replica.W x := by
  obtain ⟨⟨_, g0⟩, _, k0⟩ := wf_cut h
  obtain ⟨⟨_, g1⟩, _, k1⟩ := wf_cut k0
  obtain ⟨⟨_, g2⟩, _, k2⟩ := wf_cut k1
  obtain ⟨⟨_, g3⟩, _, k3⟩ := wf_cut k2
  obtain ⟨⟨_, g4⟩, _, k4⟩ := wf_cut k3
  obtain ⟨⟨_, g5⟩, _, k5⟩ := wf_cut k4
  obtain ⟨⟨_, g6⟩, _, k6⟩ := wf_cut k5
  obtain ⟨⟨_, g7⟩, _, k7⟩ := wf_cut k6
  obtain ⟨⟨_, g8⟩, _, k8⟩ := wf_cut k7
  obtain ⟨⟨_, g9⟩, _, k9⟩ := wf_cut k8
  exact ⟨wf_int _ _ _ g0, wf_int _ _ _ g1, wf_bytes _ _ _ g2, (wf_slice wf_bytes) _ _ _ g3, wf_int _ _ _ g4, wf_bytes _ _ _ g5, (wf_slice S_api_Timed.wf') _ _ _ g6, (wf_slice S_api_State.wf') _ _ _ g7⟩
theorem S_api_Replica.wf' : ∀ (Φ : Pub) (cs : List Value) (x : S_api_Replica), Lrel Φ cs (S_api_Replica.ck x) → S_api_Replica.W x := fun _ _ _ h => S_api_Replica.wf h
theorem cO9 : Tryd.prog.cellsOf 9 = 1 := by kernel_rfl
theorem cO67 : Tryd.prog.cellsOf 67 = 6 := by kernel_rfl
theorem S_api_Letter.opens : Opens Tryd.prog 67 S_api_Letter.ck := by
  intro H enc w base sp held fuel cs r h
  obtain ⟨hl, hf⟩ := opens_fields Tryd.underlying67 h
  obtain ⟨x0, h0⟩ : ∃ x, Lrel (allPub w) ((cs.drop 0).take (Tryd.prog.cellsOf 22)) ((iC .u32) x) := hf 0 _ rfl (opens_int Tryd.underlying22)
  obtain ⟨x1, h1⟩ : ∃ x, Lrel (allPub w) ((cs.drop 1).take (Tryd.prog.cellsOf 22)) ((iC .u32) x) := hf 1 _ rfl (opens_int Tryd.underlying22)
  obtain ⟨x2, h2⟩ : ∃ x, Lrel (allPub w) ((cs.drop 2).take (Tryd.prog.cellsOf 22)) ((iC .u32) x) := hf 2 _ rfl (opens_int Tryd.underlying22)
  obtain ⟨x3, h3⟩ : ∃ x, Lrel (allPub w) ((cs.drop 3).take (Tryd.prog.cellsOf 9)) (strC x) := hf 3 _ rfl (opens_str Tryd.underlying9)
  obtain ⟨x4, h4⟩ : ∃ x, Lrel (allPub w) ((cs.drop 4).take (Tryd.prog.cellsOf 9)) (strC x) := hf 4 _ rfl (opens_str Tryd.underlying9)
  obtain ⟨x5, h5⟩ : ∃ x, Lrel (allPub w) ((cs.drop 5).take (Tryd.prog.cellsOf 9)) (strC x) := hf 5 _ rfl (opens_str Tryd.underlying9)
  rw [cO22] at h0
  rw [cO22] at h1
  rw [cO22] at h2
  rw [cO9] at h3
  rw [cO9] at h4
  rw [cO9] at h5
  exact ⟨⟨x0, x1, x2, x3, x4, x5⟩, cut1 0 _ h0 (cut1 _ _ h1 (cut1 _ _ h2 (cut1 _ _ h3 (cut1 _ _ h4 (cut1 _ _ h5 (cut0 (hl.trans cO67)))))))⟩
def S_api_Letter.W (x : S_api_Letter) : Prop := (InR .u32 x.f_From) ∧ (InR .u32 x.f_Nonce) ∧ (InR .u32 x.f_To) ∧ (x.f_Sender.length ≤ mxl) ∧ (x.f_Receiver.length ≤ mxl) ∧ (x.f_Body.length ≤ mxl)
theorem S_api_Letter.wf {Φ : Pub} {cs : List Value} {x : S_api_Letter} (h : Lrel Φ cs (S_api_Letter.ck x)) : S_api_Letter.W x := by
  obtain ⟨⟨_, g0⟩, _, k0⟩ := wf_cut h
  obtain ⟨⟨_, g1⟩, _, k1⟩ := wf_cut k0
  obtain ⟨⟨_, g2⟩, _, k2⟩ := wf_cut k1
  obtain ⟨⟨_, g3⟩, _, k3⟩ := wf_cut k2
  obtain ⟨⟨_, g4⟩, _, k4⟩ := wf_cut k3
  obtain ⟨⟨_, g5⟩, _, k5⟩ := wf_cut k4
  exact ⟨wf_int _ _ _ g0, wf_int _ _ _ g1, wf_int _ _ _ g2, wf_str _ _ _ g3, wf_str _ _ _ g4, wf_str _ _ _ g5⟩
theorem S_api_Letter.wf' : ∀ (Φ : Pub) (cs : List Value) (x : S_api_Letter), Lrel Φ cs (S_api_Letter.ck x) → S_api_Letter.W x := fun _ _ _ h => S_api_Letter.wf h
def plain_replicaOnce : Prop := ∀ (x0 : S_api_Replica) (x1 : Int) (x2 : S_api_Letter) (x3 : Int) (x4 : List (List UInt8)) (x5 : Int), (S_api_Replica.W x0) → (InR .u64 x1) → (S_api_Letter.W x2) → (InR .u32 x3) → (x4.length ≤ mxl ∧ ∀ y ∈ x4, y.length = 32) → (InR .i64 x5) → law17_ReplicaOnce x0 x1 x2 x3 x4 x5 = some true
theorem replicaOnce_lifted (plain : plain_replicaOnce) (os : Os) (started : os.Started) (H : Type) (enc : TypeId × Value → H) :
    ReturnsInHanded {} Tryd.checked os 6 .any (fun w args => (Rows.replicaOnceSpec.pre enc Tryd.prog Tryd.f6 [] false w args ∧ laidMetH Tryd.prog laidL w) ∧ sizedMet enc Tryd.prog Tryd.f6 (OpenSpec.ofChange Rows.replicaOnceSpec) false w args)
      (Rows.replicaOnceSpec.post enc Tryd.prog Tryd.f6 false true false false) := by
  refine returnsInHanded_of_change_and (C := Tryd.checked) (X := fun w _ => laidMetH Tryd.prog laidL w) (fun _ _ _ hh h => h.of_heap hh) ownKn started (by kernel_rfl) Tryd.func6
    (ChangeSpec.witness_shaped (enc := enc) (C := Tryd.checked) (os := os) (X := fun w _ => laidMetH Tryd.prog laidL w) false (World.doorLaid Tryd.prog 400 os) #[.agg #[.int .u32 0, .int .u32 0, .int .u8 0, .int .u8 0, .int .u8 0, .int .u8 0, .int .u8 0, .int .u8 0, .int .u8 0, .int .u8 0, .int .u8 0, .int .u8 0, .int .u8 0, .int .u8 0, .int .u8 0, .int .u8 0, .int .u8 0, .int .u8 0, .int .u8 0, .int .u8 0, .int .u8 0, .int .u8 0, .int .u8 0, .int .u8 0, .int .u8 0, .int .u8 0, .int .u8 0, .int .u8 0, .int .u8 0, .int .u8 0, .int .u8 0, .int .u8 0, .int .u8 0, .int .u8 0, .slice none 0 0, .int .u64 0, .int .u8 0, .int .u8 0, .int .u8 0, .int .u8 0, .int .u8 0, .int .u8 0, .int .u8 0, .int .u8 0, .int .u8 0, .int .u8 0, .int .u8 0, .int .u8 0, .int .u8 0, .int .u8 0, .int .u8 0, .int .u8 0, .int .u8 0, .int .u8 0, .int .u8 0, .int .u8 0, .int .u8 0, .int .u8 0, .int .u8 0, .int .u8 0, .int .u8 0, .int .u8 0, .int .u8 0, .int .u8 0, .int .u8 0, .int .u8 0, .int .u8 0, .int .u8 0, .slice none 0 0, .slice none 0 0, .bool false, .bool false], .int .u64 0, .agg #[.int .u32 0, .int .u32 0, .int .u32 0, .string ⟨#[]⟩, .string ⟨#[]⟩, .string ⟨#[]⟩], .int .u32 0, .slice none 0 0, .int .i64 0] 8 rfl (World.shaped_of_RefB (by kernel_rfl) (by kernel_rfl)) (by kernel_rfl) (by kernel_rfl) (by kernel_rfl) (door_met os _)) ?_
  intro W base args ds gs before hval0 hW _ _ hL _
  have hval : ∀ (j : Nat) t v, Tryd.f6.params[j]? = some t → args[j]? = some v → Value.okWide Tryd.prog W .any base t v := hval0
  have hW' := hW
  obtain ⟨p, q, hA0, hV, rfl, hfz, hnd⟩ := hW
  have hA : DataW.TrodAll enc Tryd.prog W 0 (fun _ => true) true Tryd.f6.params.toList args.toList ds p := hA0
  rw [Tryd.params6] at hA hval
  obtain ⟨v0, vs0, d0, ds0, p0, q0, hargs, rfl, rfl, h0, r0⟩ := trodAll_cons hA
  obtain ⟨v1, vs1, d1, ds1, p1, q1, rfl, rfl, rfl, h1, r1⟩ := trodAll_cons r0
  obtain ⟨v2, vs2, d2, ds2, p2, q2, rfl, rfl, rfl, h2, r2⟩ := trodAll_cons r1
  obtain ⟨v3, vs3, d3, ds3, p3, q3, rfl, rfl, rfl, h3, r3⟩ := trodAll_cons r2
  obtain ⟨v4, vs4, d4, ds4, p4, q4, rfl, rfl, rfl, h4, r4⟩ := trodAll_cons r3
  obtain ⟨v5, vs5, d5, ds5, p5, q5, rfl, rfl, rfl, h5, r5⟩ := trodAll_cons r4
  obtain ⟨rfl, rfl, rfl⟩ := trodAll_nil r5
  obtain rfl : args = #[v0, v1, v2, v3, v4, v5] := by cases args; simp_all
  obtain ⟨rfl, rfl⟩ := trodVars_none hV
  have lt0 : ∀ x ∈ p0, x.block < W.heap.size := by obtain ⟨m, hm⟩ := h0; exact DataW.trod_lt m _ _ _ hm
  have lt1 : ∀ x ∈ p1, x.block < W.heap.size := by obtain ⟨m, hm⟩ := h1; exact DataW.trod_lt m _ _ _ hm
  have lt2 : ∀ x ∈ p2, x.block < W.heap.size := by obtain ⟨m, hm⟩ := h2; exact DataW.trod_lt m _ _ _ hm
  have lt3 : ∀ x ∈ p3, x.block < W.heap.size := by obtain ⟨m, hm⟩ := h3; exact DataW.trod_lt m _ _ _ hm
  have lt4 : ∀ x ∈ p4, x.block < W.heap.size := by obtain ⟨m, hm⟩ := h4; exact DataW.trod_lt m _ _ _ hm
  have lt5 : ∀ x ∈ p5, x.block < W.heap.size := by obtain ⟨m, hm⟩ := h5; exact DataW.trod_lt m _ _ _ hm
  obtain ⟨x0, hx0⟩ := opens_val S_api_Replica.opens h0
  obtain ⟨x1, hx1⟩ := opens_val (opens_int Tryd.underlying27) h1
  obtain ⟨x2, hx2⟩ := opens_val S_api_Letter.opens h2
  obtain ⟨x3, hx3⟩ := opens_val (opens_int Tryd.underlying22) h3
  obtain ⟨x4, hx4⟩ := opens_val (opens_slice Tryd.underlying26 (opens_bytes Tryd.underlying25 Tryd.underlying5 cO5 cO25) cO25 (lens_dC 32) (by decide)) h4
  obtain ⟨x5, hx5⟩ := opens_val (opens_int Tryd.underlying3) h5
  have a0 := agg_of (c := S_api_Replica.ck) (hval 0 31 v0 rfl rfl) (by rw [Tryd.underlying31]; trivial) hx0
  have w0 := S_api_Replica.wf' _ _ _ hx0
  have a1 := val_int (hval 1 27 v1 rfl rfl) Tryd.underlying27 hx1
  have w1 := wf_int _ _ _ hx1
  have a2 := agg_of (c := S_api_Letter.ck) (hval 2 67 v2 rfl rfl) (by rw [Tryd.underlying67]; trivial) hx2
  have w2 := S_api_Letter.wf' _ _ _ hx2
  have a3 := val_int (hval 3 22 v3 rfl rfl) Tryd.underlying22 hx3
  have w3 := wf_int _ _ _ hx3
  have a4 := val_slice (hval 4 26 v4 rfl rfl) Tryd.underlying26 hx4
  have w4 := (wf_slice wf_bytes) _ _ _ hx4
  have a5 := val_int (hval 5 3 v5 rfl rfl) Tryd.underlying3 hx5
  have w5 := wf_int _ _ _ hx5
  clear hA0 hval0
  refine (law_calls (law17_ReplicaOnce_ok (plain x0 x1 x2 x3 x4 x5 w0 w1 w2 w3 w4 w5)) (KG_of hL) (args := [v0, v1, v2, v3, v4, v5]) ⟨a0, a1, a2, a3, a4, a5, trivial⟩).mono fun e W' ⟨he, bel⟩ => ?_
  subst he
  exact ⟨_, rfl, _, _, _, [], _, [], hW', trodAll_mk1 (shut_bool Tryd.underlying4 _), (trodAll_cons_mk (Below.trod laidOut (by kernel_rfl) (of_decide_eq_true (by kernel_rfl)) h0 bel lt0) (trodAll_cons_mk (Below.trod laidOut (by kernel_rfl) (of_decide_eq_true (by kernel_rfl)) h1 bel lt1) (trodAll_cons_mk (Below.trod laidOut (by kernel_rfl) (of_decide_eq_true (by kernel_rfl)) h2 bel lt2) (trodAll_cons_mk (Below.trod laidOut (by kernel_rfl) (of_decide_eq_true (by kernel_rfl)) h3 bel lt3) (trodAll_cons_mk (Below.trod laidOut (by kernel_rfl) (of_decide_eq_true (by kernel_rfl)) h4 bel lt4) (trodAll_cons_mk (Below.trod laidOut (by kernel_rfl) (of_decide_eq_true (by kernel_rfl)) h5 bel lt5) trodAll_mk0)))))), rfl, bel.frame _, fun h => by cases h⟩
theorem replicaOnce_said (plain : plain_replicaOnce) : Rows.ReplicaOnceSaid :=
  OpenClaim.holds_of_wide 6 Tryd.f6 rfl rfl rfl rfl rfl rfl rfl ⟨rfl, rfl, rfl, rfl, rfl⟩ rfl rfl rfl rfl rfl (by kernel_rfl) Tryd.func6 (by kernel_rfl)
    (of_decide_eq_true (by kernel_rfl)) (by unfold Func.isWrapper; first | (rw [if_pos (by decide +kernel)]; kernel_rfl) | (rw [if_neg (by decide +kernel)]; exact ⟨rfl, rfl⟩))
    (fun os started H enc _ => replicaOnce_lifted plain os started H enc)
theorem replicaOnce_card : Rows.ReplicaOnceCardSaid :=
  Claim7.holds_tied_plain_at .later [] [.data, .data] true (true, "82f4732323db7de00951200c481241c67e5f49e3db69962823e48665eab4b41d") false
    (replicaOnce_said (fun x0 x1 x2 x3 x4 x5 _ _ w2 _ w4 _ => replicaOnce_true x0 x1 x2 x3 x4 x5 w2.1 w2.2.1 w2.2.2.1 w4.2)) (fun _ h => by cases h) (by kernel_rfl) (fun _ h => by cases h) replicaOnce_row_tie rfl ⟨rfl, rfl⟩ (by kernel_rfl) rfl
    (fun f fn hf hfn => by
      obtain rfl : f = 6 := Option.some.inj ((show Tryd.prog.funcNamed "pontoon/pontoonlaw17.ReplicaOnce" = some 6 by kernel_rfl).symm.trans hf) |>.symm
      obtain rfl : fn = Tryd.f6 := (Option.some.inj (Tryd.func6.symm.trans hfn)).symm
      exact ⟨by kernel_rfl, fun j t ht => by
        rw [Tryd.params6] at ht
        have h3 : t ∈ ([31, 27, 67, 22, 26, 3] : List TypeId) := by
          have := List.mem_of_getElem? (by simpa using ht)
          simpa using this
        simp only [List.mem_cons, List.not_mem_nil, or_false] at h3
        rcases h3 with rfl | rfl | rfl | rfl | rfl | rfl
        · exact (show Tryd.prog.wantsStandIn 31 = false by kernel_rfl)
        · exact (show Tryd.prog.wantsStandIn 27 = false by kernel_rfl)
        · exact (show Tryd.prog.wantsStandIn 67 = false by kernel_rfl)
        · exact (show Tryd.prog.wantsStandIn 22 = false by kernel_rfl)
        · exact (show Tryd.prog.wantsStandIn 26 = false by kernel_rfl)
        · exact (show Tryd.prog.wantsStandIn 3 = false by kernel_rfl)⟩)
    (by kernel_rfl)
#print axioms replicaOnce_card
end Go.Proofs.YtnjkofmmpfehcaaDoorR
