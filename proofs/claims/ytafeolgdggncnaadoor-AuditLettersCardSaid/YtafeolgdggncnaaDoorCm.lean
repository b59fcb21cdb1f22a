/- pontoon/pontoonlaw28.AuditLetters: whatever the input (the listed variables as the program's text lays them), the call returns true and each argument reads afterwards as it read before: the tied card. -/
import Derived.Test.YtafeolgdggncnaaDoorC1
import Derived.Test.YtafeolgdggncnaaDoorA22
import Derived.Test.YtafeolgdggncnaaDoorP70
import Derived.SevenTiedAt
namespace Go.Proofs.YtafeolgdggncnaaDoor
open Go Go.RowKit Go.Proofs Go.ChangeShapes Go.WideShapes Go.ChangeAt Go.WideMaps Go.WideElems
set_option maxRecDepth 100000
theorem cO22 : Tryd.prog.cellsOf 22 = 1 := by kernel_rfl
theorem cO9 : Tryd.prog.cellsOf 9 = 1 := by kernel_rfl
theorem cO66 : Tryd.prog.cellsOf 66 = 6 := by kernel_rfl
theorem S_api_Letter.opens : Opens Tryd.prog 66 S_api_Letter.ck := by
  intro H enc w base sp held fuel cs r h
  obtain ⟨hl, hf⟩ := opens_fields Tryd.underlying66 h
  obtain ⟨x0, h0⟩ : ∃ x, Lrel (allPub w) ((cs.drop 0).take (Tryd.prog.cellsOf 22)) ((iC .u32) x) := hf 0 _ rfl (opens_int Tryd.underlying22)
  obtain ⟨x1, h1⟩ : ∃ x, Lrel (allPub w) ((cs.drop 1).take (Tryd.prog.cellsOf 22)) ((iC .u32) x) := hf 1 _ rfl (opens_int Tryd.underlying22)
  obtain ⟨x2, h2⟩ : ∃ x, Lrel (allPub w) ((cs.drop 2).take (Tryd.prog.cellsOf 22)) ((iC .u32) x) := hf 2 _ rfl (opens_int Tryd.underlying22)
  obtain ⟨x3, h3⟩ : ∃ x, Lrel (allPub w) ((cs.drop 3).take (Tryd.prog.cellsOf 9)) (strC x) := hf 3 _ rfl (opens_str Tryd.underlying9)
  obtain ⟨x4, h4⟩ : ∃ x, Lrel (allPub w) ((cs.drop 4).take (Tryd.prog.cellsOf 9)) (strC x) := hf 4 _ rfl (opens_str Tryd.underlying9)
  obtain ⟨x5, h5⟩ : ∃ x, Lrel (allPub w) ((cs.drop 5).take (Tryd.prog.cellsOf 9)) (strC x) := hf 5 _ rfl (opens_str Tryd.underlying9)
  rw [cO22] at h0
  rw [cO22] at h1
  rw [cO22] at h2
  rw [cO9] at h3
  rw [cO9] at h4
  rw [cO9] at h5
  exact ⟨⟨x0, x1, x2, x3, x4, x5⟩, cut1 0 _ h0 (cut1 _ _ h1 (cut1 _ _ h2 (cut1 _ _ h3 (cut1 _ _ h4 (cut1 _ _ h5 (cut0 (hl.trans cO66)))))))⟩
def S_api_Letter.W (x : S_api_Letter) : Prop := (InR .u32 x.f_From) ∧ (InR .u32 x.f_Nonce) ∧ (InR .u32 x.f_To) ∧ (x.f_Sender.length ≤ mxl) ∧ (x.f_Receiver.length ≤ mxl) ∧ (x.f_Body.length ≤ mxl)
theorem S_api_Letter.wf {Φ : Pub} {cs : List Value} {x : S_api_Letter} (h : Lrel Φ cs (S_api_Letter.ck x)) : S_api_Letter.W x := by
  obtain ⟨⟨_, g0⟩, _, k0⟩ := wf_cut h
  obtain ⟨⟨_, g1⟩, _, k1⟩ := wf_cut k0
  obtain ⟨⟨_, g2⟩, _, k2⟩ := wf_cut k1
  obtain ⟨⟨_, g3⟩, _, k3⟩ := wf_cut k2
  obtain ⟨⟨_, g4⟩, _, k4⟩ := wf_cut k3
  obtain ⟨⟨_, g5⟩, _, k5⟩ := wf_cut k4
  exact ⟨wf_int _ _ _ g0, wf_int _ _ _ g1, wf_int _ _ _ g2, wf_str _ _ _ g3, wf_str _ _ _ g4, wf_str _ _ _ g5⟩
theorem S_api_Letter.wf' : ∀ (Φ : Pub) (cs : List Value) (x : S_api_Letter), Lrel Φ cs (S_api_Letter.ck x) → S_api_Letter.W x := fun _ _ _ h => S_api_Letter.wf h
theorem cO5 : Tryd.prog.cellsOf 5 = 1 := by kernel_rfl
theorem cO33 : Tryd.prog.cellsOf 33 = 32 := by kernel_rfl
theorem cO37 : Tryd.prog.cellsOf 37 = 1 := by kernel_rfl
theorem cO23 : Tryd.prog.cellsOf 23 = 1 := by kernel_rfl
theorem cO175 : Tryd.prog.cellsOf 175 = 33 := by kernel_rfl
theorem S_api_Timed.opens : Opens Tryd.prog 175 S_api_Timed.ck := by
  intro H enc w base sp held fuel cs r h
  obtain ⟨hl, hf⟩ := opens_fields Tryd.underlying175 h
  obtain ⟨x0, h0⟩ : ∃ x, Lrel (allPub w) ((cs.drop 0).take (Tryd.prog.cellsOf 33)) ((dC 32) x) := hf 0 _ rfl (opens_bytes Tryd.underlying33 Tryd.underlying5 cO5 cO33)
  obtain ⟨x1, h1⟩ : ∃ x, Lrel (allPub w) ((cs.drop 32).take (Tryd.prog.cellsOf 23)) ((iC .u64) x) := hf 1 _ rfl (opens_int Tryd.underlying23)
  rw [cO33] at h0
  rw [cO23] at h1
  exact ⟨⟨x0, x1⟩, cut1 0 _ h0 (cut1 _ _ h1 (cut0 (hl.trans cO175)))⟩
def S_api_Timed.W (x : S_api_Timed) : Prop := (x.f_Root.length = 32) ∧ (InR .u64 x.f_At)
theorem S_api_Timed.wf {Φ : Pub} {cs : List Value} {x : S_api_Timed} (h : Lrel Φ cs (S_api_Timed.ck x)) : S_api_Timed.W x := by
  obtain ⟨⟨_, g0⟩, _, k0⟩ := wf_cut h
  obtain ⟨⟨_, g1⟩, _, k1⟩ := wf_cut k0
  exact ⟨wf_bytes _ _ _ g0, wf_int _ _ _ g1⟩
theorem S_api_Timed.wf' : ∀ (Φ : Pub) (cs : List Value) (x : S_api_Timed), Lrel Φ cs (S_api_Timed.ck x) → S_api_Timed.W x := fun _ _ _ h => S_api_Timed.wf h
theorem cO41 : Tryd.prog.cellsOf 41 = 1 := by kernel_rfl
theorem cO3 : Tryd.prog.cellsOf 3 = 1 := by kernel_rfl
theorem cO130 : Tryd.prog.cellsOf 130 = 65 := by kernel_rfl
theorem S_api_State.opens : Opens Tryd.prog 130 S_api_State.ck := by
  intro H enc w base sp held fuel cs r h
  obtain ⟨hl, hf⟩ := opens_fields Tryd.underlying130 h
  obtain ⟨x0, h0⟩ : ∃ x, Lrel (allPub w) ((cs.drop 0).take (Tryd.prog.cellsOf 33)) ((dC 32) x) := hf 0 _ rfl (opens_bytes Tryd.underlying33 Tryd.underlying5 cO5 cO33)
  obtain ⟨x1, h1⟩ : ∃ x, Lrel (allPub w) ((cs.drop 32).take (Tryd.prog.cellsOf 3)) ((iC .i64) x) := hf 1 _ rfl (opens_int Tryd.underlying3)
  obtain ⟨x2, h2⟩ : ∃ x, Lrel (allPub w) ((cs.drop 33).take (Tryd.prog.cellsOf 33)) ((dC 32) x) := hf 2 _ rfl (opens_bytes Tryd.underlying33 Tryd.underlying5 cO5 cO33)
  rw [cO33] at h0
  rw [cO3] at h1
  rw [cO33] at h2
  exact ⟨⟨x0, x1, x2⟩, cut1 0 _ h0 (cut1 _ _ h1 (cut1 _ _ h2 (cut0 (hl.trans cO130))))⟩
def S_api_State.W (x : S_api_State) : Prop := (x.f_Leaf.length = 32) ∧ (InR .i64 x.f_Status) ∧ (x.f_Root.length = 32)
theorem S_api_State.wf {Φ : Pub} {cs : List Value} {x : S_api_State} (h : Lrel Φ cs (S_api_State.ck x)) : S_api_State.W x := by
  obtain ⟨⟨_, g0⟩, _, k0⟩ := wf_cut h
  obtain ⟨⟨_, g1⟩, _, k1⟩ := wf_cut k0
  obtain ⟨⟨_, g2⟩, _, k2⟩ := wf_cut k1
  exact ⟨wf_bytes _ _ _ g0, wf_int _ _ _ g1, wf_bytes _ _ _ g2⟩
theorem S_api_State.wf' : ∀ (Φ : Pub) (cs : List Value) (x : S_api_State), Lrel Φ cs (S_api_State.ck x) → S_api_State.W x := fun _ _ _ h => S_api_State.wf h
theorem cO42 : Tryd.prog.cellsOf 42 = 1 := by kernel_rfl
theorem cO4 : Tryd.prog.cellsOf 4 = 1 := by kernel_rfl
theorem cO44 : Tryd.prog.cellsOf 44 = 72 := by kernel_rfl
theorem S_api_Replica.opens : Opens Tryd.prog 44 S_api_Replica.ck := by
  intro H enc w base sp held fuel cs r h
  obtain ⟨hl, hf⟩ := opens_fields Tryd.underlying44 h
  obtain ⟨x0, h0⟩ : ∃ x, Lrel (allPub w) ((cs.drop 0).take (Tryd.prog.cellsOf 22)) ((iC .u32) x) := hf 0 _ rfl (opens_int Tryd.underlying22)
  obtain ⟨x1, h1⟩ : ∃ x, Lrel (allPub w) ((cs.drop 1).take (Tryd.prog.cellsOf 22)) ((iC .u32) x) := hf 1 _ rfl (opens_int Tryd.underlying22)
  obtain ⟨x2, h2⟩ : ∃ x, Lrel (allPub w) ((cs.drop 2).take (Tryd.prog.cellsOf 33)) ((dC 32) x) := hf 2 _ rfl (opens_bytes Tryd.underlying33 Tryd.underlying5 cO5 cO33)
  obtain ⟨x3, h3⟩ : ∃ x, Lrel (allPub w) ((cs.drop 34).take (Tryd.prog.cellsOf 37)) ((slC (dC 32)) x) := hf 3 _ rfl (opens_slice Tryd.underlying37 (opens_bytes Tryd.underlying33 Tryd.underlying5 cO5 cO33) cO33 (lens_dC 32) (by decide))
  obtain ⟨x4, h4⟩ : ∃ x, Lrel (allPub w) ((cs.drop 35).take (Tryd.prog.cellsOf 23)) ((iC .u64) x) := hf 4 _ rfl (opens_int Tryd.underlying23)
  obtain ⟨x5, h5⟩ : ∃ x, Lrel (allPub w) ((cs.drop 36).take (Tryd.prog.cellsOf 33)) ((dC 32) x) := hf 5 _ rfl (opens_bytes Tryd.underlying33 Tryd.underlying5 cO5 cO33)
  obtain ⟨x6, h6⟩ : ∃ x, Lrel (allPub w) ((cs.drop 68).take (Tryd.prog.cellsOf 41)) ((slC S_api_Timed.ck) x) := hf 6 _ rfl (opens_slice Tryd.underlying41 S_api_Timed.opens cO175 S_api_Timed.lens (by decide))
  obtain ⟨x7, h7⟩ : ∃ x, Lrel (allPub w) ((cs.drop 69).take (Tryd.prog.cellsOf 42)) ((slC S_api_State.ck) x) := hf 7 _ rfl (opens_slice Tryd.underlying42 S_api_State.opens cO130 S_api_State.lens (by decide))
  obtain ⟨x8, h8⟩ : ∃ x, Lrel (allPub w) ((cs.drop 70).take (Tryd.prog.cellsOf 4)) (boC x) := hf 8 _ rfl (opens_bool Tryd.underlying4)
  obtain ⟨x9, h9⟩ : ∃ x, Lrel (allPub w) ((cs.drop 71).take (Tryd.prog.cellsOf 4)) (boC x) := hf 9 _ rfl (opens_bool Tryd.underlying4)
  rw [cO22] at h0
  rw [cO22] at h1
  rw [cO33] at h2
  rw [cO37] at h3
  rw [cO23] at h4
  rw [cO33] at h5
  rw [cO41] at h6
  rw [cO42] at h7
  rw [cO4] at h8
  rw [cO4] at h9
  exact ⟨⟨x0, x1, x2, x3, x4, x5, x6, x7, x8, x9⟩, cut1 0 _ h0 (cut1 _ _ h1 (cut1 _ _ h2 (cut1 _ _ h3 (cut1 _ _ h4 (cut1 _ _ h5 (cut1 _ _ h6 (cut1 _ _ h7 (cut1 _ _ h8 (cut1 _ _ h9 (cut0 (hl.trans cO44)))))))))))⟩
def S_api_Replica.W (x : S_api_Replica) : Prop := (InR .u32 x.f_Chain) ∧ (InR .u32 x.f_Here) ∧ (x.f_Updater.length = 32) ∧ (x.f_Watchers.length ≤ mxl ∧ ∀ y ∈ x.f_Watchers, y.length = 32) ∧ (InR .u64 x.f_Window) ∧ (x.f_Committed.length = 32) ∧ (x.f_Roots.length ≤ mxl ∧ ∀ y ∈ x.f_Roots, S_api_Timed.W y) ∧ (x.f_States.length ≤ mxl ∧ ∀ y ∈ x.f_States, S_api_State.W y)
theorem S_api_Replica.wf {Φ : Pub} {cs : List Value} {x : S_api_Replica} (h : Lrel Φ cs (S_api_Replica.ck x)) : S_api_Replica.W x := by
  obtain ⟨⟨_, g0⟩, _, k0⟩ := wf_cut h
  obtain ⟨⟨_, g1⟩, _, k1⟩ := wf_cut k0
  obtain ⟨⟨_, g2⟩, _, k2⟩ := wf_cut k1
  obtain ⟨⟨_, g3⟩, _, k3⟩ := wf_cut k2
  obtain ⟨⟨_, g4⟩, _, k4⟩ := wf_cut k3
  obtain ⟨⟨_, g5⟩, _, k5⟩ := wf_cut k4
  obtain ⟨⟨_, g6⟩, _, k6⟩ := wf_cut k5
  obtain ⟨⟨_, g7⟩, _, k7⟩ := wf_cut k6
  obtain ⟨⟨_, g8⟩, _, k8⟩ := wf_cut k7
  obtain ⟨⟨_, g9⟩, _, k9⟩ := wf_cut k8
  exact ⟨wf_int _ _ _ g0, wf_int _ _ _ g1, wf_bytes _ _ _ g2, (wf_slice wf_bytes) _ _ _ g3, wf_int _ _ _ g4, wf_bytes _ _ _ g5, (wf_slice S_api_Timed.wf') _ _ _ g6, (wf_slice S_api_State.wf') _ _ _ g7⟩
theorem S_api_Replica.wf' : ∀ (Φ : Pub) (cs : List Value) (x : S_api_Replica), Lrel Φ cs (S_api_Replica.ck x) → S_api_Replica.W x := fun _ _ _ h => S_api_Replica.wf h
def plain_auditLetters : Prop := ∀ (x0 : List (S_api_Letter)) (x1 : List (S_api_Letter)) (x2 : List (List UInt8)) (x3 : S_api_Replica), (x0.length ≤ mxl ∧ ∀ y ∈ x0, S_api_Letter.W y) → (x1.length ≤ mxl ∧ ∀ y ∈ x1, S_api_Letter.W y) → (x2.length ≤ mxl ∧ ∀ y ∈ x2, y.length = 32) → (S_api_Replica.W x3) → law28_AuditLetters x0 x1 x2 x3 = some true
theorem auditLetters_lifted (plain : plain_auditLetters) (os : Os) (started : os.Started) (H : Type) (enc : TypeId × Value → H) :
    ReturnsInHanded {} Tryd.checked os 4 .any (fun w args => (Rows.auditLettersSpec.pre enc Tryd.prog Tryd.f4 [] false w args ∧ laidMetH Tryd.prog laidL w) ∧ sizedMet enc Tryd.prog Tryd.f4 (OpenSpec.ofChange Rows.auditLettersSpec) false w args)
      (Rows.auditLettersSpec.post enc Tryd.prog Tryd.f4 false true false false) := by
  refine returnsInHanded_of_change_and (C := Tryd.checked) (X := fun w _ => laidMetH Tryd.prog laidL w) (fun _ _ _ hh h => h.of_heap hh) ownKn started (by kernel_rfl) Tryd.func4
    (ChangeSpec.witness_shaped (enc := enc) (C := Tryd.checked) (os := os) (X := fun w _ => laidMetH Tryd.prog laidL w) false (laidWorld os) #[.slice none 0 0, .slice none 0 0, .slice none 0 0, .agg #[.int .u32 0, .int .u32 0, .int .u8 0, .int .u8 0, .int .u8 0, .int .u8 0, .int .u8 0, .int .u8 0, .int .u8 0, .int .u8 0, .int .u8 0, .int .u8 0, .int .u8 0, .int .u8 0, .int .u8 0, .int .u8 0, .int .u8 0, .int .u8 0, .int .u8 0, .int .u8 0, .int .u8 0, .int .u8 0, .int .u8 0, .int .u8 0, .int .u8 0, .int .u8 0, .int .u8 0, .int .u8 0, .int .u8 0, .int .u8 0, .int .u8 0, .int .u8 0, .int .u8 0, .int .u8 0, .slice none 0 0, .int .u64 0, .int .u8 0, .int .u8 0, .int .u8 0, .int .u8 0, .int .u8 0, .int .u8 0, .int .u8 0, .int .u8 0, .int .u8 0, .int .u8 0, .int .u8 0, .int .u8 0, .int .u8 0, .int .u8 0, .int .u8 0, .int .u8 0, .int .u8 0, .int .u8 0, .int .u8 0, .int .u8 0, .int .u8 0, .int .u8 0, .int .u8 0, .int .u8 0, .int .u8 0, .int .u8 0, .int .u8 0, .int .u8 0, .int .u8 0, .int .u8 0, .int .u8 0, .int .u8 0, .slice none 0 0, .slice none 0 0, .bool false, .bool false]] 8 rfl (World.shaped_of_RefB (by kernel_rfl) (by kernel_rfl)) (by kernel_rfl) (by kernel_rfl) (by kernel_rfl) (door_met os _)) ?_
  intro W base args ds gs before hval0 hW _ _ hL _
  have hval : ∀ (j : Nat) t v, Tryd.f4.params[j]? = some t → args[j]? = some v → Value.okWide Tryd.prog W .any base t v := hval0
  have hW' := hW
  obtain ⟨p, q, hA0, hV, rfl, hfz, hnd⟩ := hW
  have hA : DataW.TrodAll enc Tryd.prog W 0 (fun _ => true) true Tryd.f4.params.toList args.toList ds p := hA0
  rw [Tryd.params4] at hA hval
  obtain ⟨v0, vs0, d0, ds0, p0, q0, hargs, rfl, rfl, h0, r0⟩ := trodAll_cons hA
  obtain ⟨v1, vs1, d1, ds1, p1, q1, rfl, rfl, rfl, h1, r1⟩ := trodAll_cons r0
  obtain ⟨v2, vs2, d2, ds2, p2, q2, rfl, rfl, rfl, h2, r2⟩ := trodAll_cons r1
  obtain ⟨v3, vs3, d3, ds3, p3, q3, rfl, rfl, rfl, h3, r3⟩ := trodAll_cons r2
  obtain ⟨rfl, rfl, rfl⟩ := trodAll_nil r3
  obtain rfl : args = #[v0, v1, v2, v3] := by cases args; simp_all
  obtain ⟨rfl, rfl⟩ := trodVars_none hV
  have lt0 : ∀ x ∈ p0, x.block < W.heap.size := by obtain ⟨m, hm⟩ := h0; exact DataW.trod_lt m _ _ _ hm
  have lt1 : ∀ x ∈ p1, x.block < W.heap.size := by obtain ⟨m, hm⟩ := h1; exact DataW.trod_lt m _ _ _ hm
  have lt2 : ∀ x ∈ p2, x.block < W.heap.size := by obtain ⟨m, hm⟩ := h2; exact DataW.trod_lt m _ _ _ hm
  have lt3 : ∀ x ∈ p3, x.block < W.heap.size := by obtain ⟨m, hm⟩ := h3; exact DataW.trod_lt m _ _ _ hm
  obtain ⟨x0, hx0⟩ := opens_val (opens_slice Tryd.underlying63 S_api_Letter.opens cO66 S_api_Letter.lens (by decide)) h0
  obtain ⟨x1, hx1⟩ := opens_val (opens_slice Tryd.underlying63 S_api_Letter.opens cO66 S_api_Letter.lens (by decide)) h1
  obtain ⟨x2, hx2⟩ := opens_val (opens_slice Tryd.underlying37 (opens_bytes Tryd.underlying33 Tryd.underlying5 cO5 cO33) cO33 (lens_dC 32) (by decide)) h2
  obtain ⟨x3, hx3⟩ := opens_val S_api_Replica.opens h3
  have a0 := val_slice (hval 0 63 v0 rfl rfl) Tryd.underlying63 hx0
  have w0 := (wf_slice S_api_Letter.wf') _ _ _ hx0
  have a1 := val_slice (hval 1 63 v1 rfl rfl) Tryd.underlying63 hx1
  have w1 := (wf_slice S_api_Letter.wf') _ _ _ hx1
  have a2 := val_slice (hval 2 37 v2 rfl rfl) Tryd.underlying37 hx2
  have w2 := (wf_slice wf_bytes) _ _ _ hx2
  have a3 := agg_of (c := S_api_Replica.ck) (hval 3 44 v3 rfl rfl) (by rw [Tryd.underlying44]; trivial) hx3
  have w3 := S_api_Replica.wf' _ _ _ hx3
  clear hA0 hval0
  refine (law_calls (law28_AuditLetters_ok (plain x0 x1 x2 x3 w0 w1 w2 w3)) (KG_of hL) (args := [v0, v1, v2, v3]) ⟨a0, a1, a2, a3, trivial⟩).mono fun e W' ⟨he, bel⟩ => ?_
  subst he
  exact ⟨_, rfl, _, _, _, [], _, [], hW', trodAll_mk1 (shut_bool Tryd.underlying4 _), (trodAll_cons_mk (Below.trod laidOut (by kernel_rfl) (of_decide_eq_true (by kernel_rfl)) h0 bel lt0) (trodAll_cons_mk (Below.trod laidOut (by kernel_rfl) (of_decide_eq_true (by kernel_rfl)) h1 bel lt1) (trodAll_cons_mk (Below.trod laidOut (by kernel_rfl) (of_decide_eq_true (by kernel_rfl)) h2 bel lt2) (trodAll_cons_mk (Below.trod laidOut (by kernel_rfl) (of_decide_eq_true (by kernel_rfl)) h3 bel lt3) trodAll_mk0)))), rfl, bel.frame _, fun h => by cases h⟩
theorem auditLetters_said (plain : plain_auditLetters) : Rows.AuditLettersSaid :=
  OpenClaim.holds_of_wide 4 Tryd.f4 rfl rfl rfl rfl rfl rfl rfl ⟨rfl, rfl, rfl, rfl, rfl⟩ rfl rfl rfl rfl rfl (by kernel_rfl) Tryd.func4 (by kernel_rfl)
    (of_decide_eq_true (by kernel_rfl)) (by unfold Func.isWrapper; first | (rw [if_pos (by decide +kernel)]; kernel_rfl) | (rw [if_neg (by decide +kernel)]; exact ⟨rfl, rfl⟩))
    (fun os started H enc _ => auditLetters_lifted plain os started H enc)
theorem auditLetters_card : Rows.AuditLettersCardSaid :=
  Claim7.holds_tied_plain_at .later [] [.data, .pinned] true (true, "6dad6e51c60e63abba12e899c53a43883633897195db1631bcf12278c5ac691f") false
    (auditLetters_said (fun x0 x1 x2 x3 w0 w1 _ w3 => auditLetters_true x0 x1 x2 x3 w0.1 w1.1 w3.2.2.2.2.2.2.2.1)) (fun _ h => by cases h) (by kernel_rfl) (fun _ h => by cases h) auditLetters_row_tie rfl ⟨rfl, rfl⟩ (by kernel_rfl) rfl
    (fun f fn hf hfn => by
      obtain rfl : f = 4 := Option.some.inj ((show Tryd.prog.funcNamed "pontoon/pontoonlaw28.AuditLetters" = some 4 by kernel_rfl).symm.trans hf) |>.symm
      obtain rfl : fn = Tryd.f4 := (Option.some.inj (Tryd.func4.symm.trans hfn)).symm
      exact ⟨by kernel_rfl, fun j t ht => by
        rw [Tryd.params4] at ht
        have h3 : t ∈ ([63, 63, 37, 44] : List TypeId) := by
          have := List.mem_of_getElem? (by simpa using ht)
          simpa using this
        simp only [List.mem_cons, List.not_mem_nil, or_false] at h3
        rcases h3 with rfl | rfl | rfl | rfl
        · exact (show Tryd.prog.wantsStandIn 63 = false by kernel_rfl)
        · exact (show Tryd.prog.wantsStandIn 63 = false by kernel_rfl)
        · exact (show Tryd.prog.wantsStandIn 37 = false by kernel_rfl)
        · exact (show Tryd.prog.wantsStandIn 44 = false by kernel_rfl)⟩)
    (by kernel_rfl)
#print axioms auditLetters_card
end Go.Proofs.YtafeolgdggncnaaDoor
