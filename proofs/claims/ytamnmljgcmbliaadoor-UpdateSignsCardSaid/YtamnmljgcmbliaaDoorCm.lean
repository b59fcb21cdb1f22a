/- pontoon/pontoonlaw10.UpdateSigns: whatever the input (the listed variables as the program's text lays them), the call returns true and each argument reads afterwards as it read before: the tied card. -/
import Derived.Test.YtamnmljgcmbliaaDoorC1
import Derived.Test.YtamnmljgcmbliaaDoorA22
import Derived.Test.YtamnmljgcmbliaaDoorP39
import Derived.SevenTiedAt
namespace Go.Proofs.YtamnmljgcmbliaaDoor
open Go Go.RowKit Go.Proofs Go.ChangeShapes Go.WideShapes Go.ChangeAt Go.WideMaps Go.WideElems
set_option maxRecDepth 100000
theorem cO5 : Tryd.prog.cellsOf 5 = 1 := by kernel_rfl
theorem cO23 : Tryd.prog.cellsOf 23 = 32 := by kernel_rfl
theorem cO3 : Tryd.prog.cellsOf 3 = 1 := by kernel_rfl
theorem cO24 : Tryd.prog.cellsOf 24 = 1 := by kernel_rfl
theorem cO27 : Tryd.prog.cellsOf 27 = 34 := by kernel_rfl
theorem S_keys_Signer.opens : Opens Tryd.prog 27 S_keys_Signer.ck := by
  intro H enc w base sp held fuel cs r h
  obtain ⟨hl, hf⟩ := opens_fields Tryd.underlying27 h
  obtain ⟨x0, h0⟩ : ∃ x, Lrel (allPub w) ((cs.drop 0).take (Tryd.prog.cellsOf 23)) ((dC 32) x) := hf 0 _ rfl (opens_bytes Tryd.underlying23 Tryd.underlying5 cO5 cO23)
  obtain ⟨x1, h1⟩ : ∃ x, Lrel (allPub w) ((cs.drop 32).take (Tryd.prog.cellsOf 3)) ((iC .i64) x) := hf 1 _ rfl (opens_int Tryd.underlying3)
  obtain ⟨x2, h2⟩ : ∃ x, Lrel (allPub w) ((cs.drop 33).take (Tryd.prog.cellsOf 24)) ((slC (dC 32)) x) := hf 2 _ rfl (opens_slice Tryd.underlying24 (opens_bytes Tryd.underlying23 Tryd.underlying5 cO5 cO23) cO23 (lens_dC 32) (by decide))
  rw [cO23] at h0
  rw [cO3] at h1
  rw [cO24] at h2
  exact ⟨⟨x0, x1, x2⟩, cut1 0 _ h0 (cut1 _ _ h1 (cut1 _ _ h2 (cut0 (hl.trans cO27))))⟩
def S_keys_Signer.W (x : S_keys_Signer) : Prop := (x.f_Seed.length = 32) ∧ (InR .i64 x.f_Next) ∧ (x.f_Leaves.length ≤ mxl ∧ ∀ y ∈ x.f_Leaves, y.length = 32)
theorem S_keys_Signer.wf {Φ : Pub} {cs : List Value} {x : S_keys_Signer} (h : Lrel Φ cs (S_keys_Signer.ck x)) : S_keys_Signer.W x := by
  obtain ⟨⟨_, g0⟩, _, k0⟩ := wf_cut h
  obtain ⟨⟨_, g1⟩, _, k1⟩ := wf_cut k0
  obtain ⟨⟨_, g2⟩, _, k2⟩ := wf_cut k1
  exact ⟨wf_bytes _ _ _ g0, wf_int _ _ _ g1, (wf_slice wf_bytes) _ _ _ g2⟩
theorem S_keys_Signer.wf' : ∀ (Φ : Pub) (cs : List Value) (x : S_keys_Signer), Lrel Φ cs (S_keys_Signer.ck x) → S_keys_Signer.W x := fun _ _ _ h => S_keys_Signer.wf h
def plain_updateSigns : Prop := ∀ (x0 : S_keys_Signer) (x1 : Int) (x2 : List UInt8) (x3 : List UInt8) (x4 : Int), (S_keys_Signer.W x0) → (InR .u32 x1) → (x2.length = 32) → (x3.length = 32) → (InR .i64 x4) → law10_UpdateSigns x0 x1 x2 x3 x4 = some true
theorem updateSigns_lifted (plain : plain_updateSigns) (os : Os) (started : os.Started) (H : Type) (enc : TypeId × Value → H) :
    ReturnsInHanded {} Tryd.checked os 10 .any (fun w args => (Rows.updateSignsSpec.pre enc Tryd.prog Tryd.f10 [] false w args ∧ laidMetH Tryd.prog laidL w) ∧ sizedMet enc Tryd.prog Tryd.f10 (OpenSpec.ofChange Rows.updateSignsSpec) false w args)
      (Rows.updateSignsSpec.post enc Tryd.prog Tryd.f10 false true false false) := by
  refine returnsInHanded_of_change_and (C := Tryd.checked) (X := fun w _ => laidMetH Tryd.prog laidL w) (fun _ _ _ hh h => h.of_heap hh) ownKn started (by kernel_rfl) Tryd.func10
    (ChangeSpec.witness_shaped (enc := enc) (C := Tryd.checked) (os := os) (X := fun w _ => laidMetH Tryd.prog laidL w) false (World.doorLaid Tryd.prog 400 os) #[.agg #[.int .u8 0, .int .u8 0, .int .u8 0, .int .u8 0, .int .u8 0, .int .u8 0, .int .u8 0, .int .u8 0, .int .u8 0, .int .u8 0, .int .u8 0, .int .u8 0, .int .u8 0, .int .u8 0, .int .u8 0, .int .u8 0, .int .u8 0, .int .u8 0, .int .u8 0, .int .u8 0, .int .u8 0, .int .u8 0, .int .u8 0, .int .u8 0, .int .u8 0, .int .u8 0, .int .u8 0, .int .u8 0, .int .u8 0, .int .u8 0, .int .u8 0, .int .u8 0, .int .i64 0, .slice none 0 0], .int .u32 0, .agg #[.int .u8 0, .int .u8 0, .int .u8 0, .int .u8 0, .int .u8 0, .int .u8 0, .int .u8 0, .int .u8 0, .int .u8 0, .int .u8 0, .int .u8 0, .int .u8 0, .int .u8 0, .int .u8 0, .int .u8 0, .int .u8 0, .int .u8 0, .int .u8 0, .int .u8 0, .int .u8 0, .int .u8 0, .int .u8 0, .int .u8 0, .int .u8 0, .int .u8 0, .int .u8 0, .int .u8 0, .int .u8 0, .int .u8 0, .int .u8 0, .int .u8 0, .int .u8 0], .agg #[.int .u8 0, .int .u8 0, .int .u8 0, .int .u8 0, .int .u8 0, .int .u8 0, .int .u8 0, .int .u8 0, .int .u8 0, .int .u8 0, .int .u8 0, .int .u8 0, .int .u8 0, .int .u8 0, .int .u8 0, .int .u8 0, .int .u8 0, .int .u8 0, .int .u8 0, .int .u8 0, .int .u8 0, .int .u8 0, .int .u8 0, .int .u8 0, .int .u8 0, .int .u8 0, .int .u8 0, .int .u8 0, .int .u8 0, .int .u8 0, .int .u8 0, .int .u8 0], .int .i64 0] 8 rfl (World.shaped_of_RefB (by kernel_rfl) (by kernel_rfl)) (by kernel_rfl) (by kernel_rfl) (by kernel_rfl) (door_met os _)) ?_
  intro W base args ds gs before hval0 hW _ _ hL _
  have hval : ∀ (j : Nat) t v, Tryd.f10.params[j]? = some t → args[j]? = some v → Value.okWide Tryd.prog W .any base t v := hval0
  have hW' := hW
  obtain ⟨p, q, hA0, hV, rfl, hfz, hnd⟩ := hW
  have hA : DataW.TrodAll enc Tryd.prog W 0 (fun _ => true) true Tryd.f10.params.toList args.toList ds p := hA0
  rw [Tryd.params10] at hA hval
  obtain ⟨v0, vs0, d0, ds0, p0, q0, hargs, rfl, rfl, h0, r0⟩ := trodAll_cons hA
  obtain ⟨v1, vs1, d1, ds1, p1, q1, rfl, rfl, rfl, h1, r1⟩ := trodAll_cons r0
  obtain ⟨v2, vs2, d2, ds2, p2, q2, rfl, rfl, rfl, h2, r2⟩ := trodAll_cons r1
  obtain ⟨v3, vs3, d3, ds3, p3, q3, rfl, rfl, rfl, h3, r3⟩ := trodAll_cons r2
  obtain ⟨v4, vs4, d4, ds4, p4, q4, rfl, rfl, rfl, h4, r4⟩ := trodAll_cons r3
  obtain ⟨rfl, rfl, rfl⟩ := trodAll_nil r4
  obtain rfl : args = #[v0, v1, v2, v3, v4] := by cases args; simp_all
  obtain ⟨rfl, rfl⟩ := trodVars_none hV
  have lt0 : ∀ x ∈ p0, x.block < W.heap.size := by obtain ⟨m, hm⟩ := h0; exact DataW.trod_lt m _ _ _ hm
  have lt1 : ∀ x ∈ p1, x.block < W.heap.size := by obtain ⟨m, hm⟩ := h1; exact DataW.trod_lt m _ _ _ hm
  have lt2 : ∀ x ∈ p2, x.block < W.heap.size := by obtain ⟨m, hm⟩ := h2; exact DataW.trod_lt m _ _ _ hm
  have lt3 : ∀ x ∈ p3, x.block < W.heap.size := by obtain ⟨m, hm⟩ := h3; exact DataW.trod_lt m _ _ _ hm
  have lt4 : ∀ x ∈ p4, x.block < W.heap.size := by obtain ⟨m, hm⟩ := h4; exact DataW.trod_lt m _ _ _ hm
  obtain ⟨x0, hx0⟩ := opens_val S_keys_Signer.opens h0
  obtain ⟨x1, hx1⟩ := opens_val (opens_int Tryd.underlying51) h1
  obtain ⟨x2, hx2⟩ := opens_val (opens_bytes Tryd.underlying23 Tryd.underlying5 cO5 cO23) h2
  obtain ⟨x3, hx3⟩ := opens_val (opens_bytes Tryd.underlying23 Tryd.underlying5 cO5 cO23) h3
  obtain ⟨x4, hx4⟩ := opens_val (opens_int Tryd.underlying3) h4
  have a0 := agg_of (c := S_keys_Signer.ck) (hval 0 27 v0 rfl rfl) (by rw [Tryd.underlying27]; trivial) hx0
  have w0 := S_keys_Signer.wf' _ _ _ hx0
  have a1 := val_int (hval 1 51 v1 rfl rfl) Tryd.underlying51 hx1
  have w1 := wf_int _ _ _ hx1
  have a2 := agg_of (c := (dC 32)) (hval 2 23 v2 rfl rfl) (by rw [Tryd.underlying23]; trivial) hx2
  have w2 := wf_bytes _ _ _ hx2
  have a3 := agg_of (c := (dC 32)) (hval 3 23 v3 rfl rfl) (by rw [Tryd.underlying23]; trivial) hx3
  have w3 := wf_bytes _ _ _ hx3
  have a4 := val_int (hval 4 3 v4 rfl rfl) Tryd.underlying3 hx4
  have w4 := wf_int _ _ _ hx4
  clear hA0 hval0
  refine (law_calls (law10_UpdateSigns_ok (plain x0 x1 x2 x3 x4 w0 w1 w2 w3 w4)) (KG_of hL) (args := [v0, v1, v2, v3, v4]) ⟨a0, a1, a2, a3, a4, trivial⟩).mono fun e W' ⟨he, bel⟩ => ?_
  subst he
  exact ⟨_, rfl, _, _, _, [], _, [], hW', trodAll_mk1 (shut_bool Tryd.underlying4 _), (trodAll_cons_mk (Below.trod laidOut (by kernel_rfl) (of_decide_eq_true (by kernel_rfl)) h0 bel lt0) (trodAll_cons_mk (Below.trod laidOut (by kernel_rfl) (of_decide_eq_true (by kernel_rfl)) h1 bel lt1) (trodAll_cons_mk (Below.trod laidOut (by kernel_rfl) (of_decide_eq_true (by kernel_rfl)) h2 bel lt2) (trodAll_cons_mk (Below.trod laidOut (by kernel_rfl) (of_decide_eq_true (by kernel_rfl)) h3 bel lt3) (trodAll_cons_mk (Below.trod laidOut (by kernel_rfl) (of_decide_eq_true (by kernel_rfl)) h4 bel lt4) trodAll_mk0))))), rfl, bel.frame _, fun h => by cases h⟩
theorem updateSigns_said (plain : plain_updateSigns) : Rows.UpdateSignsSaid :=
  OpenClaim.holds_of_wide 10 Tryd.f10 rfl rfl rfl rfl rfl rfl rfl ⟨rfl, rfl, rfl, rfl, rfl⟩ rfl rfl rfl rfl rfl (by kernel_rfl) Tryd.func10 (by kernel_rfl)
    (of_decide_eq_true (by kernel_rfl)) (by unfold Func.isWrapper; first | (rw [if_pos (by decide +kernel)]; kernel_rfl) | (rw [if_neg (by decide +kernel)]; exact ⟨rfl, rfl⟩))
    (fun os started H enc _ => updateSigns_lifted plain os started H enc)
theorem updateSigns_card : Rows.UpdateSignsCardSaid :=
  Claim7.holds_tied_plain_at .later [] [.data, .data] true (true, "f763fb9be028428bf5ee24bfc03caf77e304a6b0a15c70790ef7acd00324caf3") false
    (updateSigns_said (fun x0 x1 x2 x3 x4 w0 w1 w2 w3 _ => updateSigns_true x0 x1 x2 x3 x4 w0.1 w0.2.2.2 w1 w2 w3)) (fun _ h => by cases h) (by kernel_rfl) (fun _ h => by cases h) updateSigns_row_tie rfl ⟨rfl, rfl⟩ (by kernel_rfl) rfl
    (fun f fn hf hfn => by
      obtain rfl : f = 10 := Option.some.inj ((show Tryd.prog.funcNamed "pontoon/pontoonlaw10.UpdateSigns" = some 10 by kernel_rfl).symm.trans hf) |>.symm
      obtain rfl : fn = Tryd.f10 := (Option.some.inj (Tryd.func10.symm.trans hfn)).symm
      exact ⟨by kernel_rfl, fun j t ht => by
        rw [Tryd.params10] at ht
        have h3 : t ∈ ([27, 51, 23, 23, 3] : List TypeId) := by
          have := List.mem_of_getElem? (by simpa using ht)
          simpa using this
        simp only [List.mem_cons, List.not_mem_nil, or_false] at h3
        rcases h3 with rfl | rfl | rfl | rfl | rfl
        · exact (show Tryd.prog.wantsStandIn 27 = false by kernel_rfl)
        · exact (show Tryd.prog.wantsStandIn 51 = false by kernel_rfl)
        · exact (show Tryd.prog.wantsStandIn 23 = false by kernel_rfl)
        · exact (show Tryd.prog.wantsStandIn 23 = false by kernel_rfl)
        · exact (show Tryd.prog.wantsStandIn 3 = false by kernel_rfl)⟩)
    (by kernel_rfl)
#print axioms updateSigns_card
end Go.Proofs.YtamnmljgcmbliaaDoor
