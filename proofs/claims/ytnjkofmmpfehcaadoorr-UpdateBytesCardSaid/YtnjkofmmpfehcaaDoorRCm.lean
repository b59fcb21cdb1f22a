/- pontoon/pontoonlaw10.UpdateBytes: whatever the input (the listed variables as the program's text lays them), the call returns true and each argument reads afterwards as it read before: the tied card. -/
import Derived.Test.YtnjkofmmpfehcaaDoorRC1
import Derived.Test.YtnjkofmmpfehcaaDoorRA22
import Derived.Test.YtnjkofmmpfehcaaDoorRP43
import Derived.SevenTiedAt
namespace Go.Proofs.YtnjkofmmpfehcaaDoorR
open Go Go.RowKit Go.Proofs Go.ChangeShapes Go.WideShapes Go.ChangeAt Go.WideMaps Go.WideElems
set_option maxRecDepth 100000
theorem cO22 : Tryd.prog.cellsOf 22 = 1 := by kernel_rfl
theorem cO5 : Tryd.prog.cellsOf 5 = 1 := by kernel_rfl
theorem cO25 : Tryd.prog.cellsOf 25 = 32 := by kernel_rfl
theorem cO3 : Tryd.prog.cellsOf 3 = 1 := by kernel_rfl
theorem cO26 : Tryd.prog.cellsOf 26 = 1 := by kernel_rfl
theorem cO35 : Tryd.prog.cellsOf 35 = 4 := by kernel_rfl
theorem S_api_Sig.opens : Opens Tryd.prog 35 S_api_Sig.ck := by
  intro H enc w base sp held fuel cs r h
  obtain ⟨hl, hf⟩ := opens_fields Tryd.underlying35 h
  obtain ⟨x0, h0⟩ : ∃ x, Lrel (allPub w) ((cs.drop 0).take (Tryd.prog.cellsOf 3)) ((iC .i64) x) := hf 0 _ rfl (opens_int Tryd.underlying3)
  obtain ⟨x1, h1⟩ : ∃ x, Lrel (allPub w) ((cs.drop 1).take (Tryd.prog.cellsOf 26)) ((slC (dC 32)) x) := hf 1 _ rfl (opens_slice Tryd.underlying26 (opens_bytes Tryd.underlying25 Tryd.underlying5 cO5 cO25) cO25 (lens_dC 32) (by decide))
  obtain ⟨x2, h2⟩ : ∃ x, Lrel (allPub w) ((cs.drop 2).take (Tryd.prog.cellsOf 26)) ((slC (dC 32)) x) := hf 2 _ rfl (opens_slice Tryd.underlying26 (opens_bytes Tryd.underlying25 Tryd.underlying5 cO5 cO25) cO25 (lens_dC 32) (by decide))
  obtain ⟨x3, h3⟩ : ∃ x, Lrel (allPub w) ((cs.drop 3).take (Tryd.prog.cellsOf 26)) ((slC (dC 32)) x) := hf 3 _ rfl (opens_slice Tryd.underlying26 (opens_bytes Tryd.underlying25 Tryd.underlying5 cO5 cO25) cO25 (lens_dC 32) (by decide))
  rw [cO3] at h0
  rw [cO26] at h1
  rw [cO26] at h2
  rw [cO26] at h3
  exact ⟨⟨x0, x1, x2, x3⟩, cut1 0 _ h0 (cut1 _ _ h1 (cut1 _ _ h2 (cut1 _ _ h3 (cut0 (hl.trans cO35)))))⟩
def S_api_Sig.W (x : S_api_Sig) : Prop := (InR .i64 x.f_Index) ∧ (x.f_Parts.length ≤ mxl ∧ ∀ y ∈ x.f_Parts, y.length = 32) ∧ (x.f_Others.length ≤ mxl ∧ ∀ y ∈ x.f_Others, y.length = 32) ∧ (x.f_Path.length ≤ mxl ∧ ∀ y ∈ x.f_Path, y.length = 32)
theorem S_api_Sig.wf {Φ : Pub} {cs : List Value} {x : S_api_Sig} (h : Lrel Φ cs (S_api_Sig.ck x)) : S_api_Sig.W x := by
  obtain ⟨⟨_, g0⟩, _, k0⟩ := wf_cut h
  obtain ⟨⟨_, g1⟩, _, k1⟩ := wf_cut k0
  obtain ⟨⟨_, g2⟩, _, k2⟩ := wf_cut k1
  obtain ⟨⟨_, g3⟩, _, k3⟩ := wf_cut k2
  exact ⟨wf_int _ _ _ g0, (wf_slice wf_bytes) _ _ _ g1, (wf_slice wf_bytes) _ _ _ g2, (wf_slice wf_bytes) _ _ _ g3⟩
theorem S_api_Sig.wf' : ∀ (Φ : Pub) (cs : List Value) (x : S_api_Sig), Lrel Φ cs (S_api_Sig.ck x) → S_api_Sig.W x := fun _ _ _ h => S_api_Sig.wf h
theorem cO37 : Tryd.prog.cellsOf 37 = 69 := by kernel_rfl
theorem S_api_Update.opens : Opens Tryd.prog 37 S_api_Update.ck := by
  intro H enc w base sp held fuel cs r h
  obtain ⟨hl, hf⟩ := opens_fields Tryd.underlying37 h
  obtain ⟨x0, h0⟩ : ∃ x, Lrel (allPub w) ((cs.drop 0).take (Tryd.prog.cellsOf 22)) ((iC .u32) x) := hf 0 _ rfl (opens_int Tryd.underlying22)
  obtain ⟨x1, h1⟩ : ∃ x, Lrel (allPub w) ((cs.drop 1).take (Tryd.prog.cellsOf 25)) ((dC 32) x) := hf 1 _ rfl (opens_bytes Tryd.underlying25 Tryd.underlying5 cO5 cO25)
  obtain ⟨x2, h2⟩ : ∃ x, Lrel (allPub w) ((cs.drop 33).take (Tryd.prog.cellsOf 25)) ((dC 32) x) := hf 2 _ rfl (opens_bytes Tryd.underlying25 Tryd.underlying5 cO5 cO25)
  obtain ⟨x3, h3⟩ : ∃ x, Lrel (allPub w) ((cs.drop 65).take (Tryd.prog.cellsOf 35)) (S_api_Sig.ck x) := hf 3 _ rfl S_api_Sig.opens
  rw [cO22] at h0
  rw [cO25] at h1
  rw [cO25] at h2
  rw [cO35] at h3
  exact ⟨⟨x0, x1, x2, x3⟩, cut1 0 _ h0 (cut1 _ _ h1 (cut1 _ _ h2 (cut1 _ _ h3 (cut0 (hl.trans cO37)))))⟩
def S_api_Update.W (x : S_api_Update) : Prop := (InR .u32 x.f_Home) ∧ (x.f_Old.length = 32) ∧ (x.f_New.length = 32) ∧ (S_api_Sig.W x.f_Sig)
theorem S_api_Update.wf {Φ : Pub} {cs : List Value} {x : S_api_Update} (h : Lrel Φ cs (S_api_Update.ck x)) : S_api_Update.W x := by
  obtain ⟨⟨_, g0⟩, _, k0⟩ := wf_cut h
  obtain ⟨⟨_, g1⟩, _, k1⟩ := wf_cut k0
  obtain ⟨⟨_, g2⟩, _, k2⟩ := wf_cut k1
  obtain ⟨⟨_, g3⟩, _, k3⟩ := wf_cuts (K := S_api_Sig.ck x.f_Sig) k2
  exact ⟨wf_int _ _ _ g0, wf_bytes _ _ _ g1, wf_bytes _ _ _ g2, S_api_Sig.wf' _ _ _ g3⟩
theorem S_api_Update.wf' : ∀ (Φ : Pub) (cs : List Value) (x : S_api_Update), Lrel Φ cs (S_api_Update.ck x) → S_api_Update.W x := fun _ _ _ h => S_api_Update.wf h
theorem cO115 : Tryd.prog.cellsOf 115 = 38 := by kernel_rfl
theorem S_api_Stop.opens : Opens Tryd.prog 115 S_api_Stop.ck := by
  intro H enc w base sp held fuel cs r h
  obtain ⟨hl, hf⟩ := opens_fields Tryd.underlying115 h
  obtain ⟨x0, h0⟩ : ∃ x, Lrel (allPub w) ((cs.drop 0).take (Tryd.prog.cellsOf 22)) ((iC .u32) x) := hf 0 _ rfl (opens_int Tryd.underlying22)
  obtain ⟨x1, h1⟩ : ∃ x, Lrel (allPub w) ((cs.drop 1).take (Tryd.prog.cellsOf 25)) ((dC 32) x) := hf 1 _ rfl (opens_bytes Tryd.underlying25 Tryd.underlying5 cO5 cO25)
  obtain ⟨x2, h2⟩ : ∃ x, Lrel (allPub w) ((cs.drop 33).take (Tryd.prog.cellsOf 3)) ((iC .i64) x) := hf 2 _ rfl (opens_int Tryd.underlying3)
  obtain ⟨x3, h3⟩ : ∃ x, Lrel (allPub w) ((cs.drop 34).take (Tryd.prog.cellsOf 35)) (S_api_Sig.ck x) := hf 3 _ rfl S_api_Sig.opens
  rw [cO22] at h0
  rw [cO25] at h1
  rw [cO3] at h2
  rw [cO35] at h3
  exact ⟨⟨x0, x1, x2, x3⟩, cut1 0 _ h0 (cut1 _ _ h1 (cut1 _ _ h2 (cut1 _ _ h3 (cut0 (hl.trans cO115)))))⟩
def S_api_Stop.W (x : S_api_Stop) : Prop := (InR .u32 x.f_Home) ∧ (x.f_Key.length = 32) ∧ (InR .i64 x.f_Watcher) ∧ (S_api_Sig.W x.f_Sig)
theorem S_api_Stop.wf {Φ : Pub} {cs : List Value} {x : S_api_Stop} (h : Lrel Φ cs (S_api_Stop.ck x)) : S_api_Stop.W x := by
  obtain ⟨⟨_, g0⟩, _, k0⟩ := wf_cut h
  obtain ⟨⟨_, g1⟩, _, k1⟩ := wf_cut k0
  obtain ⟨⟨_, g2⟩, _, k2⟩ := wf_cut k1
  obtain ⟨⟨_, g3⟩, _, k3⟩ := wf_cuts (K := S_api_Sig.ck x.f_Sig) k2
  exact ⟨wf_int _ _ _ g0, wf_bytes _ _ _ g1, wf_int _ _ _ g2, S_api_Sig.wf' _ _ _ g3⟩
theorem S_api_Stop.wf' : ∀ (Φ : Pub) (cs : List Value) (x : S_api_Stop), Lrel Φ cs (S_api_Stop.ck x) → S_api_Stop.W x := fun _ _ _ h => S_api_Stop.wf h
def plain_updateBytes : Prop := ∀ (x0 : S_api_Update) (x1 : S_api_Stop) (x2 : List UInt8), (S_api_Update.W x0) → (S_api_Stop.W x1) → (x2.length ≤ mxl) → law10_UpdateBytes x0 x1 x2 = some true
theorem updateBytes_lifted (plain : plain_updateBytes) (os : Os) (started : os.Started) (H : Type) (enc : TypeId × Value → H) :
    ReturnsInHanded {} Tryd.checked os 9 .any (fun w args => (Rows.updateBytesSpec.pre enc Tryd.prog Tryd.f9 [] false w args ∧ laidMetH Tryd.prog laidL w) ∧ sizedMet enc Tryd.prog Tryd.f9 (OpenSpec.ofChange Rows.updateBytesSpec) false w args)
      (Rows.updateBytesSpec.post enc Tryd.prog Tryd.f9 false true false false) := by
  refine returnsInHanded_of_change_and (C := Tryd.checked) (X := fun w _ => laidMetH Tryd.prog laidL w) (fun _ _ _ hh h => h.of_heap hh) ownKn started (by kernel_rfl) Tryd.func9
    (ChangeSpec.witness_shaped (enc := enc) (C := Tryd.checked) (os := os) (X := fun w _ => laidMetH Tryd.prog laidL w) false (World.doorLaid Tryd.prog 400 os) #[.agg #[.int .u32 0, .int .u8 0, .int .u8 0, .int .u8 0, .int .u8 0, .int .u8 0, .int .u8 0, .int .u8 0, .int .u8 0, .int .u8 0, .int .u8 0, .int .u8 0, .int .u8 0, .int .u8 0, .int .u8 0, .int .u8 0, .int .u8 0, .int .u8 0, .int .u8 0, .int .u8 0, .int .u8 0, .int .u8 0, .int .u8 0, .int .u8 0, .int .u8 0, .int .u8 0, .int .u8 0, .int .u8 0, .int .u8 0, .int .u8 0, .int .u8 0, .int .u8 0, .int .u8 0, .int .u8 0, .int .u8 0, .int .u8 0, .int .u8 0, .int .u8 0, .int .u8 0, .int .u8 0, .int .u8 0, .int .u8 0, .int .u8 0, .int .u8 0, .int .u8 0, .int .u8 0, .int .u8 0, .int .u8 0, .int .u8 0, .int .u8 0, .int .u8 0, .int .u8 0, .int .u8 0, .int .u8 0, .int .u8 0, .int .u8 0, .int .u8 0, .int .u8 0, .int .u8 0, .int .u8 0, .int .u8 0, .int .u8 0, .int .u8 0, .int .u8 0, .int .u8 0, .int .i64 0, .slice none 0 0, .slice none 0 0, .slice none 0 0], .agg #[.int .u32 0, .int .u8 0, .int .u8 0, .int .u8 0, .int .u8 0, .int .u8 0, .int .u8 0, .int .u8 0, .int .u8 0, .int .u8 0, .int .u8 0, .int .u8 0, .int .u8 0, .int .u8 0, .int .u8 0, .int .u8 0, .int .u8 0, .int .u8 0, .int .u8 0, .int .u8 0, .int .u8 0, .int .u8 0, .int .u8 0, .int .u8 0, .int .u8 0, .int .u8 0, .int .u8 0, .int .u8 0, .int .u8 0, .int .u8 0, .int .u8 0, .int .u8 0, .int .u8 0, .int .i64 0, .int .i64 0, .slice none 0 0, .slice none 0 0, .slice none 0 0], .string ⟨#[]⟩] 8 rfl (World.shaped_of_RefB (by kernel_rfl) (by kernel_rfl)) (by kernel_rfl) (by kernel_rfl) (by kernel_rfl) (door_met os _)) ?_
  intro W base args ds gs before hval0 hW _ _ hL _
  have hval : ∀ (j : Nat) t v, Tryd.f9.params[j]? = some t → args[j]? = some v → Value.okWide Tryd.prog W .any base t v := hval0
  have hW' := hW
  obtain ⟨p, q, hA0, hV, rfl, hfz, hnd⟩ := hW
  have hA : DataW.TrodAll enc Tryd.prog W 0 (fun _ => true) true Tryd.f9.params.toList args.toList ds p := hA0
  rw [Tryd.params9] at hA hval
  obtain ⟨v0, vs0, d0, ds0, p0, q0, hargs, rfl, rfl, h0, r0⟩ := trodAll_cons hA
  obtain ⟨v1, vs1, d1, ds1, p1, q1, rfl, rfl, rfl, h1, r1⟩ := trodAll_cons r0
  obtain ⟨v2, vs2, d2, ds2, p2, q2, rfl, rfl, rfl, h2, r2⟩ := trodAll_cons r1
  obtain ⟨rfl, rfl, rfl⟩ := trodAll_nil r2
  obtain rfl : args = #[v0, v1, v2] := by cases args; simp_all
  obtain ⟨rfl, rfl⟩ := trodVars_none hV
  have lt0 : ∀ x ∈ p0, x.block < W.heap.size := by obtain ⟨m, hm⟩ := h0; exact DataW.trod_lt m _ _ _ hm
  have lt1 : ∀ x ∈ p1, x.block < W.heap.size := by obtain ⟨m, hm⟩ := h1; exact DataW.trod_lt m _ _ _ hm
  have lt2 : ∀ x ∈ p2, x.block < W.heap.size := by obtain ⟨m, hm⟩ := h2; exact DataW.trod_lt m _ _ _ hm
  obtain ⟨x0, hx0⟩ := opens_val S_api_Update.opens h0
  obtain ⟨x1, hx1⟩ := opens_val S_api_Stop.opens h1
  obtain ⟨x2, hx2⟩ := opens_val (opens_str Tryd.underlying9) h2
  have a0 := agg_of (c := S_api_Update.ck) (hval 0 37 v0 rfl rfl) (by rw [Tryd.underlying37]; trivial) hx0
  have w0 := S_api_Update.wf' _ _ _ hx0
  have a1 := agg_of (c := S_api_Stop.ck) (hval 1 115 v1 rfl rfl) (by rw [Tryd.underlying115]; trivial) hx1
  have w1 := S_api_Stop.wf' _ _ _ hx1
  have a2 := val_str (hval 2 9 v2 rfl rfl) Tryd.underlying9 hx2
  have w2 := wf_str _ _ _ hx2
  clear hA0 hval0
  refine (law_calls (law10_UpdateBytes_ok (plain x0 x1 x2 w0 w1 w2)) (KG_of hL) (args := [v0, v1, v2]) ⟨a0, a1, a2, trivial⟩).mono fun e W' ⟨he, bel⟩ => ?_
  subst he
  exact ⟨_, rfl, _, _, _, [], _, [], hW', trodAll_mk1 (shut_bool Tryd.underlying4 _), (trodAll_cons_mk (Below.trod laidOut (by kernel_rfl) (of_decide_eq_true (by kernel_rfl)) h0 bel lt0) (trodAll_cons_mk (Below.trod laidOut (by kernel_rfl) (of_decide_eq_true (by kernel_rfl)) h1 bel lt1) (trodAll_cons_mk (Below.trod laidOut (by kernel_rfl) (of_decide_eq_true (by kernel_rfl)) h2 bel lt2) trodAll_mk0))), rfl, bel.frame _, fun h => by cases h⟩
theorem updateBytes_said (plain : plain_updateBytes) : Rows.UpdateBytesSaid :=
  OpenClaim.holds_of_wide 9 Tryd.f9 rfl rfl rfl rfl rfl rfl rfl ⟨rfl, rfl, rfl, rfl, rfl⟩ rfl rfl rfl rfl rfl (by kernel_rfl) Tryd.func9 (by kernel_rfl)
    (of_decide_eq_true (by kernel_rfl)) (by unfold Func.isWrapper; first | (rw [if_pos (by decide +kernel)]; kernel_rfl) | (rw [if_neg (by decide +kernel)]; exact ⟨rfl, rfl⟩))
    (fun os started H enc _ => updateBytes_lifted plain os started H enc)
theorem updateBytes_card : Rows.UpdateBytesCardSaid :=
  Claim7.holds_tied_plain_at .later [] [.data, .data] true (true, "82f4732323db7de00951200c481241c67e5f49e3db69962823e48665eab4b41d") false
    (updateBytes_said (fun x0 x1 x2 w0 w1 _ => updateBytes_true x0 x1 x2 ⟨inrU w0.1, w0.2.1, w0.2.2.1, w0.2.2.2.2.1.2, w0.2.2.2.2.2.1.2, w0.2.2.2.2.2.2.2⟩ ⟨inrU w1.1, w1.2.1, w1.2.2.2.2.1.2, w1.2.2.2.2.2.1.2, w1.2.2.2.2.2.2.2⟩)) (fun _ h => by cases h) (by kernel_rfl) (fun _ h => by cases h) updateBytes_row_tie rfl ⟨rfl, rfl⟩ (by kernel_rfl) rfl
    (fun f fn hf hfn => by
      obtain rfl : f = 9 := Option.some.inj ((show Tryd.prog.funcNamed "pontoon/pontoonlaw10.UpdateBytes" = some 9 by kernel_rfl).symm.trans hf) |>.symm
      obtain rfl : fn = Tryd.f9 := (Option.some.inj (Tryd.func9.symm.trans hfn)).symm
      exact ⟨by kernel_rfl, fun j t ht => by
        rw [Tryd.params9] at ht
        have h3 : t ∈ ([37, 115, 9] : List TypeId) := by
          have := List.mem_of_getElem? (by simpa using ht)
          simpa using this
        simp only [List.mem_cons, List.not_mem_nil, or_false] at h3
        rcases h3 with rfl | rfl | rfl
        · exact (show Tryd.prog.wantsStandIn 37 = false by kernel_rfl)
        · exact (show Tryd.prog.wantsStandIn 115 = false by kernel_rfl)
        · exact (show Tryd.prog.wantsStandIn 9 = false by kernel_rfl)⟩)
    (by kernel_rfl)
#print axioms updateBytes_card
end Go.Proofs.YtnjkofmmpfehcaaDoorR
