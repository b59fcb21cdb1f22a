/- pontoon/pontoonlaw06.KeysBinds: whatever the input (the listed variables as the program's text lays them), the call returns true and each argument reads afterwards as it read before: the tied card. -/
import Derived.Test.YtamnmljgcmbliaaDoorC1
import Derived.Test.YtamnmljgcmbliaaDoorA22
import Derived.Test.YtamnmljgcmbliaaDoorP40
import Derived.SevenTiedAt
namespace Go.Proofs.YtamnmljgcmbliaaDoor
open Go Go.RowKit Go.Proofs Go.ChangeShapes Go.WideShapes Go.ChangeAt Go.WideMaps Go.WideElems
set_option maxRecDepth 100000
theorem cO5 : Tryd.prog.cellsOf 5 = 1 := by kernel_rfl
theorem cO23 : Tryd.prog.cellsOf 23 = 32 := by kernel_rfl
theorem cO3 : Tryd.prog.cellsOf 3 = 1 := by kernel_rfl
theorem cO24 : Tryd.prog.cellsOf 24 = 1 := by kernel_rfl
theorem cO31 : Tryd.prog.cellsOf 31 = 4 := by kernel_rfl
theorem S_api_Sig.opens : Opens Tryd.prog 31 S_api_Sig.ck := by
  intro H enc w base sp held fuel cs r h
  obtain ⟨hl, hf⟩ := opens_fields Tryd.underlying31 h
  obtain ⟨x0, h0⟩ : ∃ x, Lrel (allPub w) ((cs.drop 0).take (Tryd.prog.cellsOf 3)) ((iC .i64) x) := hf 0 _ rfl (opens_int Tryd.underlying3)
  obtain ⟨x1, h1⟩ : ∃ x, Lrel (allPub w) ((cs.drop 1).take (Tryd.prog.cellsOf 24)) ((slC (dC 32)) x) := hf 1 _ rfl (opens_slice Tryd.underlying24 (opens_bytes Tryd.underlying23 Tryd.underlying5 cO5 cO23) cO23 (lens_dC 32) (by decide))
  obtain ⟨x2, h2⟩ : ∃ x, Lrel (allPub w) ((cs.drop 2).take (Tryd.prog.cellsOf 24)) ((slC (dC 32)) x) := hf 2 _ rfl (opens_slice Tryd.underlying24 (opens_bytes Tryd.underlying23 Tryd.underlying5 cO5 cO23) cO23 (lens_dC 32) (by decide))
  obtain ⟨x3, h3⟩ : ∃ x, Lrel (allPub w) ((cs.drop 3).take (Tryd.prog.cellsOf 24)) ((slC (dC 32)) x) := hf 3 _ rfl (opens_slice Tryd.underlying24 (opens_bytes Tryd.underlying23 Tryd.underlying5 cO5 cO23) cO23 (lens_dC 32) (by decide))
  rw [cO3] at h0
  rw [cO24] at h1
  rw [cO24] at h2
  rw [cO24] at h3
  exact ⟨⟨x0, x1, x2, x3⟩, cut1 0 _ h0 (cut1 _ _ h1 (cut1 _ _ h2 (cut1 _ _ h3 (cut0 (hl.trans cO31)))))⟩
def S_api_Sig.W (x : S_api_Sig) : Prop := (InR .i64 x.f_Index) ∧ (x.f_Parts.length ≤ mxl ∧ ∀ y ∈ x.f_Parts, y.length = 32) ∧ (x.f_Others.length ≤ mxl ∧ ∀ y ∈ x.f_Others, y.length = 32) ∧ (x.f_Path.length ≤ mxl ∧ ∀ y ∈ x.f_Path, y.length = 32)
theorem S_api_Sig.wf {Φ : Pub} {cs : List Value} {x : S_api_Sig} (h : Lrel Φ cs (S_api_Sig.ck x)) : S_api_Sig.W x := by
  obtain ⟨⟨_, g0⟩, _, k0⟩ := wf_cut h
  obtain ⟨⟨_, g1⟩, _, k1⟩ := wf_cut k0
  obtain ⟨⟨_, g2⟩, _, k2⟩ := wf_cut k1
  obtain ⟨⟨_, g3⟩, _, k3⟩ := wf_cut k2
  exact ⟨wf_int _ _ _ g0, (wf_slice wf_bytes) _ _ _ g1, (wf_slice wf_bytes) _ _ _ g2, (wf_slice wf_bytes) _ _ _ g3⟩
theorem S_api_Sig.wf' : ∀ (Φ : Pub) (cs : List Value) (x : S_api_Sig), Lrel Φ cs (S_api_Sig.ck x) → S_api_Sig.W x := fun _ _ _ h => S_api_Sig.wf h
def plain_keysBinds : Prop := ∀ (x0 : List UInt8) (x1 : List UInt8) (x2 : S_api_Sig), (x0.length = 32) → (x1.length = 32) → (S_api_Sig.W x2) → law06_KeysBinds x0 x1 x2 = some true
theorem keysBinds_lifted (plain : plain_keysBinds) (os : Os) (started : os.Started) (H : Type) (enc : TypeId × Value → H) :
    ReturnsInHanded {} Tryd.checked os 4 .any (fun w args => (Rows.keysBindsSpec.pre enc Tryd.prog Tryd.f4 [] false w args ∧ laidMetH Tryd.prog laidL w) ∧ sizedMet enc Tryd.prog Tryd.f4 (OpenSpec.ofChange Rows.keysBindsSpec) false w args)
      (Rows.keysBindsSpec.post enc Tryd.prog Tryd.f4 false true false false) := by
  refine returnsInHanded_of_change_and (C := Tryd.checked) (X := fun w _ => laidMetH Tryd.prog laidL w) (fun _ _ _ hh h => h.of_heap hh) ownKn started (by kernel_rfl) Tryd.func4
    (ChangeSpec.witness_shaped (enc := enc) (C := Tryd.checked) (os := os) (X := fun w _ => laidMetH Tryd.prog laidL w) false (World.doorLaid Tryd.prog 400 os) #[.agg #[.int .u8 0, .int .u8 0, .int .u8 0, .int .u8 0, .int .u8 0, .int .u8 0, .int .u8 0, .int .u8 0, .int .u8 0, .int .u8 0, .int .u8 0, .int .u8 0, .int .u8 0, .int .u8 0, .int .u8 0, .int .u8 0, .int .u8 0, .int .u8 0, .int .u8 0, .int .u8 0, .int .u8 0, .int .u8 0, .int .u8 0, .int .u8 0, .int .u8 0, .int .u8 0, .int .u8 0, .int .u8 0, .int .u8 0, .int .u8 0, .int .u8 0, .int .u8 0], .agg #[.int .u8 0, .int .u8 0, .int .u8 0, .int .u8 0, .int .u8 0, .int .u8 0, .int .u8 0, .int .u8 0, .int .u8 0, .int .u8 0, .int .u8 0, .int .u8 0, .int .u8 0, .int .u8 0, .int .u8 0, .int .u8 0, .int .u8 0, .int .u8 0, .int .u8 0, .int .u8 0, .int .u8 0, .int .u8 0, .int .u8 0, .int .u8 0, .int .u8 0, .int .u8 0, .int .u8 0, .int .u8 0, .int .u8 0, .int .u8 0, .int .u8 0, .int .u8 0], .agg #[.int .i64 0, .slice none 0 0, .slice none 0 0, .slice none 0 0]] 8 rfl (World.shaped_of_RefB (by kernel_rfl) (by kernel_rfl)) (by kernel_rfl) (by kernel_rfl) (by kernel_rfl) (door_met os _)) ?_
  intro W base args ds gs before hval0 hW _ _ hL _
  have hval : ∀ (j : Nat) t v, Tryd.f4.params[j]? = some t → args[j]? = some v → Value.okWide Tryd.prog W .any base t v := hval0
  have hW' := hW
  obtain ⟨p, q, hA0, hV, rfl, hfz, hnd⟩ := hW
  have hA : DataW.TrodAll enc Tryd.prog W 0 (fun _ => true) true Tryd.f4.params.toList args.toList ds p := hA0
  rw [Tryd.params4] at hA hval
  obtain ⟨v0, vs0, d0, ds0, p0, q0, hargs, rfl, rfl, h0, r0⟩ := trodAll_cons hA
  obtain ⟨v1, vs1, d1, ds1, p1, q1, rfl, rfl, rfl, h1, r1⟩ := trodAll_cons r0
  obtain ⟨v2, vs2, d2, ds2, p2, q2, rfl, rfl, rfl, h2, r2⟩ := trodAll_cons r1
  obtain ⟨rfl, rfl, rfl⟩ := trodAll_nil r2
  obtain rfl : args = #[v0, v1, v2] := by cases args; simp_all
  obtain ⟨rfl, rfl⟩ := trodVars_none hV
  have lt0 : ∀ x ∈ p0, x.block < W.heap.size := by obtain ⟨m, hm⟩ := h0; exact DataW.trod_lt m _ _ _ hm
  have lt1 : ∀ x ∈ p1, x.block < W.heap.size := by obtain ⟨m, hm⟩ := h1; exact DataW.trod_lt m _ _ _ hm
  have lt2 : ∀ x ∈ p2, x.block < W.heap.size := by obtain ⟨m, hm⟩ := h2; exact DataW.trod_lt m _ _ _ hm
  obtain ⟨x0, hx0⟩ := opens_val (opens_bytes Tryd.underlying23 Tryd.underlying5 cO5 cO23) h0
  obtain ⟨x1, hx1⟩ := opens_val (opens_bytes Tryd.underlying23 Tryd.underlying5 cO5 cO23) h1
  obtain ⟨x2, hx2⟩ := opens_val S_api_Sig.opens h2
  have a0 := agg_of (c := (dC 32)) (hval 0 23 v0 rfl rfl) (by rw [Tryd.underlying23]; trivial) hx0
  have w0 := wf_bytes _ _ _ hx0
  have a1 := agg_of (c := (dC 32)) (hval 1 23 v1 rfl rfl) (by rw [Tryd.underlying23]; trivial) hx1
  have w1 := wf_bytes _ _ _ hx1
  have a2 := agg_of (c := S_api_Sig.ck) (hval 2 31 v2 rfl rfl) (by rw [Tryd.underlying31]; trivial) hx2
  have w2 := S_api_Sig.wf' _ _ _ hx2
  clear hA0 hval0
  refine (law_calls (law06_KeysBinds_ok (plain x0 x1 x2 w0 w1 w2)) (KG_of hL) (args := [v0, v1, v2]) ⟨a0, a1, a2, trivial⟩).mono fun e W' ⟨he, bel⟩ => ?_
  subst he
  exact ⟨_, rfl, _, _, _, [], _, [], hW', trodAll_mk1 (shut_bool Tryd.underlying4 _), (trodAll_cons_mk (Below.trod laidOut (by kernel_rfl) (of_decide_eq_true (by kernel_rfl)) h0 bel lt0) (trodAll_cons_mk (Below.trod laidOut (by kernel_rfl) (of_decide_eq_true (by kernel_rfl)) h1 bel lt1) (trodAll_cons_mk (Below.trod laidOut (by kernel_rfl) (of_decide_eq_true (by kernel_rfl)) h2 bel lt2) trodAll_mk0))), rfl, bel.frame _, fun h => by cases h⟩
theorem keysBinds_said (plain : plain_keysBinds) : Rows.KeysBindsSaid :=
  OpenClaim.holds_of_wide 4 Tryd.f4 rfl rfl rfl rfl rfl rfl rfl ⟨rfl, rfl, rfl, rfl, rfl⟩ rfl rfl rfl rfl rfl (by kernel_rfl) Tryd.func4 (by kernel_rfl)
    (of_decide_eq_true (by kernel_rfl)) (by unfold Func.isWrapper; first | (rw [if_pos (by decide +kernel)]; kernel_rfl) | (rw [if_neg (by decide +kernel)]; exact ⟨rfl, rfl⟩))
    (fun os started H enc _ => keysBinds_lifted plain os started H enc)
theorem keysBinds_card : Rows.KeysBindsCardSaid :=
  Claim7.holds_tied_plain_at .later [] [.data, .data] true (true, "f763fb9be028428bf5ee24bfc03caf77e304a6b0a15c70790ef7acd00324caf3") false
    (keysBinds_said (fun x0 x1 x2 w0 _ w2 => keysBinds_true x0 x1 x2 w0 ⟨w2.2.1.2, w2.2.2.1.2, w2.2.2.2.2⟩)) (fun _ h => by cases h) (by kernel_rfl) (fun _ h => by cases h) keysBinds_row_tie rfl ⟨rfl, rfl⟩ (by kernel_rfl) rfl
    (fun f fn hf hfn => by
      obtain rfl : f = 4 := Option.some.inj ((show Tryd.prog.funcNamed "pontoon/pontoonlaw06.KeysBinds" = some 4 by kernel_rfl).symm.trans hf) |>.symm
      obtain rfl : fn = Tryd.f4 := (Option.some.inj (Tryd.func4.symm.trans hfn)).symm
      exact ⟨by kernel_rfl, fun j t ht => by
        rw [Tryd.params4] at ht
        have h3 : t ∈ ([23, 23, 31] : List TypeId) := by
          have := List.mem_of_getElem? (by simpa using ht)
          simpa using this
        simp only [List.mem_cons, List.not_mem_nil, or_false] at h3
        rcases h3 with rfl | rfl | rfl
        · exact (show Tryd.prog.wantsStandIn 23 = false by kernel_rfl)
        · exact (show Tryd.prog.wantsStandIn 23 = false by kernel_rfl)
        · exact (show Tryd.prog.wantsStandIn 31 = false by kernel_rfl)⟩)
    (by kernel_rfl)
#print axioms keysBinds_card
end Go.Proofs.YtamnmljgcmbliaaDoor
