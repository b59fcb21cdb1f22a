/- pontoon/pontoonlaw06.KeysBooks: whatever the input (the listed variables as the program's text lays them), the call returns true and each argument reads afterwards as it read before: the tied card. -/
import Derived.Test.YtamnmljgcmbliaaDoorC1
import Derived.Test.YtamnmljgcmbliaaDoorA22
import Derived.Test.YtamnmljgcmbliaaDoorP34
import Derived.SevenTiedAt
namespace Go.Proofs.YtamnmljgcmbliaaDoor
open Go Go.RowKit Go.Proofs Go.ChangeShapes Go.WideShapes Go.ChangeAt Go.WideMaps Go.WideElems
set_option maxRecDepth 100000
theorem cO5 : Tryd.prog.cellsOf 5 = 1 := by kernel_rfl
theorem cO23 : Tryd.prog.cellsOf 23 = 32 := by kernel_rfl
theorem cO67 : Tryd.prog.cellsOf 67 = 64 := by kernel_rfl
theorem S_keys_Signed.opens : Opens Tryd.prog 67 S_keys_Signed.ck := by
  intro H enc w base sp held fuel cs r h
  obtain ⟨hl, hf⟩ := opens_fields Tryd.underlying67 h
  obtain ⟨x0, h0⟩ : ∃ x, Lrel (allPub w) ((cs.drop 0).take (Tryd.prog.cellsOf 23)) ((dC 32) x) := hf 0 _ rfl (opens_bytes Tryd.underlying23 Tryd.underlying5 cO5 cO23)
  obtain ⟨x1, h1⟩ : ∃ x, Lrel (allPub w) ((cs.drop 32).take (Tryd.prog.cellsOf 23)) ((dC 32) x) := hf 1 _ rfl (opens_bytes Tryd.underlying23 Tryd.underlying5 cO5 cO23)
  rw [cO23] at h0
  rw [cO23] at h1
  exact ⟨⟨x0, x1⟩, cut1 0 _ h0 (cut1 _ _ h1 (cut0 (hl.trans cO67)))⟩
def S_keys_Signed.W (x : S_keys_Signed) : Prop := (x.f_Root.length = 32) ∧ (x.f_Digest.length = 32)
theorem S_keys_Signed.wf {Φ : Pub} {cs : List Value} {x : S_keys_Signed} (h : Lrel Φ cs (S_keys_Signed.ck x)) : S_keys_Signed.W x := by
  obtain ⟨⟨_, g0⟩, _, k0⟩ := wf_cut h
  obtain ⟨⟨_, g1⟩, _, k1⟩ := wf_cut k0
  exact ⟨wf_bytes _ _ _ g0, wf_bytes _ _ _ g1⟩
theorem S_keys_Signed.wf' : ∀ (Φ : Pub) (cs : List Value) (x : S_keys_Signed), Lrel Φ cs (S_keys_Signed.ck x) → S_keys_Signed.W x := fun _ _ _ h => S_keys_Signed.wf h
def plain_keysBooks : Prop := ∀ (x0 : List (S_keys_Signed)) (x1 : List UInt8) (x2 : List UInt8), (x0.length ≤ mxl ∧ ∀ y ∈ x0, S_keys_Signed.W y) → (x1.length = 32) → (x2.length = 32) → law06_KeysBooks x0 x1 x2 = some true
theorem keysBooks_lifted (plain : plain_keysBooks) (os : Os) (started : os.Started) (H : Type) (enc : TypeId × Value → H) :
    ReturnsInHanded {} Tryd.checked os 8 .any (fun w args => (Rows.keysBooksSpec.pre enc Tryd.prog Tryd.f8 [] false w args ∧ laidMetH Tryd.prog laidL w) ∧ sizedMet enc Tryd.prog Tryd.f8 (OpenSpec.ofChange Rows.keysBooksSpec) false w args)
      (Rows.keysBooksSpec.post enc Tryd.prog Tryd.f8 false true false false) := by
  refine returnsInHanded_of_change_and (C := Tryd.checked) (X := fun w _ => laidMetH Tryd.prog laidL w) (fun _ _ _ hh h => h.of_heap hh) ownKn started (by kernel_rfl) Tryd.func8
    (ChangeSpec.witness_shaped (enc := enc) (C := Tryd.checked) (os := os) (X := fun w _ => laidMetH Tryd.prog laidL w) false (World.doorLaid Tryd.prog 400 os) #[.slice none 0 0, .agg #[.int .u8 0, .int .u8 0, .int .u8 0, .int .u8 0, .int .u8 0, .int .u8 0, .int .u8 0, .int .u8 0, .int .u8 0, .int .u8 0, .int .u8 0, .int .u8 0, .int .u8 0, .int .u8 0, .int .u8 0, .int .u8 0, .int .u8 0, .int .u8 0, .int .u8 0, .int .u8 0, .int .u8 0, .int .u8 0, .int .u8 0, .int .u8 0, .int .u8 0, .int .u8 0, .int .u8 0, .int .u8 0, .int .u8 0, .int .u8 0, .int .u8 0, .int .u8 0], .agg #[.int .u8 0, .int .u8 0, .int .u8 0, .int .u8 0, .int .u8 0, .int .u8 0, .int .u8 0, .int .u8 0, .int .u8 0, .int .u8 0, .int .u8 0, .int .u8 0, .int .u8 0, .int .u8 0, .int .u8 0, .int .u8 0, .int .u8 0, .int .u8 0, .int .u8 0, .int .u8 0, .int .u8 0, .int .u8 0, .int .u8 0, .int .u8 0, .int .u8 0, .int .u8 0, .int .u8 0, .int .u8 0, .int .u8 0, .int .u8 0, .int .u8 0, .int .u8 0]] 8 rfl (World.shaped_of_RefB (by kernel_rfl) (by kernel_rfl)) (by kernel_rfl) (by kernel_rfl) (by kernel_rfl) (door_met os _)) ?_
  intro W base args ds gs before hval0 hW _ _ hL _
  have hval : ∀ (j : Nat) t v, Tryd.f8.params[j]? = some t → args[j]? = some v → Value.okWide Tryd.prog W .any base t v := hval0
  have hW' := hW
  obtain ⟨p, q, hA0, hV, rfl, hfz, hnd⟩ := hW
  have hA : DataW.TrodAll enc Tryd.prog W 0 (fun _ => true) true Tryd.f8.params.toList args.toList ds p := hA0
  rw [Tryd.params8] at hA hval
  obtain ⟨v0, vs0, d0, ds0, p0, q0, hargs, rfl, rfl, h0, r0⟩ := trodAll_cons hA
  obtain ⟨v1, vs1, d1, ds1, p1, q1, rfl, rfl, rfl, h1, r1⟩ := trodAll_cons r0
  obtain ⟨v2, vs2, d2, ds2, p2, q2, rfl, rfl, rfl, h2, r2⟩ := trodAll_cons r1
  obtain ⟨rfl, rfl, rfl⟩ := trodAll_nil r2
  obtain rfl : args = #[v0, v1, v2] := by cases args; simp_all
  obtain ⟨rfl, rfl⟩ := trodVars_none hV
  have lt0 : ∀ x ∈ p0, x.block < W.heap.size := by obtain ⟨m, hm⟩ := h0; exact DataW.trod_lt m _ _ _ hm
  have lt1 : ∀ x ∈ p1, x.block < W.heap.size := by obtain ⟨m, hm⟩ := h1; exact DataW.trod_lt m _ _ _ hm
  have lt2 : ∀ x ∈ p2, x.block < W.heap.size := by obtain ⟨m, hm⟩ := h2; exact DataW.trod_lt m _ _ _ hm
  obtain ⟨x0, hx0⟩ := opens_val (opens_slice Tryd.underlying64 S_keys_Signed.opens cO67 S_keys_Signed.lens (by decide)) h0
  obtain ⟨x1, hx1⟩ := opens_val (opens_bytes Tryd.underlying23 Tryd.underlying5 cO5 cO23) h1
  obtain ⟨x2, hx2⟩ := opens_val (opens_bytes Tryd.underlying23 Tryd.underlying5 cO5 cO23) h2
  have a0 := val_slice (hval 0 64 v0 rfl rfl) Tryd.underlying64 hx0
  have w0 := (wf_slice S_keys_Signed.wf') _ _ _ hx0
  have a1 := agg_of (c := (dC 32)) (hval 1 23 v1 rfl rfl) (by rw [Tryd.underlying23]; trivial) hx1
  have w1 := wf_bytes _ _ _ hx1
  have a2 := agg_of (c := (dC 32)) (hval 2 23 v2 rfl rfl) (by rw [Tryd.underlying23]; trivial) hx2
  have w2 := wf_bytes _ _ _ hx2
  clear hA0 hval0
  refine (law_calls (law06_KeysBooks_ok (plain x0 x1 x2 w0 w1 w2)) (KG_of hL) (args := [v0, v1, v2]) ⟨a0, a1, a2, trivial⟩).mono fun e W' ⟨he, bel⟩ => ?_
  subst he
  exact ⟨_, rfl, _, _, _, [], _, [], hW', trodAll_mk1 (shut_bool Tryd.underlying4 _), (trodAll_cons_mk (Below.trod laidOut (by kernel_rfl) (of_decide_eq_true (by kernel_rfl)) h0 bel lt0) (trodAll_cons_mk (Below.trod laidOut (by kernel_rfl) (of_decide_eq_true (by kernel_rfl)) h1 bel lt1) (trodAll_cons_mk (Below.trod laidOut (by kernel_rfl) (of_decide_eq_true (by kernel_rfl)) h2 bel lt2) trodAll_mk0))), rfl, bel.frame _, fun h => by cases h⟩
theorem keysBooks_said (plain : plain_keysBooks) : Rows.KeysBooksSaid :=
  OpenClaim.holds_of_wide 8 Tryd.f8 rfl rfl rfl rfl rfl rfl rfl ⟨rfl, rfl, rfl, rfl, rfl⟩ rfl rfl rfl rfl rfl (by kernel_rfl) Tryd.func8 (by kernel_rfl)
    (of_decide_eq_true (by kernel_rfl)) (by unfold Func.isWrapper; first | (rw [if_pos (by decide +kernel)]; kernel_rfl) | (rw [if_neg (by decide +kernel)]; exact ⟨rfl, rfl⟩))
    (fun os started H enc _ => keysBooks_lifted plain os started H enc)
theorem keysBooks_card : Rows.KeysBooksCardSaid :=
  Claim7.holds_tied_plain_at .later [] [.data, .data] true (true, "f763fb9be028428bf5ee24bfc03caf77e304a6b0a15c70790ef7acd00324caf3") false
    (keysBooks_said (fun x0 x1 x2 _ _ _ => keysBooks_true x0 x1 x2)) (fun _ h => by cases h) (by kernel_rfl) (fun _ h => by cases h) keysBooks_row_tie rfl ⟨rfl, rfl⟩ (by kernel_rfl) rfl
    (fun f fn hf hfn => by
      obtain rfl : f = 8 := Option.some.inj ((show Tryd.prog.funcNamed "pontoon/pontoonlaw06.KeysBooks" = some 8 by kernel_rfl).symm.trans hf) |>.symm
      obtain rfl : fn = Tryd.f8 := (Option.some.inj (Tryd.func8.symm.trans hfn)).symm
      exact ⟨by kernel_rfl, fun j t ht => by
        rw [Tryd.params8] at ht
        have h3 : t ∈ ([64, 23, 23] : List TypeId) := by
          have := List.mem_of_getElem? (by simpa using ht)
          simpa using this
        simp only [List.mem_cons, List.not_mem_nil, or_false] at h3
        rcases h3 with rfl | rfl | rfl
        · exact (show Tryd.prog.wantsStandIn 64 = false by kernel_rfl)
        · exact (show Tryd.prog.wantsStandIn 23 = false by kernel_rfl)
        · exact (show Tryd.prog.wantsStandIn 23 = false by kernel_rfl)⟩)
    (by kernel_rfl)
#print axioms keysBooks_card
end Go.Proofs.YtamnmljgcmbliaaDoor
