/- pontoon/pontoonlaw23.RelayerCarries: whatever the input (the listed variables as the program's text lays them), the call returns true and each argument reads afterwards as it read before: the tied card. -/
import Derived.Test.YtklikgigjdgjaaaGreatDoorRRRC1
import Derived.Test.YtklikgigjdgjaaaGreatDoorRRRA22
import Derived.Test.YtklikgigjdgjaaaGreatDoorRRRP75
import Derived.SevenTiedAt
namespace Go.Proofs.YtklikgigjdgjaaaGreatDoorRRR
open Go Go.RowKit Go.Proofs Go.ChangeShapes Go.WideShapes Go.ChangeAt Go.WideMaps Go.WideElems
set_option maxRecDepth 100000
theorem cO5 : Tryz.prog.cellsOf 5 = 1 := by kernel_rfl
theorem cO23 : Tryz.prog.cellsOf 23 = 32 := by kernel_rfl
theorem cO3 : Tryz.prog.cellsOf 3 = 1 := by kernel_rfl
def plain_relayerCarries : Prop := ∀ (x0 : List UInt8) (x1 : Int) (x2 : List (Int)) (x3 : Int), (x0.length = 32) → (InR .u8 x1) → (x2.length ≤ mxl ∧ ∀ y ∈ x2, InR .i64 y) → (InR .u16 x3) → law23_RelayerCarries x0 x1 x2 x3 = some true
theorem relayerCarries_lifted (plain : plain_relayerCarries) (os : Os) (started : os.Started) (H : Type) (enc : TypeId × Value → H) :
    ReturnsInHanded {} Tryz.checked os 3 .any (fun w args => (Rows.relayerCarriesSpec.pre enc Tryz.prog Tryz.f3 [] false w args ∧ laidMetH Tryz.prog laidL w) ∧ sizedMet enc Tryz.prog Tryz.f3 (OpenSpec.ofChange Rows.relayerCarriesSpec) false w args)
      (Rows.relayerCarriesSpec.post enc Tryz.prog Tryz.f3 false true false false) := by
  refine returnsInHanded_of_change_and (C := Tryz.checked) (X := fun w _ => laidMetH Tryz.prog laidL w) (fun _ _ _ hh h => h.of_heap hh) ownKn started (by kernel_rfl) Tryz.func3
    (ChangeSpec.witness_shaped (enc := enc) (C := Tryz.checked) (os := os) (X := fun w _ => laidMetH Tryz.prog laidL w) false (World.doorLaid Tryz.prog 400 os) #[.agg #[.int .u8 0, .int .u8 0, .int .u8 0, .int .u8 0, .int .u8 0, .int .u8 0, .int .u8 0, .int .u8 0, .int .u8 0, .int .u8 0, .int .u8 0, .int .u8 0, .int .u8 0, .int .u8 0, .int .u8 0, .int .u8 0, .int .u8 0, .int .u8 0, .int .u8 0, .int .u8 0, .int .u8 0, .int .u8 0, .int .u8 0, .int .u8 0, .int .u8 0, .int .u8 0, .int .u8 0, .int .u8 0, .int .u8 0, .int .u8 0, .int .u8 0, .int .u8 0], .int .u8 0, .slice none 0 0, .int .u16 0] 8 rfl (World.shaped_of_RefB (by kernel_rfl) (by kernel_rfl)) (by kernel_rfl) (by kernel_rfl) (by kernel_rfl) (door_met os _)) ?_
  intro W base args ds gs before hval0 hW _ _ hL _
  have hval : ∀ (j : Nat) t v, Tryz.f3.params[j]? = some t → args[j]? = some v → Value.okWide Tryz.prog W .any base t v := hval0
  have hW' := hW
  obtain ⟨p, q, hA0, hV, rfl, hfz, hnd⟩ := hW
  have hA : DataW.TrodAll enc Tryz.prog W 0 (fun _ => true) true Tryz.f3.params.toList args.toList ds p := hA0
  rw [Tryz.params3] at hA hval
  obtain ⟨v0, vs0, d0, ds0, p0, q0, hargs, rfl, rfl, h0, r0⟩ := trodAll_cons hA
  obtain ⟨v1, vs1, d1, ds1, p1, q1, rfl, rfl, rfl, h1, r1⟩ := trodAll_cons r0
  obtain ⟨v2, vs2, d2, ds2, p2, q2, rfl, rfl, rfl, h2, r2⟩ := trodAll_cons r1
  obtain ⟨v3, vs3, d3, ds3, p3, q3, rfl, rfl, rfl, h3, r3⟩ := trodAll_cons r2
  obtain ⟨rfl, rfl, rfl⟩ := trodAll_nil r3
  obtain rfl : args = #[v0, v1, v2, v3] := by cases args; simp_all
  obtain ⟨rfl, rfl⟩ := trodVars_none hV
  have lt0 : ∀ x ∈ p0, x.block < W.heap.size := by obtain ⟨m, hm⟩ := h0; exact DataW.trod_lt m _ _ _ hm
  have lt1 : ∀ x ∈ p1, x.block < W.heap.size := by obtain ⟨m, hm⟩ := h1; exact DataW.trod_lt m _ _ _ hm
  have lt2 : ∀ x ∈ p2, x.block < W.heap.size := by obtain ⟨m, hm⟩ := h2; exact DataW.trod_lt m _ _ _ hm
  have lt3 : ∀ x ∈ p3, x.block < W.heap.size := by obtain ⟨m, hm⟩ := h3; exact DataW.trod_lt m _ _ _ hm
  obtain ⟨x0, hx0⟩ := opens_val (opens_bytes Tryz.underlying23 Tryz.underlying5 cO5 cO23) h0
  obtain ⟨x1, hx1⟩ := opens_val (opens_int Tryz.underlying5) h1
  obtain ⟨x2, hx2⟩ := opens_val (opens_slice Tryz.underlying24 (opens_int Tryz.underlying3) cO3 (lens_iC .i64) (by decide)) h2
  obtain ⟨x3, hx3⟩ := opens_val (opens_int Tryz.underlying25) h3
  have a0 := agg_of (c := (dC 32)) (hval 0 23 v0 rfl rfl) (by rw [Tryz.underlying23]; trivial) hx0
  have w0 := wf_bytes _ _ _ hx0
  have a1 := val_int (hval 1 5 v1 rfl rfl) Tryz.underlying5 hx1
  have w1 := wf_int _ _ _ hx1
  have a2 := val_slice (hval 2 24 v2 rfl rfl) Tryz.underlying24 hx2
  have w2 := (wf_slice wf_int) _ _ _ hx2
  have a3 := val_int (hval 3 25 v3 rfl rfl) Tryz.underlying25 hx3
  have w3 := wf_int _ _ _ hx3
  clear hA0 hval0
  refine (law_calls (law23_RelayerCarries_ok (plain x0 x1 x2 x3 w0 w1 w2 w3)) (KG_of hL) (args := [v0, v1, v2, v3]) ⟨a0, a1, a2, a3, trivial⟩).mono fun e W' ⟨he, bel⟩ => ?_
  subst he
  exact ⟨_, rfl, _, _, _, [], _, [], hW', trodAll_mk1 (shut_bool Tryz.underlying4 _), (trodAll_cons_mk (Below.trod laidOut (by kernel_rfl) (of_decide_eq_true (by kernel_rfl)) h0 bel lt0) (trodAll_cons_mk (Below.trod laidOut (by kernel_rfl) (of_decide_eq_true (by kernel_rfl)) h1 bel lt1) (trodAll_cons_mk (Below.trod laidOut (by kernel_rfl) (of_decide_eq_true (by kernel_rfl)) h2 bel lt2) (trodAll_cons_mk (Below.trod laidOut (by kernel_rfl) (of_decide_eq_true (by kernel_rfl)) h3 bel lt3) trodAll_mk0)))), rfl, bel.frame _, fun h => by cases h⟩
theorem relayerCarries_said (plain : plain_relayerCarries) : Rows.RelayerCarriesSaid :=
  OpenClaim.holds_of_wide 3 Tryz.f3 rfl rfl rfl rfl rfl rfl rfl ⟨rfl, rfl, rfl, rfl, rfl⟩ rfl rfl rfl rfl rfl (by kernel_rfl) Tryz.func3 (by kernel_rfl)
    (of_decide_eq_true (by kernel_rfl)) (by unfold Func.isWrapper; first | (rw [if_pos (by decide +kernel)]; kernel_rfl) | (rw [if_neg (by decide +kernel)]; exact ⟨rfl, rfl⟩))
    (fun os started H enc _ => relayerCarries_lifted plain os started H enc)
theorem relayerCarries_card : Rows.RelayerCarriesCardSaid :=
  Claim7.holds_tied_plain_at .later [] [.data, .data] true (true, "bbd1260a105c4d576937418c476e2b0432425e0a26388e75609877fc6ce2a7db") false
    (relayerCarries_said (fun x0 x1 x2 x3 w0 w1 _ w3 => relayerCarries_true x0 x1 x2 x3 w0 w1 w3)) (fun _ h => by cases h) (by kernel_rfl) (fun _ h => by cases h) relayerCarries_row_tie rfl ⟨rfl, rfl⟩ (by kernel_rfl) rfl
    (fun f fn hf hfn => by
      obtain rfl : f = 3 := Option.some.inj ((show Tryz.prog.funcNamed "pontoon/pontoonlaw23.RelayerCarries" = some 3 by kernel_rfl).symm.trans hf) |>.symm
      obtain rfl : fn = Tryz.f3 := (Option.some.inj (Tryz.func3.symm.trans hfn)).symm
      exact ⟨by kernel_rfl, fun j t ht => by
        rw [Tryz.params3] at ht
        have h3 : t ∈ ([23, 5, 24, 25] : List TypeId) := by
          have := List.mem_of_getElem? (by simpa using ht)
          simpa using this
        simp only [List.mem_cons, List.not_mem_nil, or_false] at h3
        rcases h3 with rfl | rfl | rfl | rfl
        · exact (show Tryz.prog.wantsStandIn 23 = false by kernel_rfl)
        · exact (show Tryz.prog.wantsStandIn 5 = false by kernel_rfl)
        · exact (show Tryz.prog.wantsStandIn 24 = false by kernel_rfl)
        · exact (show Tryz.prog.wantsStandIn 25 = false by kernel_rfl)⟩)
    (by kernel_rfl)
#print axioms relayerCarries_card
end Go.Proofs.YtklikgigjdgjaaaGreatDoorRRR
