/- pontoon/pontoonlaw10.UpdateBinds: whatever the input (the listed variables as the program's text lays them), the call returns true and each argument reads afterwards as it read before: the tied card. -/
import Derived.Test.YtamnmljgcmbliaaDoorC1
import Derived.Test.YtamnmljgcmbliaaDoorA22
import Derived.Test.YtamnmljgcmbliaaDoorP38
import Derived.SevenTiedAt
namespace Go.Proofs.YtamnmljgcmbliaaDoor
open Go Go.RowKit Go.Proofs Go.ChangeShapes Go.WideShapes Go.ChangeAt Go.WideMaps Go.WideElems
set_option maxRecDepth 100000
theorem cO5 : Tryd.prog.cellsOf 5 = 1 := by kernel_rfl
theorem cO23 : Tryd.prog.cellsOf 23 = 32 := by kernel_rfl
def plain_updateBinds : Prop := ∀ (x0 : List UInt8) (x1 : Int) (x2 : Int) (x3 : List UInt8) (x4 : List UInt8) (x5 : List UInt8) (x6 : List UInt8), (x0.length = 32) → (InR .u32 x1) → (InR .u32 x2) → (x3.length = 32) → (x4.length = 32) → (x5.length = 32) → (x6.length = 32) → law10_UpdateBinds x0 x1 x2 x3 x4 x5 x6 = some true
theorem updateBinds_lifted (plain : plain_updateBinds) (os : Os) (started : os.Started) (H : Type) (enc : TypeId × Value → H) :
    ReturnsInHanded {} Tryd.checked os 6 .any (fun w args => (Rows.updateBindsSpec.pre enc Tryd.prog Tryd.f6 [] false w args ∧ laidMetH Tryd.prog laidL w) ∧ sizedMet enc Tryd.prog Tryd.f6 (OpenSpec.ofChange Rows.updateBindsSpec) false w args)
      (Rows.updateBindsSpec.post enc Tryd.prog Tryd.f6 false true false false) := by
  refine returnsInHanded_of_change_and (C := Tryd.checked) (X := fun w _ => laidMetH Tryd.prog laidL w) (fun _ _ _ hh h => h.of_heap hh) ownKn started (by kernel_rfl) Tryd.func6
    (ChangeSpec.witness_shaped (enc := enc) (C := Tryd.checked) (os := os) (X := fun w _ => laidMetH Tryd.prog laidL w) false (World.doorLaid Tryd.prog 400 os) #[.agg #[.int .u8 0, .int .u8 0, .int .u8 0, .int .u8 0, .int .u8 0, .int .u8 0, .int .u8 0, .int .u8 0, .int .u8 0, .int .u8 0, .int .u8 0, .int .u8 0, .int .u8 0, .int .u8 0, .int .u8 0, .int .u8 0, .int .u8 0, .int .u8 0, .int .u8 0, .int .u8 0, .int .u8 0, .int .u8 0, .int .u8 0, .int .u8 0, .int .u8 0, .int .u8 0, .int .u8 0, .int .u8 0, .int .u8 0, .int .u8 0, .int .u8 0, .int .u8 0], .int .u32 0, .int .u32 0, .agg #[.int .u8 0, .int .u8 0, .int .u8 0, .int .u8 0, .int .u8 0, .int .u8 0, .int .u8 0, .int .u8 0, .int .u8 0, .int .u8 0, .int .u8 0, .int .u8 0, .int .u8 0, .int .u8 0, .int .u8 0, .int .u8 0, .int .u8 0, .int .u8 0, .int .u8 0, .int .u8 0, .int .u8 0, .int .u8 0, .int .u8 0, .int .u8 0, .int .u8 0, .int .u8 0, .int .u8 0, .int .u8 0, .int .u8 0, .int .u8 0, .int .u8 0, .int .u8 0], .agg #[.int .u8 0, .int .u8 0, .int .u8 0, .int .u8 0, .int .u8 0, .int .u8 0, .int .u8 0, .int .u8 0, .int .u8 0, .int .u8 0, .int .u8 0, .int .u8 0, .int .u8 0, .int .u8 0, .int .u8 0, .int .u8 0, .int .u8 0, .int .u8 0, .int .u8 0, .int .u8 0, .int .u8 0, .int .u8 0, .int .u8 0, .int .u8 0, .int .u8 0, .int .u8 0, .int .u8 0, .int .u8 0, .int .u8 0, .int .u8 0, .int .u8 0, .int .u8 0], .agg #[.int .u8 0, .int .u8 0, .int .u8 0, .int .u8 0, .int .u8 0, .int .u8 0, .int .u8 0, .int .u8 0, .int .u8 0, .int .u8 0, .int .u8 0, .int .u8 0, .int .u8 0, .int .u8 0, .int .u8 0, .int .u8 0, .int .u8 0, .int .u8 0, .int .u8 0, .int .u8 0, .int .u8 0, .int .u8 0, .int .u8 0, .int .u8 0, .int .u8 0, .int .u8 0, .int .u8 0, .int .u8 0, .int .u8 0, .int .u8 0, .int .u8 0, .int .u8 0], .agg #[.int .u8 0, .int .u8 0, .int .u8 0, .int .u8 0, .int .u8 0, .int .u8 0, .int .u8 0, .int .u8 0, .int .u8 0, .int .u8 0, .int .u8 0, .int .u8 0, .int .u8 0, .int .u8 0, .int .u8 0, .int .u8 0, .int .u8 0, .int .u8 0, .int .u8 0, .int .u8 0, .int .u8 0, .int .u8 0, .int .u8 0, .int .u8 0, .int .u8 0, .int .u8 0, .int .u8 0, .int .u8 0, .int .u8 0, .int .u8 0, .int .u8 0, .int .u8 0]] 8 rfl (World.shaped_of_RefB (by kernel_rfl) (by kernel_rfl)) (by kernel_rfl) (by kernel_rfl) (by kernel_rfl) (door_met os _)) ?_
  intro W base args ds gs before hval0 hW _ _ hL _
  have hval : ∀ (j : Nat) t v, Tryd.f6.params[j]? = some t → args[j]? = some v → Value.okWide Tryd.prog W .any base t v := hval0
  have hW' := hW
  obtain ⟨p, q, hA0, hV, rfl, hfz, hnd⟩ := hW
  have hA : DataW.TrodAll enc Tryd.prog W 0 (fun _ => true) true Tryd.f6.params.toList args.toList ds p := hA0
  rw [Tryd.params6] at hA hval
  obtain ⟨v0, vs0, d0, ds0, p0, q0, hargs, rfl, rfl, h0, r0⟩ := trodAll_cons hA
  obtain ⟨v1, vs1, d1, ds1, p1, q1, rfl, rfl, rfl, h1, r1⟩ := trodAll_cons r0
  obtain ⟨v2, vs2, d2, ds2, p2, q2, rfl, rfl, rfl, h2, r2⟩ := trodAll_cons r1
  obtain ⟨v3, vs3, d3, ds3, p3, q3, rfl, rfl, rfl, h3, r3⟩ := trodAll_cons r2
  obtain ⟨v4, vs4, d4, ds4, p4, q4, rfl, rfl, rfl, h4, r4⟩ := trodAll_cons r3
  obtain ⟨v5, vs5, d5, ds5, p5, q5, rfl, rfl, rfl, h5, r5⟩ := trodAll_cons r4
  obtain ⟨v6, vs6, d6, ds6, p6, q6, rfl, rfl, rfl, h6, r6⟩ := trodAll_cons r5
  obtain ⟨rfl, rfl, rfl⟩ := trodAll_nil r6
  obtain rfl : args = #[v0, v1, v2, v3, v4, v5, v6] := by cases args; simp_all
  obtain ⟨rfl, rfl⟩ := trodVars_none hV
  have lt0 : ∀ x ∈ p0, x.block < W.heap.size := by obtain ⟨m, hm⟩ := h0; exact DataW.trod_lt m _ _ _ hm
  have lt1 : ∀ x ∈ p1, x.block < W.heap.size := by obtain ⟨m, hm⟩ := h1; exact DataW.trod_lt m _ _ _ hm
  have lt2 : ∀ x ∈ p2, x.block < W.heap.size := by obtain ⟨m, hm⟩ := h2; exact DataW.trod_lt m _ _ _ hm
  have lt3 : ∀ x ∈ p3, x.block < W.heap.size := by obtain ⟨m, hm⟩ := h3; exact DataW.trod_lt m _ _ _ hm
  have lt4 : ∀ x ∈ p4, x.block < W.heap.size := by obtain ⟨m, hm⟩ := h4; exact DataW.trod_lt m _ _ _ hm
  have lt5 : ∀ x ∈ p5, x.block < W.heap.size := by obtain ⟨m, hm⟩ := h5; exact DataW.trod_lt m _ _ _ hm
  have lt6 : ∀ x ∈ p6, x.block < W.heap.size := by obtain ⟨m, hm⟩ := h6; exact DataW.trod_lt m _ _ _ hm
  obtain ⟨x0, hx0⟩ := opens_val (opens_bytes Tryd.underlying23 Tryd.underlying5 cO5 cO23) h0
  obtain ⟨x1, hx1⟩ := opens_val (opens_int Tryd.underlying51) h1
  obtain ⟨x2, hx2⟩ := opens_val (opens_int Tryd.underlying51) h2
  obtain ⟨x3, hx3⟩ := opens_val (opens_bytes Tryd.underlying23 Tryd.underlying5 cO5 cO23) h3
  obtain ⟨x4, hx4⟩ := opens_val (opens_bytes Tryd.underlying23 Tryd.underlying5 cO5 cO23) h4
  obtain ⟨x5, hx5⟩ := opens_val (opens_bytes Tryd.underlying23 Tryd.underlying5 cO5 cO23) h5
  obtain ⟨x6, hx6⟩ := opens_val (opens_bytes Tryd.underlying23 Tryd.underlying5 cO5 cO23) h6
  have a0 := agg_of (c := (dC 32)) (hval 0 23 v0 rfl rfl) (by rw [Tryd.underlying23]; trivial) hx0
  have w0 := wf_bytes _ _ _ hx0
  have a1 := val_int (hval 1 51 v1 rfl rfl) Tryd.underlying51 hx1
  have w1 := wf_int _ _ _ hx1
  have a2 := val_int (hval 2 51 v2 rfl rfl) Tryd.underlying51 hx2
  have w2 := wf_int _ _ _ hx2
  have a3 := agg_of (c := (dC 32)) (hval 3 23 v3 rfl rfl) (by rw [Tryd.underlying23]; trivial) hx3
  have w3 := wf_bytes _ _ _ hx3
  have a4 := agg_of (c := (dC 32)) (hval 4 23 v4 rfl rfl) (by rw [Tryd.underlying23]; trivial) hx4
  have w4 := wf_bytes _ _ _ hx4
  have a5 := agg_of (c := (dC 32)) (hval 5 23 v5 rfl rfl) (by rw [Tryd.underlying23]; trivial) hx5
  have w5 := wf_bytes _ _ _ hx5
  have a6 := agg_of (c := (dC 32)) (hval 6 23 v6 rfl rfl) (by rw [Tryd.underlying23]; trivial) hx6
  have w6 := wf_bytes _ _ _ hx6
  clear hA0 hval0
  refine (law_calls (law10_UpdateBinds_ok (plain x0 x1 x2 x3 x4 x5 x6 w0 w1 w2 w3 w4 w5 w6)) (KG_of hL) (args := [v0, v1, v2, v3, v4, v5, v6]) ⟨a0, a1, a2, a3, a4, a5, a6, trivial⟩).mono fun e W' ⟨he, bel⟩ => ?_
  subst he
  exact ⟨_, rfl, _, _, _, [], _, [], hW', trodAll_mk1 (shut_bool Tryd.underlying4 _), (trodAll_cons_mk (Below.trod laidOut (by kernel_rfl) (of_decide_eq_true (by kernel_rfl)) h0 bel lt0) (trodAll_cons_mk (Below.trod laidOut (by kernel_rfl) (of_decide_eq_true (by kernel_rfl)) h1 bel lt1) (trodAll_cons_mk (Below.trod laidOut (by kernel_rfl) (of_decide_eq_true (by kernel_rfl)) h2 bel lt2) (trodAll_cons_mk (Below.trod laidOut (by kernel_rfl) (of_decide_eq_true (by kernel_rfl)) h3 bel lt3) (trodAll_cons_mk (Below.trod laidOut (by kernel_rfl) (of_decide_eq_true (by kernel_rfl)) h4 bel lt4) (trodAll_cons_mk (Below.trod laidOut (by kernel_rfl) (of_decide_eq_true (by kernel_rfl)) h5 bel lt5) (trodAll_cons_mk (Below.trod laidOut (by kernel_rfl) (of_decide_eq_true (by kernel_rfl)) h6 bel lt6) trodAll_mk0))))))), rfl, bel.frame _, fun h => by cases h⟩
theorem updateBinds_said (plain : plain_updateBinds) : Rows.UpdateBindsSaid :=
  OpenClaim.holds_of_wide 6 Tryd.f6 rfl rfl rfl rfl rfl rfl rfl ⟨rfl, rfl, rfl, rfl, rfl⟩ rfl rfl rfl rfl rfl (by kernel_rfl) Tryd.func6 (by kernel_rfl)
    (of_decide_eq_true (by kernel_rfl)) (by unfold Func.isWrapper; first | (rw [if_pos (by decide +kernel)]; kernel_rfl) | (rw [if_neg (by decide +kernel)]; exact ⟨rfl, rfl⟩))
    (fun os started H enc _ => updateBinds_lifted plain os started H enc)
theorem updateBinds_card : Rows.UpdateBindsCardSaid :=
  Claim7.holds_tied_plain_at .later [] [.data, .data] true (true, "f763fb9be028428bf5ee24bfc03caf77e304a6b0a15c70790ef7acd00324caf3") false
    (updateBinds_said (fun x0 x1 x2 x3 x4 x5 x6 w0 w1 w2 w3 w4 w5 w6 => updateBinds_true x0 x1 x2 x3 x4 x5 x6 w0 w1 w2 w3 w4 w5 w6)) (fun _ h => by cases h) (by kernel_rfl) (fun _ h => by cases h) updateBinds_row_tie rfl ⟨rfl, rfl⟩ (by kernel_rfl) rfl
    (fun f fn hf hfn => by
      obtain rfl : f = 6 := Option.some.inj ((show Tryd.prog.funcNamed "pontoon/pontoonlaw10.UpdateBinds" = some 6 by kernel_rfl).symm.trans hf) |>.symm
      obtain rfl : fn = Tryd.f6 := (Option.some.inj (Tryd.func6.symm.trans hfn)).symm
      exact ⟨by kernel_rfl, fun j t ht => by
        rw [Tryd.params6] at ht
        have h3 : t ∈ ([23, 51, 51, 23, 23, 23, 23] : List TypeId) := by
          have := List.mem_of_getElem? (by simpa using ht)
          simpa using this
        simp only [List.mem_cons, List.not_mem_nil, or_false] at h3
        rcases h3 with rfl | rfl | rfl | rfl | rfl | rfl | rfl
        · exact (show Tryd.prog.wantsStandIn 23 = false by kernel_rfl)
        · exact (show Tryd.prog.wantsStandIn 51 = false by kernel_rfl)
        · exact (show Tryd.prog.wantsStandIn 51 = false by kernel_rfl)
        · exact (show Tryd.prog.wantsStandIn 23 = false by kernel_rfl)
        · exact (show Tryd.prog.wantsStandIn 23 = false by kernel_rfl)
        · exact (show Tryd.prog.wantsStandIn 23 = false by kernel_rfl)
        · exact (show Tryd.prog.wantsStandIn 23 = false by kernel_rfl)⟩)
    (by kernel_rfl)
#print axioms updateBinds_card
end Go.Proofs.YtamnmljgcmbliaaDoor
