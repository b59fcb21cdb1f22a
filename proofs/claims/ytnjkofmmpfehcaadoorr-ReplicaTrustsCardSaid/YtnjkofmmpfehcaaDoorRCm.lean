/- pontoon/pontoonlaw17.ReplicaTrusts: whatever the input (the listed variables as the program's text lays them), the call returns true and each argument reads afterwards as it read before: the tied card. -/
import Derived.Test.YtnjkofmmpfehcaaDoorRC1
import Derived.Test.YtnjkofmmpfehcaaDoorRA22
import Derived.Test.YtnjkofmmpfehcaaDoorRP55
import Derived.SevenTiedAt
namespace Go.Proofs.YtnjkofmmpfehcaaDoorR
open Go Go.RowKit Go.Proofs Go.ChangeShapes Go.WideShapes Go.ChangeAt Go.WideMaps Go.WideElems
set_option maxRecDepth 100000
theorem cO5 : Tryd.prog.cellsOf 5 = 1 := by kernel_rfl
theorem cO25 : Tryd.prog.cellsOf 25 = 32 := by kernel_rfl
def plain_replicaTrusts : Prop := ∀ (x0 : List (List UInt8)) (x1 : List UInt8) (x2 : Int) (x3 : List (List UInt8)), (x0.length ≤ mxl ∧ ∀ y ∈ x0, y.length = 32) → (x1.length = 32) → (InR .u32 x2) → (x3.length ≤ mxl ∧ ∀ y ∈ x3, y.length = 32) → law17_ReplicaTrusts x0 x1 x2 x3 = some true
theorem replicaTrusts_lifted (plain : plain_replicaTrusts) (os : Os) (started : os.Started) (H : Type) (enc : TypeId × Value → H) :
    ReturnsInHanded {} Tryd.checked os 5 .any (fun w args => (Rows.replicaTrustsSpec.pre enc Tryd.prog Tryd.f5 [] false w args ∧ laidMetH Tryd.prog laidL w) ∧ sizedMet enc Tryd.prog Tryd.f5 (OpenSpec.ofChange Rows.replicaTrustsSpec) false w args)
      (Rows.replicaTrustsSpec.post enc Tryd.prog Tryd.f5 false true false false) := by
  refine returnsInHanded_of_change_and (C := Tryd.checked) (X := fun w _ => laidMetH Tryd.prog laidL w) (fun _ _ _ hh h => h.of_heap hh) ownKn started (by kernel_rfl) Tryd.func5
    (ChangeSpec.witness_shaped (enc := enc) (C := Tryd.checked) (os := os) (X := fun w _ => laidMetH Tryd.prog laidL w) false (World.doorLaid Tryd.prog 400 os) #[.slice none 0 0, .agg #[.int .u8 0, .int .u8 0, .int .u8 0, .int .u8 0, .int .u8 0, .int .u8 0, .int .u8 0, .int .u8 0, .int .u8 0, .int .u8 0, .int .u8 0, .int .u8 0, .int .u8 0, .int .u8 0, .int .u8 0, .int .u8 0, .int .u8 0, .int .u8 0, .int .u8 0, .int .u8 0, .int .u8 0, .int .u8 0, .int .u8 0, .int .u8 0, .int .u8 0, .int .u8 0, .int .u8 0, .int .u8 0, .int .u8 0, .int .u8 0, .int .u8 0, .int .u8 0], .int .u32 0, .slice none 0 0] 8 rfl (World.shaped_of_RefB (by kernel_rfl) (by kernel_rfl)) (by kernel_rfl) (by kernel_rfl) (by kernel_rfl) (door_met os _)) ?_
  intro W base args ds gs before hval0 hW _ _ hL _
  have hval : ∀ (j : Nat) t v, Tryd.f5.params[j]? = some t → args[j]? = some v → Value.okWide Tryd.prog W .any base t v := hval0
  have hW' := hW
  obtain ⟨p, q, hA0, hV, rfl, hfz, hnd⟩ := hW
  have hA : DataW.TrodAll enc Tryd.prog W 0 (fun _ => true) true Tryd.f5.params.toList args.toList ds p := hA0
  rw [Tryd.params5] at hA hval
  obtain ⟨v0, vs0, d0, ds0, p0, q0, hargs, rfl, rfl, h0, r0⟩ := trodAll_cons hA
  obtain ⟨v1, vs1, d1, ds1, p1, q1, rfl, rfl, rfl, h1, r1⟩ := trodAll_cons r0
  obtain ⟨v2, vs2, d2, ds2, p2, q2, rfl, rfl, rfl, h2, r2⟩ := trodAll_cons r1
  obtain ⟨v3, vs3, d3, ds3, p3, q3, rfl, rfl, rfl, h3, r3⟩ := trodAll_cons r2
  obtain ⟨rfl, rfl, rfl⟩ := trodAll_nil r3
  obtain rfl : args = #[v0, v1, v2, v3] := by cases args; simp_all
  obtain ⟨rfl, rfl⟩ := trodVars_none hV
  have lt0 : ∀ x ∈ p0, x.block < W.heap.size := by obtain ⟨m, hm⟩ := h0; exact DataW.trod_lt m _ _ _ hm
  have lt1 : ∀ x ∈ p1, x.block < W.heap.size := by obtain ⟨m, hm⟩ := h1; exact DataW.trod_lt m _ _ _ hm
  have lt2 : ∀ x ∈ p2, x.block < W.heap.size := by obtain ⟨m, hm⟩ := h2; exact DataW.trod_lt m _ _ _ hm
  have lt3 : ∀ x ∈ p3, x.block < W.heap.size := by obtain ⟨m, hm⟩ := h3; exact DataW.trod_lt m _ _ _ hm
  obtain ⟨x0, hx0⟩ := opens_val (opens_slice Tryd.underlying26 (opens_bytes Tryd.underlying25 Tryd.underlying5 cO5 cO25) cO25 (lens_dC 32) (by decide)) h0
  obtain ⟨x1, hx1⟩ := opens_val (opens_bytes Tryd.underlying25 Tryd.underlying5 cO5 cO25) h1
  obtain ⟨x2, hx2⟩ := opens_val (opens_int Tryd.underlying22) h2
  obtain ⟨x3, hx3⟩ := opens_val (opens_slice Tryd.underlying26 (opens_bytes Tryd.underlying25 Tryd.underlying5 cO5 cO25) cO25 (lens_dC 32) (by decide)) h3
  have a0 := val_slice (hval 0 26 v0 rfl rfl) Tryd.underlying26 hx0
  have w0 := (wf_slice wf_bytes) _ _ _ hx0
  have a1 := agg_of (c := (dC 32)) (hval 1 25 v1 rfl rfl) (by rw [Tryd.underlying25]; trivial) hx1
  have w1 := wf_bytes _ _ _ hx1
  have a2 := val_int (hval 2 22 v2 rfl rfl) Tryd.underlying22 hx2
  have w2 := wf_int _ _ _ hx2
  have a3 := val_slice (hval 3 26 v3 rfl rfl) Tryd.underlying26 hx3
  have w3 := (wf_slice wf_bytes) _ _ _ hx3
  clear hA0 hval0
  refine (law_calls (law17_ReplicaTrusts_ok (plain x0 x1 x2 x3 w0 w1 w2 w3)) (KG_of hL) (args := [v0, v1, v2, v3]) ⟨a0, a1, a2, a3, trivial⟩).mono fun e W' ⟨he, bel⟩ => ?_
  subst he
  exact ⟨_, rfl, _, _, _, [], _, [], hW', trodAll_mk1 (shut_bool Tryd.underlying4 _), (trodAll_cons_mk (Below.trod laidOut (by kernel_rfl) (of_decide_eq_true (by kernel_rfl)) h0 bel lt0) (trodAll_cons_mk (Below.trod laidOut (by kernel_rfl) (of_decide_eq_true (by kernel_rfl)) h1 bel lt1) (trodAll_cons_mk (Below.trod laidOut (by kernel_rfl) (of_decide_eq_true (by kernel_rfl)) h2 bel lt2) (trodAll_cons_mk (Below.trod laidOut (by kernel_rfl) (of_decide_eq_true (by kernel_rfl)) h3 bel lt3) trodAll_mk0)))), rfl, bel.frame _, fun h => by cases h⟩
theorem replicaTrusts_said (plain : plain_replicaTrusts) : Rows.ReplicaTrustsSaid :=
  OpenClaim.holds_of_wide 5 Tryd.f5 rfl rfl rfl rfl rfl rfl rfl ⟨rfl, rfl, rfl, rfl, rfl⟩ rfl rfl rfl rfl rfl (by kernel_rfl) Tryd.func5 (by kernel_rfl)
    (of_decide_eq_true (by kernel_rfl)) (by unfold Func.isWrapper; first | (rw [if_pos (by decide +kernel)]; kernel_rfl) | (rw [if_neg (by decide +kernel)]; exact ⟨rfl, rfl⟩))
    (fun os started H enc _ => replicaTrusts_lifted plain os started H enc)
theorem replicaTrusts_card : Rows.ReplicaTrustsCardSaid :=
  Claim7.holds_tied_plain_at .later [] [.data, .data] true (true, "82f4732323db7de00951200c481241c67e5f49e3db69962823e48665eab4b41d") false
    (replicaTrusts_said (fun x0 x1 x2 x3 w0 w1 w2 w3 => replicaTrusts_true x0 x1 x2 x3 w0.2 w1 w2 w3.2)) (fun _ h => by cases h) (by kernel_rfl) (fun _ h => by cases h) replicaTrusts_row_tie rfl ⟨rfl, rfl⟩ (by kernel_rfl) rfl
    (fun f fn hf hfn => by
      obtain rfl : f = 5 := Option.some.inj ((show Tryd.prog.funcNamed "pontoon/pontoonlaw17.ReplicaTrusts" = some 5 by kernel_rfl).symm.trans hf) |>.symm
      obtain rfl : fn = Tryd.f5 := (Option.some.inj (Tryd.func5.symm.trans hfn)).symm
      exact ⟨by kernel_rfl, fun j t ht => by
        rw [Tryd.params5] at ht
        have h3 : t ∈ ([26, 25, 22, 26] : List TypeId) := by
          have := List.mem_of_getElem? (by simpa using ht)
          simpa using this
        simp only [List.mem_cons, List.not_mem_nil, or_false] at h3
        rcases h3 with rfl | rfl | rfl | rfl
        · exact (show Tryd.prog.wantsStandIn 26 = false by kernel_rfl)
        · exact (show Tryd.prog.wantsStandIn 25 = false by kernel_rfl)
        · exact (show Tryd.prog.wantsStandIn 22 = false by kernel_rfl)
        · exact (show Tryd.prog.wantsStandIn 26 = false by kernel_rfl)⟩)
    (by kernel_rfl)
#print axioms replicaTrusts_card
end Go.Proofs.YtnjkofmmpfehcaaDoorR
