/- pontoon/pontoonlaw25.ProcessorEnds: whatever the input (the listed variables as the program's text lays them), the call returns true and each argument reads afterwards as it read before: the tied card. -/
import Derived.Test.YteboiefnflipjaaGreatDoorC1
import Derived.Test.YteboiefnflipjaaGreatDoorM2
import Derived.Test.YteboiefnflipjaaGreatDoorP93
import Derived.SevenTiedAt
namespace Go.Proofs.YteboiefnflipjaaGreatDoor
open _root_.Go.Proofs.Tryz
open Go Go.RowKit Go.Proofs Go.ChangeShapes Go.WideShapes Go.ChangeAt Go.WideMaps Go.WideElems
set_option maxRecDepth 100000
theorem cO9 : prog.cellsOf 9 = 1 := by kernel_rfl
theorem cO3 : prog.cellsOf 3 = 1 := by kernel_rfl
def FE : Prop := ∀ (x0 : List (List UInt8)) (x1 : List (Int)) (x2 : Int), (x0.length ≤ CG ∧ ∀ y ∈ x0, y.length ≤ CG) → (x1.length ≤ CG ∧ ∀ y ∈ x1, H5 .i64 y) → (H5 .u64 x2) → At x0 x1 x2 = some true
theorem GW (plain : FE) (os : Os) (started : os.Started) (H : Type) (enc : TypeId × Value → H) :
    ReturnsInHanded {} checked os 3 .any (fun w args => (Rows.processorEndsSpec.pre enc prog f3 [] false w args ∧ laidMetH prog Lm w) ∧ sizedMet enc prog f3 (OpenSpec.ofChange Rows.processorEndsSpec) false w args)
      (Rows.processorEndsSpec.post enc prog f3 false true false false) := by
  refine returnsInHanded_of_change_and (C := checked) (X := fun w _ => laidMetH prog Lm w) (fun _ _ _ hh h => h.of_heap hh) QT started (by kernel_rfl) func3
    (ChangeSpec.witness_shaped (enc := enc) (C := checked) (os := os) (X := fun w _ => laidMetH prog Lm w) false (World.doorLaid prog 400 os) #[.slice none 0 0, .slice none 0 0, .int .u64 0] 8 rfl (World.shaped_of_RefB (by kernel_rfl) (by kernel_rfl)) (by kernel_rfl) (by kernel_rfl) (by kernel_rfl) (N5 os _)) ?_
  intro W base args ds gs before hval0 hW _ _ hL _
  have hval : ∀ (j : Nat) t v, f3.params[j]? = some t → args[j]? = some v → Value.okWide prog W .any base t v := hval0
  have hW' := hW
  obtain ⟨p, q, hA0, hV, rfl, hfz, hnd⟩ := hW
  have hA : DataW.TrodAll enc prog W 0 (fun _ => true) true f3.params.toList args.toList ds p := hA0
  rw [params3] at hA hval
  obtain ⟨v0, vs0, d0, ds0, p0, q0, hargs, rfl, rfl, h0, r0⟩ := trodAll_cons hA
  obtain ⟨v1, vs1, d1, ds1, p1, q1, rfl, rfl, rfl, h1, r1⟩ := trodAll_cons r0
  obtain ⟨v2, vs2, d2, ds2, p2, q2, rfl, rfl, rfl, h2, r2⟩ := trodAll_cons r1
  obtain ⟨rfl, rfl, rfl⟩ := trodAll_nil r2
  obtain rfl : args = #[v0, v1, v2] := by cases args; simp_all
  obtain ⟨rfl, rfl⟩ := trodVars_none hV
  have lt0 : ∀ x ∈ p0, x.block < W.heap.size := by obtain ⟨m, hm⟩ := h0; exact DataW.trod_lt m _ _ _ hm
  have lt1 : ∀ x ∈ p1, x.block < W.heap.size := by obtain ⟨m, hm⟩ := h1; exact DataW.trod_lt m _ _ _ hm
  have lt2 : ∀ x ∈ p2, x.block < W.heap.size := by obtain ⟨m, hm⟩ := h2; exact DataW.trod_lt m _ _ _ hm
  obtain ⟨x0, hx0⟩ := Ic (IC underlying22 (MT underlying9) cO9 C5 (by decide)) h0
  obtain ⟨x1, hx1⟩ := Ic (IC underlying23 (J1 underlying3) cO3 (KF .i64) (by decide)) h1
  obtain ⟨x2, hx2⟩ := Ic (J1 underlying24) h2
  have a0 := JX (hval 0 22 v0 rfl rfl) underlying22 hx0
  have w0 := (KZ PL) _ _ _ hx0
  have a1 := JX (hval 1 23 v1 rfl rfl) underlying23 hx1
  have w1 := (KZ Ns) _ _ _ hx1
  have a2 := OC (hval 2 24 v2 rfl rfl) underlying24 hx2
  have w2 := Ns _ _ _ hx2
  clear hA0 hval0
  refine (Nb (GD (plain x0 x1 x2 w0 w1 w2)) (Rb hL) (args := [v0, v1, v2]) ⟨a0, a1, a2, trivial⟩).mono fun e W' ⟨he, bel⟩ => ?_
  subst he
  exact ⟨_, rfl, _, _, _, [], _, [], hW', trodAll_mk1 (shut_bool underlying4 _), (trodAll_cons_mk (Below.trod laidOut (by kernel_rfl) (of_decide_eq_true (by kernel_rfl)) h0 bel lt0) (trodAll_cons_mk (Below.trod laidOut (by kernel_rfl) (of_decide_eq_true (by kernel_rfl)) h1 bel lt1) (trodAll_cons_mk (Below.trod laidOut (by kernel_rfl) (of_decide_eq_true (by kernel_rfl)) h2 bel lt2) trodAll_mk0))), rfl, bel.frame _, fun h => by cases h⟩
theorem Hy (plain : FE) : Rows.ProcessorEndsSaid :=
  OpenClaim.holds_of_wide 3 f3 rfl rfl rfl rfl rfl rfl rfl ⟨rfl, rfl, rfl, rfl, rfl⟩ rfl rfl rfl rfl rfl (by kernel_rfl) func3 (by kernel_rfl)
    (of_decide_eq_true (by kernel_rfl)) (by unfold Func.isWrapper; first | (rw [if_pos (by decide +kernel)]; kernel_rfl) | (rw [if_neg (by decide +kernel)]; exact ⟨rfl, rfl⟩))
    (fun os started H enc _ => GW plain os started H enc)
theorem processorEnds_card : Rows.ProcessorEndsCardSaid :=
  Claim7.holds_tied_plain_at .later [] [.data, .data] true (true, "17128a77a0eed86709654a07ca77b4f0f24b9e5e444d6dcf5a724f9cff8b35d6") true
    (Hy (fun x0 x1 x2 _ _ _ => Hx x0 x1 x2)) (fun _ h => by cases h) (by kernel_rfl) (fun _ h => by cases h) processorEnds_row_tie rfl ⟨rfl, rfl⟩ (by kernel_rfl) rfl
    (fun f fn hf hfn => by
      obtain rfl : f = 3 := Option.some.inj ((show prog.funcNamed "pontoon/pontoonlaw25.ProcessorEnds" = some 3 by kernel_rfl).symm.trans hf) |>.symm
      obtain rfl : fn = f3 := (Option.some.inj (func3.symm.trans hfn)).symm
      exact ⟨by kernel_rfl, fun j t ht => by
        rw [params3] at ht
        have h3 : t ∈ ([22, 23, 24] : List TypeId) := by
          have := List.mem_of_getElem? (by simpa using ht)
          simpa using this
        simp only [List.mem_cons, List.not_mem_nil, or_false] at h3
        rcases h3 with rfl | rfl | rfl
        · exact (show prog.wantsStandIn 22 = false by kernel_rfl)
        · exact (show prog.wantsStandIn 23 = false by kernel_rfl)
        · exact (show prog.wantsStandIn 24 = false by kernel_rfl)⟩)
    (by kernel_rfl)
#print axioms processorEnds_card
end Go.Proofs.YteboiefnflipjaaGreatDoor
