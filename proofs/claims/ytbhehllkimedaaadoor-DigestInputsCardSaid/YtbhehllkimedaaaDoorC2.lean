import Derived.Test.YtbhehllkimedaaaDoorC1
namespace Go.Proofs.YtbhehllkimedaaaDoor
open Go Go.RowKit Go.Proofs Go.ChangeShapes Go.WideShapes Go.ChangeAt Go.WideMaps Go.WideElems
set_option maxRecDepth 100000
theorem agg_of {α : Type} {Φ : Pub} {v : Value} {c : α → List Ck} {x : α} {P : Program} {W : World} {base : Nat} {t : TypeId} (hv : Value.okWide P W .any base t v) (ht : (match P.underlying t with | some (.struct _) | some (.array _ _) => True | _ => False)) (h : Lrel Φ v.cells.toList (c x)) : (aggVP (c x)).p Φ v := by
  unfold Value.okWide at hv
  split at hv
  · obtain ⟨cs, rfl, _⟩ := hv
    exact ⟨cs.toList, by simp, by simpa [Value.cells] using h⟩
  · obtain ⟨cs, rfl, _⟩ := hv
    exact ⟨cs.toList, by simp, by simpa [Value.cells] using h⟩
  · rename_i h1 h2
    split at ht
    · rename_i q; exact absurd q (h1 _)
    · rename_i q; exact absurd q (h2 _ _)
    · exact ht.elim
theorem S_law04_Ask.wf {x : S_law04_Ask} {Φ : Pub} {cs : List Value} (h : Lrel Φ cs (S_law04_Ask.ck x)) : InR .u8 x.f_Domain ∧ x.f_Parts.length ≤ mxl := by
  obtain ⟨_, _, _, ⟨_, _, _, h1⟩, _, _, _, ⟨_, _, _, h2⟩, _⟩ := h
  exact ⟨h1.2, h2.1⟩
theorem digestInputs_lifted (plain : ∀ x y : S_law04_Ask, InR .u8 x.f_Domain → InR .u8 y.f_Domain → x.f_Parts.length ≤ mxl → y.f_Parts.length ≤ mxl → law04_DigestInputs x y = some true) (os : Os) (started : os.Started) (H : Type) (enc : TypeId × Value → H) :
    ReturnsInHanded {} Tryd.checked os 3 .any (fun w args => (Rows.digestInputsSpec.pre enc Tryd.prog Tryd.f3 [] false w args ∧ laidMetH Tryd.prog laidL w) ∧ sizedMet enc Tryd.prog Tryd.f3 (OpenSpec.ofChange Rows.digestInputsSpec) false w args)
      (Rows.digestInputsSpec.post enc Tryd.prog Tryd.f3 false true false false) := by
  refine returnsInHanded_of_change_and (C := Tryd.checked) (X := fun w _ => laidMetH Tryd.prog laidL w) (fun _ _ _ hh h => h.of_heap hh) own started (by kernel_rfl) Tryd.func3
    (ChangeSpec.witness_shaped (enc := enc) (C := Tryd.checked) (os := os) (X := fun w _ => laidMetH Tryd.prog laidL w) false (World.doorLaid Tryd.prog 400 os) #[.agg (#[.int .u8 0, .slice none 0 0, .bool false] ++ Array.replicate 64 (.int .u8 0)), .agg (#[.int .u8 0, .slice none 0 0, .bool false] ++ Array.replicate 64 (.int .u8 0))] 8 rfl (World.shaped_of_RefB (by kernel_rfl) (by kernel_rfl)) (by kernel_rfl) (by kernel_rfl) (by kernel_rfl) (door_met os _)) ?_
  intro W base args ds gs before hval0 hW _ _ hL _
  have hval : ∀ (j : Nat) t v, Tryd.f3.params[j]? = some t → args[j]? = some v → Value.okWide Tryd.prog W .any base t v := hval0
  have hW' := hW
  obtain ⟨p, q, hA0, hV, rfl, hfz, hnd⟩ := hW
  have hA : DataW.TrodAll enc Tryd.prog W 0 (fun _ => true) true Tryd.f3.params.toList args.toList ds p := hA0
  rw [Tryd.params3] at hA hval
  obtain ⟨v0, vs0, d0, ds0, p0, q0, hargs, rfl, rfl, h0, r0⟩ := trodAll_cons hA
  obtain ⟨v1, vs1, d1, ds1, p1, q1, rfl, rfl, rfl, h1, r1⟩ := trodAll_cons r0
  obtain ⟨rfl, rfl, rfl⟩ := trodAll_nil r1
  obtain rfl : args = #[v0, v1] := by cases args; simp_all
  obtain ⟨rfl, rfl⟩ := trodVars_none hV
  have lt0 : ∀ x ∈ p0, x.block < W.heap.size := by obtain ⟨m, hm⟩ := h0; exact DataW.trod_lt m _ _ _ hm
  have lt1 : ∀ x ∈ p1, x.block < W.heap.size := by obtain ⟨m, hm⟩ := h1; exact DataW.trod_lt m _ _ _ hm
  obtain ⟨x0, hx0⟩ := opens_val S_law04_Ask.opens h0
  obtain ⟨x1, hx1⟩ := opens_val S_law04_Ask.opens h1
  have hu : (match Tryd.prog.underlying 26 with | some (.struct _) | some (.array _ _) => True | _ => False) := by rw [Tryd.underlying26]; trivial
  have a0 := agg_of (hval 0 26 v0 rfl rfl) hu hx0
  have a1 := agg_of (hval 1 26 v1 rfl rfl) hu hx1
  have wf0 := S_law04_Ask.wf hx0
  have wf1 := S_law04_Ask.wf hx1
  clear hA0 hval0
  refine (law_calls (law04_DigestInputs_ok (plain x0 x1 wf0.1 wf1.1 wf0.2 wf1.2)) (KG_of hL) (args := [v0, v1]) ⟨a0, a1, trivial⟩).mono fun e W' ⟨he, bel⟩ => ?_
  subst he
  exact ⟨_, rfl, _, _, _, [], _, [], hW', trodAll_mk1 (shut_bool Tryd.underlying4 _), (trodAll_cons_mk (Below.trod laidOut (by kernel_rfl) (of_decide_eq_true (by kernel_rfl)) h0 bel lt0) (trodAll_cons_mk (Below.trod laidOut (by kernel_rfl) (of_decide_eq_true (by kernel_rfl)) h1 bel lt1) trodAll_mk0)), rfl, bel.frame _, fun h => by cases h⟩
theorem digestInputs_said (plain : ∀ x y : S_law04_Ask, InR .u8 x.f_Domain → InR .u8 y.f_Domain → x.f_Parts.length ≤ mxl → y.f_Parts.length ≤ mxl → law04_DigestInputs x y = some true) : Rows.DigestInputsSaid :=
  OpenClaim.holds_of_wide 3 Tryd.f3 rfl rfl rfl rfl rfl rfl rfl ⟨rfl, rfl, rfl, rfl, rfl⟩ rfl rfl rfl rfl rfl (by kernel_rfl) Tryd.func3 (by kernel_rfl)
    (of_decide_eq_true (by kernel_rfl)) (by unfold Func.isWrapper; first | (rw [if_pos (by decide +kernel)]; kernel_rfl) | (rw [if_neg (by decide +kernel)]; exact ⟨rfl, rfl⟩))
    (fun os started H enc _ => digestInputs_lifted plain os started H enc)
end Go.Proofs.YtbhehllkimedaaaDoor
