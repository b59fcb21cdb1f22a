/- pontoon/pontoonlaw04.DigestJoins: whatever the input (the listed variables as the program's text lays them), the call returns true and each argument reads afterwards as it read before: the tied card. -/
import Derived.Test.YtbhehllkimedaaaDoorC1
import Derived.Test.YtbhehllkimedaaaDoorA22
import Derived.Test.YtbhehllkimedaaaDoorP16
import Derived.SevenTiedAt
namespace Go.Proofs.YtbhehllkimedaaaDoor
open Go Go.RowKit Go.Proofs Go.ChangeShapes Go.WideShapes Go.ChangeAt Go.WideMaps Go.WideElems
set_option maxRecDepth 100000
theorem cO5 : Tryd.prog.cellsOf 5 = 1 := by kernel_rfl
theorem cO9 : Tryd.prog.cellsOf 9 = 1 := by kernel_rfl
theorem cO22 : Tryd.prog.cellsOf 22 = 1 := by kernel_rfl
theorem cO4 : Tryd.prog.cellsOf 4 = 1 := by kernel_rfl
theorem cO24 : Tryd.prog.cellsOf 24 = 32 := by kernel_rfl
theorem cO26 : Tryd.prog.cellsOf 26 = 67 := by kernel_rfl
theorem S_law04_Ask.opens : Opens Tryd.prog 26 S_law04_Ask.ck := by
  intro H enc w base sp held fuel cs r h
  obtain ⟨hl, hf⟩ := opens_fields Tryd.underlying26 h
  obtain ⟨x0, h0⟩ : ∃ x, Lrel (allPub w) ((cs.drop 0).take (Tryd.prog.cellsOf 5)) ((iC .u8) x) := hf 0 _ rfl (opens_int Tryd.underlying5)
  obtain ⟨x1, h1⟩ : ∃ x, Lrel (allPub w) ((cs.drop 1).take (Tryd.prog.cellsOf 22)) ((slC strC) x) := hf 1 _ rfl (opens_slice Tryd.underlying22 (opens_str Tryd.underlying9) cO9 lens_strC (by decide))
  obtain ⟨x2, h2⟩ : ∃ x, Lrel (allPub w) ((cs.drop 2).take (Tryd.prog.cellsOf 4)) (boC x) := hf 2 _ rfl (opens_bool Tryd.underlying4)
  obtain ⟨x3, h3⟩ : ∃ x, Lrel (allPub w) ((cs.drop 3).take (Tryd.prog.cellsOf 24)) ((dC 32) x) := hf 3 _ rfl (opens_bytes Tryd.underlying24 Tryd.underlying5 cO5 cO24)
  obtain ⟨x4, h4⟩ : ∃ x, Lrel (allPub w) ((cs.drop 35).take (Tryd.prog.cellsOf 24)) ((dC 32) x) := hf 4 _ rfl (opens_bytes Tryd.underlying24 Tryd.underlying5 cO5 cO24)
  rw [cO5] at h0
  rw [cO22] at h1
  rw [cO4] at h2
  rw [cO24] at h3
  rw [cO24] at h4
  exact ⟨⟨x0, x1, x2, x3, x4⟩, cut1 0 _ h0 (cut1 _ _ h1 (cut1 _ _ h2 (cut1 _ _ h3 (cut1 _ _ h4 (cut0 (hl.trans cO26))))))⟩
def S_law04_Ask.W (x : S_law04_Ask) : Prop := (InR .u8 x.f_Domain) ∧ (x.f_Parts.length ≤ mxl ∧ ∀ y ∈ x.f_Parts, y.length ≤ mxl) ∧ (x.f_A.length = 32) ∧ (x.f_B.length = 32)
theorem S_law04_Ask.wf {Φ : Pub} {cs : List Value} {x : S_law04_Ask} (h : Lrel Φ cs (S_law04_Ask.ck x)) : S_law04_Ask.W x := by
  obtain ⟨⟨_, g0⟩, _, k0⟩ := wf_cut h
  obtain ⟨⟨_, g1⟩, _, k1⟩ := wf_cut k0
  obtain ⟨⟨_, g2⟩, _, k2⟩ := wf_cut k1
  obtain ⟨⟨_, g3⟩, _, k3⟩ := wf_cut k2
  obtain ⟨⟨_, g4⟩, _, k4⟩ := wf_cut k3
  exact ⟨wf_int _ _ _ g0, (wf_slice wf_str) _ _ _ g1, wf_bytes _ _ _ g3, wf_bytes _ _ _ g4⟩
def plain_digestJoins : Prop := ∀ (x0 : List (S_law04_Ask)) (x1 : List (S_law04_Ask)), (x0.length ≤ mxl ∧ ∀ y ∈ x0, S_law04_Ask.W y) → (x1.length ≤ mxl ∧ ∀ y ∈ x1, S_law04_Ask.W y) → law04_DigestJoins x0 x1 = some true
theorem digestJoins_lifted (plain : plain_digestJoins) (os : Os) (started : os.Started) (H : Type) (enc : TypeId × Value → H) :
    ReturnsInHanded {} Tryd.checked os 5 .any (fun w args => (Rows.digestJoinsSpec.pre enc Tryd.prog Tryd.f5 [] false w args ∧ laidMetH Tryd.prog laidL w) ∧ sizedMet enc Tryd.prog Tryd.f5 (OpenSpec.ofChange Rows.digestJoinsSpec) false w args)
      (Rows.digestJoinsSpec.post enc Tryd.prog Tryd.f5 false true false false) := by
  refine returnsInHanded_of_change_and (C := Tryd.checked) (X := fun w _ => laidMetH Tryd.prog laidL w) (fun _ _ _ hh h => h.of_heap hh) ownKn started (by kernel_rfl) Tryd.func5
    (ChangeSpec.witness_shaped (enc := enc) (C := Tryd.checked) (os := os) (X := fun w _ => laidMetH Tryd.prog laidL w) false (World.doorLaid Tryd.prog 400 os) #[.slice none 0 0, .slice none 0 0] 8 rfl (World.shaped_of_RefB (by kernel_rfl) (by kernel_rfl)) (by kernel_rfl) (by kernel_rfl) (by kernel_rfl) (door_met os _)) ?_
  intro W base args ds gs before hval0 hW _ _ hL _
  have hval : ∀ (j : Nat) t v, Tryd.f5.params[j]? = some t → args[j]? = some v → Value.okWide Tryd.prog W .any base t v := hval0
  have hW' := hW
  obtain ⟨p, q, hA0, hV, rfl, hfz, hnd⟩ := hW
  have hA : DataW.TrodAll enc Tryd.prog W 0 (fun _ => true) true Tryd.f5.params.toList args.toList ds p := hA0
  rw [Tryd.params5] at hA hval
  obtain ⟨v0, vs0, d0, ds0, p0, q0, hargs, rfl, rfl, h0, r0⟩ := trodAll_cons hA
  obtain ⟨v1, vs1, d1, ds1, p1, q1, rfl, rfl, rfl, h1, r1⟩ := trodAll_cons r0
  obtain ⟨rfl, rfl, rfl⟩ := trodAll_nil r1
  obtain rfl : args = #[v0, v1] := by cases args; simp_all
  obtain ⟨rfl, rfl⟩ := trodVars_none hV
  have lt0 : ∀ x ∈ p0, x.block < W.heap.size := by obtain ⟨m, hm⟩ := h0; exact DataW.trod_lt m _ _ _ hm
  have lt1 : ∀ x ∈ p1, x.block < W.heap.size := by obtain ⟨m, hm⟩ := h1; exact DataW.trod_lt m _ _ _ hm
  obtain ⟨x0, hx0⟩ := opens_val (opens_slice Tryd.underlying29 S_law04_Ask.opens cO26 S_law04_Ask.lens (by decide)) h0
  obtain ⟨x1, hx1⟩ := opens_val (opens_slice Tryd.underlying29 S_law04_Ask.opens cO26 S_law04_Ask.lens (by decide)) h1
  have a0 := val_slice (hval 0 29 v0 rfl rfl) Tryd.underlying29 hx0
  have w0 := (wf_slice (fun _ _ _ h => S_law04_Ask.wf h)) _ _ _ hx0
  have a1 := val_slice (hval 1 29 v1 rfl rfl) Tryd.underlying29 hx1
  have w1 := (wf_slice (fun _ _ _ h => S_law04_Ask.wf h)) _ _ _ hx1
  clear hA0 hval0
  refine (law_calls (law04_DigestJoins_ok (plain x0 x1 w0 w1)) (KG_of hL) (args := [v0, v1]) ⟨a0, a1, trivial⟩).mono fun e W' ⟨he, bel⟩ => ?_
  subst he
  exact ⟨_, rfl, _, _, _, [], _, [], hW', trodAll_mk1 (shut_bool Tryd.underlying4 _), (trodAll_cons_mk (Below.trod laidOut (by kernel_rfl) (of_decide_eq_true (by kernel_rfl)) h0 bel lt0) (trodAll_cons_mk (Below.trod laidOut (by kernel_rfl) (of_decide_eq_true (by kernel_rfl)) h1 bel lt1) trodAll_mk0)), rfl, bel.frame _, fun h => by cases h⟩
theorem digestJoins_said (plain : plain_digestJoins) : Rows.DigestJoinsSaid :=
  OpenClaim.holds_of_wide 5 Tryd.f5 rfl rfl rfl rfl rfl rfl rfl ⟨rfl, rfl, rfl, rfl, rfl⟩ rfl rfl rfl rfl rfl (by kernel_rfl) Tryd.func5 (by kernel_rfl)
    (of_decide_eq_true (by kernel_rfl)) (by unfold Func.isWrapper; first | (rw [if_pos (by decide +kernel)]; kernel_rfl) | (rw [if_neg (by decide +kernel)]; exact ⟨rfl, rfl⟩))
    (fun os started H enc _ => digestJoins_lifted plain os started H enc)
theorem digestJoins_card : Rows.DigestJoinsCardSaid :=
  Claim7.holds_tied_plain_at .later [] [.data, .data] true (true, "f1211bb5ececc2c4c773864c63d207778bdb5fa3a7036cdf266f61a4f5e876fb") false
    (digestJoins_said (fun x0 x1 w0 w1 => digestJoins_true x0 x1 w0.1 (fun x hx => (w0.2 x hx).2.1.1) w1.1 (fun x hx => (w1.2 x hx).2.1.1))) (fun _ h => by cases h) (by kernel_rfl) (fun _ h => by cases h) digestJoins_row_tie rfl ⟨rfl, rfl⟩ (by kernel_rfl) rfl
    (fun f fn hf hfn => by
      obtain rfl : f = 5 := Option.some.inj ((show Tryd.prog.funcNamed "pontoon/pontoonlaw04.DigestJoins" = some 5 by kernel_rfl).symm.trans hf) |>.symm
      obtain rfl : fn = Tryd.f5 := (Option.some.inj (Tryd.func5.symm.trans hfn)).symm
      exact ⟨by kernel_rfl, fun j t ht => by
        rw [Tryd.params5] at ht
        have h3 : t ∈ ([29, 29] : List TypeId) := by
          have := List.mem_of_getElem? (by simpa using ht)
          simpa using this
        simp only [List.mem_cons, List.not_mem_nil, or_false] at h3
        rcases h3 with rfl | rfl
        · exact (show Tryd.prog.wantsStandIn 29 = false by kernel_rfl)
        · exact (show Tryd.prog.wantsStandIn 29 = false by kernel_rfl)⟩)
    (by kernel_rfl)
#print axioms digestJoins_card
end Go.Proofs.YtbhehllkimedaaaDoor
