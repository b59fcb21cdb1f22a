/- pontoon/pontoonlaw17.ReplicaPlays: whatever the input (the listed variables as the program's text lays them), the call returns true and each argument reads afterwards as it read before: the tied card. -/
import Derived.Test.YteboiefnflipjaaGreatDoorC1
import Derived.Test.YteboiefnflipjaaGreatDoorM2
import Derived.Test.YteboiefnflipjaaGreatDoorP78
import Derived.SevenTiedAt
namespace Go.Proofs.YteboiefnflipjaaGreatDoor
open _root_.Go.Proofs.Tryz
open Go Go.RowKit Go.Proofs Go.ChangeShapes Go.WideShapes Go.ChangeAt Go.WideMaps Go.WideElems
set_option maxRecDepth 100000
theorem cO5 : prog.cellsOf 5 = 1 := by kernel_rfl
theorem Sy : prog.cellsOf 33 = 32 := by kernel_rfl
theorem SQ : prog.cellsOf 3 = 1 := by kernel_rfl
theorem R4 : prog.cellsOf 66 = 2 := by kernel_rfl
theorem AW.opens : Jt prog 66 AW.ck := by
  intro H enc w base sp held fuel cs r h
  obtain ⟨hl, hf⟩ := Ly underlying66 h
  obtain ⟨x0, h0⟩ : ∃ x, Cl (E0 w) ((cs.drop 0).take (prog.cellsOf 3)) ((iC .i64) x) := hf 0 _ rfl (I4 underlying3)
  obtain ⟨x1, h1⟩ : ∃ x, Cl (E0 w) ((cs.drop 1).take (prog.cellsOf 3)) ((iC .i64) x) := hf 1 _ rfl (I4 underlying3)
  rw [SQ] at h0
  rw [SQ] at h1
  exact ⟨⟨x0, x1⟩, R3 0 _ h0 (R3 _ _ h1 (Sx (hl.trans R4)))⟩
def AW.W (x : AW) : Prop := (E5 .i64 x.EM) ∧ (E5 .i64 x.FZ)
theorem AW.wf {Φ : Cg} {cs : List Value} {x : AW} (h : Cl Φ cs (AW.ck x)) : AW.W x := by
  obtain ⟨⟨_, g0⟩, _, k0⟩ := OC h
  obtain ⟨⟨_, g1⟩, _, k1⟩ := OC k0
  exact ⟨MR _ _ _ g0, MR _ _ _ g1⟩
theorem AW.wf' : ∀ (Φ : Cg) (cs : List Value) (x : AW), Cl Φ cs (AW.ck x) → AW.W x := fun _ _ _ h => AW.wf h
def Gp : Prop := ∀ (x0 : List UInt8) (x1 : Int) (x2 : List (AW)), (x0.length = 32) → (E5 .u16 x1) → (x2.length ≤ CW ∧ ∀ y ∈ x2, AW.W y) → Ap x0 x1 x2 = some true
theorem HP (plain : Gp) (os : Os) (started : os.Started) (H : Type) (enc : TypeId × Value → H) :
    ReturnsInHanded {} checked os 4 .any (fun w args => (Rows.replicaPlaysSpec.pre enc prog f4 [] false w args ∧ laidMetH prog Mv w) ∧ sizedMet enc prog f4 (OpenSpec.ofChange Rows.replicaPlaysSpec) false w args)
      (Rows.replicaPlaysSpec.post enc prog f4 false true false false) := by
  refine returnsInHanded_of_change_and (C := checked) (X := fun w _ => laidMetH prog Mv w) (fun _ _ _ hh h => h.of_heap hh) RT started (by kernel_rfl) func4
    (ChangeSpec.witness_shaped (enc := enc) (C := checked) (os := os) (X := fun w _ => laidMetH prog Mv w) false (World.doorLaid prog 400 os) #[.agg #[.int .u8 0, .int .u8 0, .int .u8 0, .int .u8 0, .int .u8 0, .int .u8 0, .int .u8 0, .int .u8 0, .int .u8 0, .int .u8 0, .int .u8 0, .int .u8 0, .int .u8 0, .int .u8 0, .int .u8 0, .int .u8 0, .int .u8 0, .int .u8 0, .int .u8 0, .int .u8 0, .int .u8 0, .int .u8 0, .int .u8 0, .int .u8 0, .int .u8 0, .int .u8 0, .int .u8 0, .int .u8 0, .int .u8 0, .int .u8 0, .int .u8 0, .int .u8 0], .int .u16 0, .slice none 0 0] 8 rfl (World.shaped_of_RefB (by kernel_rfl) (by kernel_rfl)) (by kernel_rfl) (by kernel_rfl) (by kernel_rfl) (Pn os _)) ?_
  intro W base args ds gs before hval0 hW _ _ hL _
  have hval : ∀ (j : Nat) t v, f4.params[j]? = some t → args[j]? = some v → Value.okWide prog W .any base t v := hval0
  have hW' := hW
  obtain ⟨p, q, hA0, hV, rfl, hfz, hnd⟩ := hW
  have hA : DataW.TrodAll enc prog W 0 (fun _ => true) true f4.params.toList args.toList ds p := hA0
  rw [params4] at hA hval
  obtain ⟨v0, vs0, d0, ds0, p0, q0, hargs, rfl, rfl, h0, r0⟩ := trodAll_cons hA
  obtain ⟨v1, vs1, d1, ds1, p1, q1, rfl, rfl, rfl, h1, r1⟩ := trodAll_cons r0
  obtain ⟨v2, vs2, d2, ds2, p2, q2, rfl, rfl, rfl, h2, r2⟩ := trodAll_cons r1
  obtain ⟨rfl, rfl, rfl⟩ := trodAll_nil r2
  obtain rfl : args = #[v0, v1, v2] := by cases args; simp_all
  obtain ⟨rfl, rfl⟩ := trodVars_none hV
  have lt0 : ∀ x ∈ p0, x.block < W.heap.size := by obtain ⟨m, hm⟩ := h0; exact DataW.trod_lt m _ _ _ hm
  have lt1 : ∀ x ∈ p1, x.block < W.heap.size := by obtain ⟨m, hm⟩ := h1; exact DataW.trod_lt m _ _ _ hm
  have lt2 : ∀ x ∈ p2, x.block < W.heap.size := by obtain ⟨m, hm⟩ := h2; exact DataW.trod_lt m _ _ _ hm
  obtain ⟨x0, hx0⟩ := I3 (Mm underlying33 underlying5 cO5 Sy) h0
  obtain ⟨x1, hx1⟩ := I3 (I4 underlying55) h1
  obtain ⟨x2, hx2⟩ := I3 (Ml underlying56 AW.opens R4 AW.lens (by decide)) h2
  have a0 := Rz (c := (dC 32)) (hval 0 33 v0 rfl rfl) (by rw [underlying33]; trivial) hx0
  have w0 := OD _ _ _ hx0
  have a1 := PS (hval 1 55 v1 rfl rfl) underlying55 hx1
  have w1 := MR _ _ _ hx1
  have a2 := NZ (hval 2 56 v2 rfl rfl) underlying56 hx2
  have w2 := (OB AW.wf') _ _ _ hx2
  clear hA0 hval0
  refine (Oj (Hj (plain x0 x1 x2 w0 w1 w2)) (Sd hL) (args := [v0, v1, v2]) ⟨a0, a1, a2, trivial⟩).mono fun e W' ⟨he, bel⟩ => ?_
  subst he
  exact ⟨_, rfl, _, _, _, [], _, [], hW', trodAll_mk1 (shut_bool underlying4 _), (trodAll_cons_mk (Below.trod laidOut (by kernel_rfl) (of_decide_eq_true (by kernel_rfl)) h0 bel lt0) (trodAll_cons_mk (Below.trod laidOut (by kernel_rfl) (of_decide_eq_true (by kernel_rfl)) h1 bel lt1) (trodAll_cons_mk (Below.trod laidOut (by kernel_rfl) (of_decide_eq_true (by kernel_rfl)) h2 bel lt2) trodAll_mk0))), rfl, bel.frame _, fun h => by cases h⟩
theorem It (plain : Gp) : Rows.ReplicaPlaysSaid :=
  OpenClaim.holds_of_wide 4 f4 rfl rfl rfl rfl rfl rfl rfl ⟨rfl, rfl, rfl, rfl, rfl⟩ rfl rfl rfl rfl rfl (by kernel_rfl) func4 (by kernel_rfl)
    (of_decide_eq_true (by kernel_rfl)) (by unfold Func.isWrapper; first | (rw [if_pos (by decide +kernel)]; kernel_rfl) | (rw [if_neg (by decide +kernel)]; exact ⟨rfl, rfl⟩))
    (fun os started H enc _ => HP plain os started H enc)
theorem replicaPlays_card : Rows.ReplicaPlaysCardSaid :=
  Claim7.holds_tied_plain_at .later [] [.data, .data] true (true, "17128a77a0eed86709654a07ca77b4f0f24b9e5e444d6dcf5a724f9cff8b35d6") true
    (It (fun x0 x1 x2 w0 w1 _ => Is x0 x1 x2 w0 w1)) (fun _ h => by cases h) (by kernel_rfl) (fun _ h => by cases h) replicaPlays_row_tie rfl ⟨rfl, rfl⟩ (by kernel_rfl) rfl
    (fun f fn hf hfn => by
      obtain rfl : f = 4 := Option.some.inj ((show prog.funcNamed "pontoon/pontoonlaw17.ReplicaPlays" = some 4 by kernel_rfl).symm.trans hf) |>.symm
      obtain rfl : fn = f4 := (Option.some.inj (func4.symm.trans hfn)).symm
      exact ⟨by kernel_rfl, fun j t ht => by
        rw [params4] at ht
        have h3 : t ∈ ([33, 55, 56] : List TypeId) := by
          have := List.mem_of_getElem? (by simpa using ht)
          simpa using this
        simp only [List.mem_cons, List.not_mem_nil, or_false] at h3
        rcases h3 with rfl | rfl | rfl
        · exact (show prog.wantsStandIn 33 = false by kernel_rfl)
        · exact (show prog.wantsStandIn 55 = false by kernel_rfl)
        · exact (show prog.wantsStandIn 56 = false by kernel_rfl)⟩)
    (by kernel_rfl)
#print axioms replicaPlays_card
end Go.Proofs.YteboiefnflipjaaGreatDoor
