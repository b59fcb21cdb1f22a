/- The functions' Lean twins and contracts, printed by this session's own program: part 3. -/
import Derived.Test.YtemnhknjphjpnaaDoorG2
namespace Go.Proofs.YtemnhknjphjpnaaDoor
open Go Go.RowKit Go.Proofs
set_option maxRecDepth 100000
set_option maxHeartbeats 4000000
set_option linter.unusedVariables false
set_option linter.unusedSimpArgs false
def Bz.b1 (a_0 : Br) (x8 : Int) : Option (Ds Bool Int) := (if (decide (x8 < (a_0.At.length : Int))) = true then (if (0 : Int) ≤ x8 ∧ x8 < a_0.At.length then (if (decide ((200 : Int) < (((a_0.At.getD x8.toNat default).Bb).length : Int))) = true then some (.ret false) else some (.cont (IntKind.wrap .i64 (x8 + 1)))) else none) else some (.brk x8))
def Bz.j2 (x28 : Int) (x38 : Bool) : Option (Ds Bool Int) := (if x38 = true then some (.ret false) else some (.cont (IntKind.wrap .i64 (x28 + 1))))
def Bz.b2 (a_0 : Br) (x28 : Int) : Option (Ds Bool Int) := (if (decide (x28 < (a_0.Am.length : Int))) = true then (if (0 : Int) ≤ x28 ∧ x28 < a_0.Am.length then (if (decide ((200 : Int) < (((a_0.Am.getD x28.toNat default).Cq).length : Int))) = true then Bz.j2 x28 true else Bz.j2 x28 (decide ((200 : Int) < (((a_0.Am.getD x28.toNat default).Cr).length : Int)))) else none) else some (.brk x28))
def Bz.j1 (a_0 : Br) (x2 : Bool) : Option Bool := (if x2 = true then some false else ((Cs (fun s : Int => Bz.b1 a_0 s) (((a_0.At.length : Int) - 0 : Int).toNat + 2) 0).bind fun cr => match cr with | .ret r => some r | .next y22 => ((Cs (fun s : Int => Bz.b2 a_0 s) (((a_0.Am.length : Int) - 0 : Int).toNat + 2) 0).bind fun cr => match cr with | .ret r => some r | .next y45 => some true)))
def Bz (a_0 : Br) : Option Bool := (if (decide ((60 : Int) < (a_0.At.length : Int))) = true then Bz.j1 a_0 true else Bz.j1 a_0 (decide ((100 : Int) < (a_0.Am.length : Int))))
theorem EK {a_0 : Br} {r : Bool} (hF : Bz a_0 = some r) : AX Tryd.prog KG 14 [(Co [one (Ai Aw.ck a_0.At), one (Ai Ar.ck a_0.Am)])] [] (fun _ => []) (An r) := by
  refine AX.intro 47 Tryd.func14 rfl Tryd.ntmps14 (Nat.le_of_ble_eq_true rfl) ?_
  intro c a w hG hn h
  unfold Bz at hF
  change A0 c [.slot 0 (Co [one (Ai Aw.ck a_0.At), one (Ai Ar.ck a_0.Am)])] a w at h
  refine AU mixed hn hG h [502, 501] (ob [0] (DL q0 (BD _)) <| ov [] (Ak qb) .nil) fun b1 a w h => ?_
  refine wp_seq ?_
  refine wp_seq ?_
  refine BY (fun a w => ∃ (x2 : Bool), Bz.j1 a_0 x2 = some r ∧ A0 c [.slot 1 (BG (b1 0) 0), .slot 16 (An x2), .res (lb (b1 0) 31 [one (Ai Aw.ck a_0.At), one (Ai Ar.ck a_0.Am)])] a w) ?_ ?_
  · rcases Bool.eq_false_or_eq_true (decide ((60 : Int) < (a_0.At.length : Int))) with hb46 | hb46
    · replace hF := CZ hb46 hF
      refine CK mixed hn hG h [0, 500, 1] (ov [0] (Ah (p := (b1 0)) (n := 1) 0 0 Tryd.underlying31 rfl Tryd.sizeOf28 (by decide) q0 rfl) <| ov [500, 1] (AE [] [one (Ai Ar.ck a_0.Am)] 1 Tryd.isAgg28 q0 rfl rfl) <| ov [500] (Bm Tryd.underlying28 q0) <| ov [500] (Ax CD q0 qi) <| ov [500] (Ag q0) <| oe [500] [] (A4.A2 (want := false) hb46 rfl rfl rfl rfl) <| oe [501] [] (A4.A2 (want := false) hb46 rfl rfl rfl rfl) <| oe [502] [] (A4.A2 (want := false) hb46 rfl rfl rfl rfl) <| oe [503] [] (A4.A2 (want := false) hb46 rfl rfl rfl rfl) <| ov [504] (Bj hb46 q0 qb) .nil) fun _ a w h => ?_
      exact ⟨true, hF, h.sub [0, 1, 2] (by rfl)⟩
    · replace hF := C0 hb46 hF
      refine CK mixed hn hG h [0, 500, 1] (ov [0] (Ah (p := (b1 0)) (n := 1) 0 0 Tryd.underlying31 rfl Tryd.sizeOf28 (by decide) q0 rfl) <| ov [500, 1] (AE [] [one (Ai Ar.ck a_0.Am)] 1 Tryd.isAgg28 q0 rfl rfl) <| ov [500] (Bm Tryd.underlying28 q0) <| ov [500] (Ax CD q0 qi) <| ov [500] (Ag q0) <| oe [500, 0] [] (A4.AN hb46 rfl rfl rfl (Ah (p := (b1 0)) (n := 1) 0 1 Tryd.underlying31 rfl Tryd.sizeOf29 (by decide) q0 rfl)) <| oe [501, 500, 1] [] (A4.AN hb46 rfl rfl rfl (AE [one (Ai Aw.ck a_0.At)] [] 1 Tryd.isAgg29 q0 rfl rfl)) <| oe [502, 500] [] (A4.AN hb46 rfl rfl rfl (Bm Tryd.underlying29 q0)) <| oe [503, 500] [] (A4.AN hb46 rfl rfl rfl (Ax CD q0 qi)) <| ov [504, 500] (Bd hb46 q0 q1) .nil) fun _ a w h => ?_
      exact ⟨decide ((100 : Int) < (a_0.Am.length : Int)), hF, h.sub [0, 1, 2] (by rfl)⟩
  · clear h hF
    rintro a w ⟨x2, hF, h⟩
    unfold Bz.j1 at hF
    show Code.wp Tryd.prog _ _ a w
    refine DN h hF 1 [] [0, 2] (fun hb3 hF h => ?_) (fun hb3 hF h => ?_)
    · refine AU mixed hn hG h [500] (ov [] (Ak qb) .nil) fun _ a w h => ?_
      refine wp_ret ?_
      obtain rfl := Option.some.inj hF
      exact ⟨.inl rfl, Cv h Tryd.results14 (By 0 rfl) [] [] rfl rfl rfl⟩
    · refine wp_skip ?_
      show Code.wp Tryd.prog _ _ a w
      refine wp_seq ?_
      refine AU mixed hn hG h [0, 502, 501, 500, 1] (ov [0] (Ah (p := (b1 0)) (n := 1) 0 0 Tryd.underlying31 rfl Tryd.sizeOf28 (by decide) q0 rfl) <| ov [500, 1] (AE [] [one (Ai Ar.ck a_0.Am)] 1 Tryd.isAgg28 q0 rfl rfl) <| ov [500] (Bm Tryd.underlying28 q0) <| ov [] (Ag qi) .nil) fun _ a w h => ?_
      refine wp_block ?_
      obtain ⟨cr18, hl19, hF⟩ := bind_some hF
      refine wp_mono (Ci (R := Bool) (S := Int) (fun s a w => A0 c [.slot 1 (BG (b1 0) 0), .slot 18 (Ai Aw.ck a_0.At), .slot 19 (Ab .i64 (a_0.At.length : Int)), .slot 20 (Ab .i64 s), .res (lb (b1 0) 31 [one (Ai Aw.ck a_0.At), one (Ai Ar.ck a_0.Am)])] a w) (fun res e a w => match res with | .next s => e = .exit 0 ∧ A0 c [.slot 1 (BG (b1 0) 0), .res (lb (b1 0) 31 [one (Ai Aw.ck a_0.At), one (Ai Ar.ck a_0.Am)])] a w | .ret r => e = .ret ∧ DF Tryd.prog Tryd.f14 c (An r) (fun _ => []) a w) ?_ _ 0 _ _ _ (h.sub [0, 1, 2, 3, 4] (by rfl)) hl19) ?_
      · clear hl19 hF h
        intro x8 a w o h hF
        change Bz.b1 a_0 x8 = some o at hF
        unfold Bz.b1 at hF
        change A0 c [.slot 1 (BG (b1 0) 0), .slot 18 (Ai Aw.ck a_0.At), .slot 19 (Ab .i64 (a_0.At.length : Int)), .slot 20 (Ab .i64 x8), .res (lb (b1 0) 31 [one (Ai Aw.ck a_0.At), one (Ai Ar.ck a_0.Am)])] a w at h
        refine AU mixed hn hG h [0, 1, 2, 3, 500, 4] (ov [3, 2] (Ax B6 q0 q1) .nil) fun _ a w h => ?_
        refine wp_seq ?_
        refine DN h hF 4 [0, 1, 2, 3, 5] [0, 1, 2, 3, 5] (fun hb14 hF h => ?_) (fun hb14 hF h => ?_)
        · refine wp_skip ?_
          show Code.wp Tryd.prog _ _ a w
          refine wp_seq ?_
          refine wp_block ?_
          obtain ⟨hv15, hF⟩ := AH hF
          refine AU mixed hn hG h [0, 502, 1, 2, 3, 4, 500] (ov [1, 3] (BL Tryd.underlying28 Tryd.sizeOf77 Aw.lens q0 q1 hv15) <| ov [500] (CT [one (Ab .u32 ((a_0.At.getD x8.toNat default).Bp)), one (AF ((a_0.At.getD x8.toNat default).Bb)), one (Ab .u64 ((a_0.At.getD x8.toNat default).Dq)), one (Ab .u64 ((a_0.At.getD x8.toNat default).BP)), one (Ab .u64 ((a_0.At.getD x8.toNat default).Bx)), one (Ab .u64 ((a_0.At.getD x8.toNat default).BO)), one (Ab .u64 ((a_0.At.getD x8.toNat default).BQ))] [] Tryd.isAgg77 Tryd.sizeOf77 q0 rfl) <| ob [] (CJ Tryd.zeroValue77 NG) <| og [501, 502] [500] [.res 2 100000 (fun v1_ _ => (lb (v1_) 77 [one (Ab .u32 ((a_0.At.getD x8.toNat default).Bp)), one (AF ((a_0.At.getD x8.toNat default).Bb)), one (Ab .u64 ((a_0.At.getD x8.toNat default).Dq)), one (Ab .u64 ((a_0.At.getD x8.toNat default).BP)), one (Ab .u64 ((a_0.At.getD x8.toNat default).Bx)), one (Ab .u64 ((a_0.At.getD x8.toNat default).BO)), one (Ab .u64 ((a_0.At.getD x8.toNat default).BQ))]))] (A4.plain (CG Tryd.sizeOf77 q0 q1 (BD _)) rfl) .nil) fun b16 a w h => ?_
          refine AU mixed hn hG h [0, 2, 3, 4, 500, 5] (ov [1] (Ah (p := (b16 2)) (n := 1) 0 1 Tryd.underlying77 rfl Tryd.sizeOf9 (by decide) q0 rfl) <| ov [500, 6] (AE [one (Ab .u32 ((a_0.At.getD x8.toNat default).Bp))] [one (Ab .u64 ((a_0.At.getD x8.toNat default).Dq)), one (Ab .u64 ((a_0.At.getD x8.toNat default).BP)), one (Ab .u64 ((a_0.At.getD x8.toNat default).Bx)), one (Ab .u64 ((a_0.At.getD x8.toNat default).BO)), one (Ab .u64 ((a_0.At.getD x8.toNat default).BQ))] 1 Tryd.isAgg9 q0 rfl rfl) <| ov [500] (CU Tryd.underlying9 q0) <| ov [500] (Ax CD q0 qi) .nil) fun _ a w h => ?_
          refine DN h hF 4 [] [0, 1, 2, 3, 5] (fun hb17 hF h => ?_) (fun hb17 hF h => ?_)
          · refine AU mixed hn hG h [500] (ov [] (Ak qb) .nil) fun _ a w h => ?_
            refine wp_ret ?_
            obtain rfl := Option.some.inj hF
            exact ⟨Hv, rfl, Cv h Tryd.results14 (By 0 rfl) [] [] rfl rfl rfl⟩
          · refine wp_skip ?_
            show Code.wp Tryd.prog _ _ a w
            refine CK mixed hn hG h [0, 1, 2, 500, 4] (ov [3] (Ax BC q0 qi) <| od [500] 3 (Ag q0) .nil) fun _ a w h => ?_
            obtain rfl := Option.some.inj hF
            exact ⟨rfl, h.sub [0, 1, 2, 3, 4] (by rfl)⟩
        · refine wp_exit ?_
          obtain rfl := Option.some.inj hF
          exact ⟨CV _, rfl, h.sub [0, 4] (by rfl)⟩
      · clear hl19
        intro e a w hq
        cases cr18 with
        | ret r20 =>
          obtain ⟨rfl, hq⟩ := hq
          obtain rfl := Option.some.inj hF
          exact ⟨.inl rfl, hq⟩
        | next y22 =>
          obtain ⟨rfl, h⟩ := hq
          change A0 c [.slot 1 (BG (b1 0) 0), .res (lb (b1 0) 31 [one (Ai Aw.ck a_0.At), one (Ai Ar.ck a_0.Am)])] a w at h
          refine BT ?_
          show Code.wp Tryd.prog _ _ a w
          refine wp_seq ?_
          refine AU mixed hn hG h [502, 501, 500] (ov [0] (Ah (p := (b1 0)) (n := 1) 0 1 Tryd.underlying31 rfl Tryd.sizeOf29 (by decide) q0 rfl) <| ov [500, 1] (AE [one (Ai Aw.ck a_0.At)] [] 1 Tryd.isAgg29 q0 rfl rfl) <| ov [500] (Bm Tryd.underlying29 q0) <| ov [] (Ag qi) .nil) fun _ a w h => ?_
          refine wp_block ?_
          obtain ⟨cr41, hl42, hF⟩ := bind_some hF
          refine wp_mono (Ci (R := Bool) (S := Int) (fun s a w => A0 c [.slot 30 (Ai Ar.ck a_0.Am), .slot 31 (Ab .i64 (a_0.Am.length : Int)), .slot 32 (Ab .i64 s)] a w) (fun res e a w => match res with | .next s => e = .exit 2 ∧ A0 c [] a w | .ret r => e = .ret ∧ DF Tryd.prog Tryd.f14 c (An r) (fun _ => []) a w) ?_ _ 0 _ _ _ (h.sub [0, 1, 2] (by rfl)) hl42) ?_
          · clear hl42 hF h
            intro x28 a w o h hF
            change Bz.b2 a_0 x28 = some o at hF
            unfold Bz.b2 at hF
            change A0 c [.slot 30 (Ai Ar.ck a_0.Am), .slot 31 (Ab .i64 (a_0.Am.length : Int)), .slot 32 (Ab .i64 x28)] a w at h
            refine AU mixed hn hG h [0, 1, 2, 500] (ov [2, 1] (Ax B6 q0 q1) .nil) fun _ a w h => ?_
            refine wp_seq ?_
            refine DN h hF 3 [0, 1, 2] [0, 1, 2] (fun hb35 hF h => ?_) (fun hb35 hF h => ?_)
            · refine wp_skip ?_
              show Code.wp Tryd.prog _ _ a w
              refine wp_seq ?_
              refine wp_block ?_
              obtain ⟨hv36, hF⟩ := AH hF
              refine AU mixed hn hG h [502, 0, 1, 2, 500] (ov [0, 2] (BL Tryd.underlying29 Tryd.sizeOf81 Ar.lens q0 q1 hv36) <| ov [500] (CT [one (Ab .u32 ((a_0.Am.getD x28.toNat default).Bp)), one (AF ((a_0.Am.getD x28.toNat default).Cq)), one (AF ((a_0.Am.getD x28.toNat default).Cr)), one (Ab .u64 ((a_0.Am.getD x28.toNat default).Ct))] [] Tryd.isAgg81 Tryd.sizeOf81 q0 rfl) <| ob [] (CJ Tryd.zeroValue81 NF) <| og [501, 502] [500] [.res 2 100000 (fun v1_ _ => (lb (v1_) 81 [one (Ab .u32 ((a_0.Am.getD x28.toNat default).Bp)), one (AF ((a_0.Am.getD x28.toNat default).Cq)), one (AF ((a_0.Am.getD x28.toNat default).Cr)), one (Ab .u64 ((a_0.Am.getD x28.toNat default).Ct))]))] (A4.plain (CG Tryd.sizeOf81 q0 q1 (BD _)) rfl) .nil) fun b37 a w h => ?_
              refine wp_seq ?_
              refine BY (fun a w => ∃ (x38 : Bool), Bz.j2 x28 x38 = some o ∧ A0 c [.slot 30 (Ai Ar.ck a_0.Am), .slot 31 (Ab .i64 (a_0.Am.length : Int)), .slot 32 (Ab .i64 x28), .slot 45 (An x38)] a w) ?_ ?_
              · rcases Bool.eq_false_or_eq_true (decide ((200 : Int) < (((a_0.Am.getD x28.toNat default).Cq).length : Int))) with hb40 | hb40
                · replace hF := CZ hb40 hF
                  refine CK mixed hn hG h [1, 2, 3, 500] (ov [0] (Ah (p := (b37 2)) (n := 1) 0 1 Tryd.underlying81 rfl Tryd.sizeOf9 (by decide) q0 rfl) <| ov [500, 4] (AE [one (Ab .u32 ((a_0.Am.getD x28.toNat default).Bp))] [one (AF ((a_0.Am.getD x28.toNat default).Cr)), one (Ab .u64 ((a_0.Am.getD x28.toNat default).Ct))] 1 Tryd.isAgg9 q0 rfl rfl) <| ov [500] (CU Tryd.underlying9 q0) <| ov [500] (Ax CD q0 qi) <| ov [500] (Ag q0) <| oe [500] [] (A4.A2 (want := false) hb40 rfl rfl rfl rfl) <| oe [501] [] (A4.A2 (want := false) hb40 rfl rfl rfl rfl) <| oe [502] [] (A4.A2 (want := false) hb40 rfl rfl rfl rfl) <| oe [503] [] (A4.A2 (want := false) hb40 rfl rfl rfl rfl) <| ov [504] (Bj hb40 q0 qb) .nil) fun _ a w h => ?_
                  exact ⟨true, hF, h.sub [0, 1, 2, 3] (by rfl)⟩
                · replace hF := C0 hb40 hF
                  refine CK mixed hn hG h [1, 2, 3, 500] (ov [0] (Ah (p := (b37 2)) (n := 1) 0 1 Tryd.underlying81 rfl Tryd.sizeOf9 (by decide) q0 rfl) <| ov [500, 4] (AE [one (Ab .u32 ((a_0.Am.getD x28.toNat default).Bp))] [one (AF ((a_0.Am.getD x28.toNat default).Cr)), one (Ab .u64 ((a_0.Am.getD x28.toNat default).Ct))] 1 Tryd.isAgg9 q0 rfl rfl) <| ov [500] (CU Tryd.underlying9 q0) <| ov [500] (Ax CD q0 qi) <| ov [500] (Ag q0) <| oe [500, 0] [] (A4.AN hb40 rfl rfl rfl (Ah (p := (b37 2)) (n := 1) 0 2 Tryd.underlying81 rfl Tryd.sizeOf9 (by decide) q0 rfl)) <| oe [501, 500, 4] [] (A4.AN hb40 rfl rfl rfl (AE [one (Ab .u32 ((a_0.Am.getD x28.toNat default).Bp)), one (AF ((a_0.Am.getD x28.toNat default).Cq))] [one (Ab .u64 ((a_0.Am.getD x28.toNat default).Ct))] 1 Tryd.isAgg9 q0 rfl rfl)) <| oe [502, 500] [] (A4.AN hb40 rfl rfl rfl (CU Tryd.underlying9 q0)) <| oe [503, 500] [] (A4.AN hb40 rfl rfl rfl (Ax CD q0 qi)) <| ov [504, 500] (Bd hb40 q0 q1) .nil) fun _ a w h => ?_
                  exact ⟨decide ((200 : Int) < (((a_0.Am.getD x28.toNat default).Cr).length : Int)), hF, h.sub [0, 1, 2, 3] (by rfl)⟩
              · clear h hF
                rintro a w ⟨x38, hF, h⟩
                unfold Bz.j2 at hF
                show Code.wp Tryd.prog _ _ a w
                refine DN h hF 3 [] [0, 1, 2] (fun hb39 hF h => ?_) (fun hb39 hF h => ?_)
                · refine AU mixed hn hG h [500] (ov [] (Ak qb) .nil) fun _ a w h => ?_
                  refine wp_ret ?_
                  obtain rfl := Option.some.inj hF
                  exact ⟨Hv, rfl, Cv h Tryd.results14 (By 0 rfl) [] [] rfl rfl rfl⟩
                · refine wp_skip ?_
                  show Code.wp Tryd.prog _ _ a w
                  refine CK mixed hn hG h [0, 1, 500] (ov [2] (Ax BC q0 qi) <| od [500] 2 (Ag q0) .nil) fun _ a w h => ?_
                  obtain rfl := Option.some.inj hF
                  exact ⟨rfl, h.sub [0, 1, 2] (by rfl)⟩
            · refine wp_exit ?_
              obtain rfl := Option.some.inj hF
              exact ⟨CV _, rfl, h.sub [] (by rfl)⟩
          · clear hl42
            intro e a w hq
            cases cr41 with
            | ret r43 =>
              obtain ⟨rfl, hq⟩ := hq
              obtain rfl := Option.some.inj hF
              exact ⟨.inl rfl, hq⟩
            | next y45 =>
              obtain ⟨rfl, h⟩ := hq
              change A0 c [] a w at h
              refine BT ?_
              show Code.wp Tryd.prog _ _ a w
              refine AU mixed hn hG h [500] (ov [] (Ak qb) .nil) fun _ a w h => ?_
              refine wp_ret ?_
              obtain rfl := Option.some.inj hF
              exact ⟨.inl rfl, Cv h Tryd.results14 (By 0 rfl) [] [] rfl rfl rfl⟩

def Dw.j1 (x2 : Bool) : Option Bool := some x2
def Dw (a_0 : BA) : Option Bool := (if (decide ((a_0.AP.length : Int) ≤ (40 : Int))) = true then (if (decide ((a_0.AW.length : Int) ≤ (300 : Int))) = true then Dw.j1 (decide ((a_0.AS.length : Int) ≤ (40 : Int))) else Dw.j1 false) else Dw.j1 false)
theorem Fq {a_0 : BA} {r : Bool} (hF : Dw a_0 = some r) : AX Tryd.prog KG 15 [(Co [one (Ab .u32 a_0.AB), Af 32 a_0.As, one (Ab .u32 a_0.AJ.A1), A5 32 32 (dC 32) (AY 32) a_0.AJ.AI, one (Ai (dC 32) a_0.AP), one (Ai (dC 32) a_0.AW), Af 32 a_0.Aj, one (Ai AA.ck a_0.AS), one (Ab .u64 a_0.A8), one (An a_0.Au)])] [] (fun _ => []) (An r) := by
  refine AX.intro 19 Tryd.func15 rfl Tryd.ntmps15 (Nat.le_of_ble_eq_true rfl) ?_
  intro c a w hG hn h
  unfold Dw at hF
  change A0 c [.slot 0 (Co [one (Ab .u32 a_0.AB), Af 32 a_0.As, one (Ab .u32 a_0.AJ.A1), A5 32 32 (dC 32) (AY 32) a_0.AJ.AI, one (Ai (dC 32) a_0.AP), one (Ai (dC 32) a_0.AW), Af 32 a_0.Aj, one (Ai AA.ck a_0.AS), one (Ab .u64 a_0.A8), one (An a_0.Au)])] a w at h
  refine AU mixed hn hG h [502, 501] (ob [0] (DL q0 (BD _)) <| ov [] (Ak qb) .nil) fun b1 a w h => ?_
  refine wp_seq ?_
  refine BY (fun a w => ∃ (x2 : Bool), Dw.j1 x2 = some r ∧ A0 c [.slot 2 (An x2)] a w) ?_ ?_
  · rcases Bool.eq_false_or_eq_true (decide ((a_0.AP.length : Int) ≤ (40 : Int))) with hb3 | hb3
    · replace hF := CZ hb3 hF
      rcases Bool.eq_false_or_eq_true (decide ((a_0.AW.length : Int) ≤ (300 : Int))) with hb4 | hb4
      · replace hF := CZ hb4 hF
        refine CK mixed hn hG h [500] (ov [0] (Ah (p := (b1 0)) (n := 1) 0 1058 Tryd.underlying40 rfl Tryd.sizeOf37 (by decide) q0 rfl) <| ov [500, 1] (AE [one (Ab .u32 a_0.AB), Af 32 a_0.As, one (Ab .u32 a_0.AJ.A1), A5 32 32 (dC 32) (AY 32) a_0.AJ.AI] [one (Ai (dC 32) a_0.AW), Af 32 a_0.Aj, one (Ai AA.ck a_0.AS), one (Ab .u64 a_0.A8), one (An a_0.Au)] 1 Tryd.isAgg37 q0 rfl (by simp only [CQ, CP, one, Af, A5, B1])) <| ov [500] (Bm Tryd.underlying37 q0) <| ov [500] (Ax Cj q0 qi) <| ov [500] (Ag q0) <| oe [500, 0] [] (A4.AN hb3 rfl rfl rfl (Ah (p := (b1 0)) (n := 1) 0 1059 Tryd.underlying40 rfl Tryd.sizeOf37 (by decide) q0 rfl)) <| oe [501, 500, 1] [] (A4.AN hb3 rfl rfl rfl (AE [one (Ab .u32 a_0.AB), Af 32 a_0.As, one (Ab .u32 a_0.AJ.A1), A5 32 32 (dC 32) (AY 32) a_0.AJ.AI, one (Ai (dC 32) a_0.AP)] [Af 32 a_0.Aj, one (Ai AA.ck a_0.AS), one (Ab .u64 a_0.A8), one (An a_0.Au)] 1 Tryd.isAgg37 q0 rfl (by simp only [CQ, CP, one, Af, A5, B1]))) <| oe [502, 500] [] (A4.AN hb3 rfl rfl rfl (Bm Tryd.underlying37 q0)) <| oe [503, 500] [] (A4.AN hb3 rfl rfl rfl (Ax Cj q0 qi)) <| ov [504, 500] (Bj hb3 q0 q1) <| ov [500] (Ag q0) <| oe [500, 0] [] (A4.AN hb4 rfl rfl rfl (Ah (p := (b1 0)) (n := 1) 0 1092 Tryd.underlying40 rfl Tryd.sizeOf38 (by decide) q0 rfl)) <| oe [501, 500, 1] [] (A4.AN hb4 rfl rfl rfl (AE [one (Ab .u32 a_0.AB), Af 32 a_0.As, one (Ab .u32 a_0.AJ.A1), A5 32 32 (dC 32) (AY 32) a_0.AJ.AI, one (Ai (dC 32) a_0.AP), one (Ai (dC 32) a_0.AW), Af 32 a_0.Aj] [one (Ab .u64 a_0.A8), one (An a_0.Au)] 1 Tryd.isAgg38 q0 rfl (by simp only [CQ, CP, one, Af, A5, B1]))) <| oe [502, 500] [] (A4.AN hb4 rfl rfl rfl (Bm Tryd.underlying38 q0)) <| oe [503, 500] [] (A4.AN hb4 rfl rfl rfl (Ax Cj q0 qi)) <| ov [504, 500] (Bj hb4 q0 q1) <| ov [500] (Ak q0) .nil) fun _ a w h => ?_
        exact ⟨decide ((a_0.AS.length : Int) ≤ (40 : Int)), hF, h.sub [0] (by rfl)⟩
      · replace hF := C0 hb4 hF
        refine CK mixed hn hG h [500] (ov [0] (Ah (p := (b1 0)) (n := 1) 0 1058 Tryd.underlying40 rfl Tryd.sizeOf37 (by decide) q0 rfl) <| ov [500, 1] (AE [one (Ab .u32 a_0.AB), Af 32 a_0.As, one (Ab .u32 a_0.AJ.A1), A5 32 32 (dC 32) (AY 32) a_0.AJ.AI] [one (Ai (dC 32) a_0.AW), Af 32 a_0.Aj, one (Ai AA.ck a_0.AS), one (Ab .u64 a_0.A8), one (An a_0.Au)] 1 Tryd.isAgg37 q0 rfl (by simp only [CQ, CP, one, Af, A5, B1])) <| ov [500] (Bm Tryd.underlying37 q0) <| ov [500] (Ax Cj q0 qi) <| ov [500] (Ag q0) <| oe [500, 0] [] (A4.AN hb3 rfl rfl rfl (Ah (p := (b1 0)) (n := 1) 0 1059 Tryd.underlying40 rfl Tryd.sizeOf37 (by decide) q0 rfl)) <| oe [501, 500, 1] [] (A4.AN hb3 rfl rfl rfl (AE [one (Ab .u32 a_0.AB), Af 32 a_0.As, one (Ab .u32 a_0.AJ.A1), A5 32 32 (dC 32) (AY 32) a_0.AJ.AI, one (Ai (dC 32) a_0.AP)] [Af 32 a_0.Aj, one (Ai AA.ck a_0.AS), one (Ab .u64 a_0.A8), one (An a_0.Au)] 1 Tryd.isAgg37 q0 rfl (by simp only [CQ, CP, one, Af, A5, B1]))) <| oe [502, 500] [] (A4.AN hb3 rfl rfl rfl (Bm Tryd.underlying37 q0)) <| oe [503, 500] [] (A4.AN hb3 rfl rfl rfl (Ax Cj q0 qi)) <| ov [504, 500] (Bj hb3 q0 q1) <| ov [500] (Ag q0) <| oe [500] [] (A4.A2 (want := true) hb4 rfl rfl rfl rfl) <| oe [501] [] (A4.A2 (want := true) hb4 rfl rfl rfl rfl) <| oe [502] [] (A4.A2 (want := true) hb4 rfl rfl rfl rfl) <| oe [503] [] (A4.A2 (want := true) hb4 rfl rfl rfl rfl) <| ov [504] (Bd hb4 q0 qb) <| ov [500] (Ak q0) .nil) fun _ a w h => ?_
        exact ⟨false, hF, h.sub [0] (by rfl)⟩
    · replace hF := C0 hb3 hF
      refine CK mixed hn hG h [500] (ov [0] (Ah (p := (b1 0)) (n := 1) 0 1058 Tryd.underlying40 rfl Tryd.sizeOf37 (by decide) q0 rfl) <| ov [500, 1] (AE [one (Ab .u32 a_0.AB), Af 32 a_0.As, one (Ab .u32 a_0.AJ.A1), A5 32 32 (dC 32) (AY 32) a_0.AJ.AI] [one (Ai (dC 32) a_0.AW), Af 32 a_0.Aj, one (Ai AA.ck a_0.AS), one (Ab .u64 a_0.A8), one (An a_0.Au)] 1 Tryd.isAgg37 q0 rfl (by simp only [CQ, CP, one, Af, A5, B1])) <| ov [500] (Bm Tryd.underlying37 q0) <| ov [500] (Ax Cj q0 qi) <| ov [500] (Ag q0) <| oe [500] [] (A4.A2 (want := true) hb3 rfl rfl rfl rfl) <| oe [501] [] (A4.A2 (want := true) hb3 rfl rfl rfl rfl) <| oe [502] [] (A4.A2 (want := true) hb3 rfl rfl rfl rfl) <| oe [503] [] (A4.A2 (want := true) hb3 rfl rfl rfl rfl) <| ov [504] (Bd hb3 q0 qb) <| ov [500] (Ag q0) <| oe [500] [] (A4.A2 (want := true) rfl rfl rfl rfl rfl) <| oe [501] [] (A4.A2 (want := true) rfl rfl rfl rfl rfl) <| oe [502] [] (A4.A2 (want := true) rfl rfl rfl rfl rfl) <| oe [503] [] (A4.A2 (want := true) rfl rfl rfl rfl rfl) <| ov [504] (Bd rfl q0 qb) <| ov [500] (Ak q0) .nil) fun _ a w h => ?_
      exact ⟨false, hF, h.sub [0] (by rfl)⟩
  · clear h hF
    rintro a w ⟨x2, hF, h⟩
    unfold Dw.j1 at hF
    show Code.wp Tryd.prog _ _ a w
    refine wp_ret ?_
    obtain rfl := Option.some.inj hF
    exact ⟨.inl rfl, Cv h Tryd.results15 (By 0 rfl) [] [] rfl rfl rfl⟩

def Dv.j1 (x2 : Bool) : Option Bool := some x2
def Dv (a_0 : Bl) : Option Bool := (if (decide ((a_0.AG.length : Int) ≤ (20 : Int))) = true then (if (decide ((a_0.AT.length : Int) ≤ (300 : Int))) = true then Dv.j1 (decide ((a_0.Az.length : Int) ≤ (100 : Int))) else Dv.j1 false) else Dv.j1 false)
theorem GK {a_0 : Bl} {r : Bool} (hF : Dv a_0 = some r) : AX Tryd.prog KG 16 [(Co [one (Ab .u32 a_0.AB), one (Ab .u32 a_0.A7), Af 32 a_0.As, one (Ai (dC 32) a_0.AG), one (Ab .u64 a_0.AQ), Af 32 a_0.Aj, one (Ai Ay.ck a_0.AT), one (Ai Av.ck a_0.Az), one (An a_0.Au), one (An a_0.Bh)])] [] (fun _ => []) (An r) := by
  refine AX.intro 19 Tryd.func16 rfl Tryd.ntmps16 (Nat.le_of_ble_eq_true rfl) ?_
  intro c a w hG hn h
  unfold Dv at hF
  change A0 c [.slot 0 (Co [one (Ab .u32 a_0.AB), one (Ab .u32 a_0.A7), Af 32 a_0.As, one (Ai (dC 32) a_0.AG), one (Ab .u64 a_0.AQ), Af 32 a_0.Aj, one (Ai Ay.ck a_0.AT), one (Ai Av.ck a_0.Az), one (An a_0.Au), one (An a_0.Bh)])] a w at h
  refine AU mixed hn hG h [502, 501] (ob [0] (DL q0 (BD _)) <| ov [] (Ak qb) .nil) fun b1 a w h => ?_
  refine wp_seq ?_
  refine BY (fun a w => ∃ (x2 : Bool), Dv.j1 x2 = some r ∧ A0 c [.slot 2 (An x2)] a w) ?_ ?_
  · rcases Bool.eq_false_or_eq_true (decide ((a_0.AG.length : Int) ≤ (20 : Int))) with hb3 | hb3
    · replace hF := CZ hb3 hF
      rcases Bool.eq_false_or_eq_true (decide ((a_0.AT.length : Int) ≤ (300 : Int))) with hb4 | hb4
      · replace hF := CZ hb4 hF
        refine CK mixed hn hG h [500] (ov [0] (Ah (p := (b1 0)) (n := 1) 0 34 Tryd.underlying44 rfl Tryd.sizeOf37 (by decide) q0 rfl) <| ov [500, 1] (AE [one (Ab .u32 a_0.AB), one (Ab .u32 a_0.A7), Af 32 a_0.As] [one (Ab .u64 a_0.AQ), Af 32 a_0.Aj, one (Ai Ay.ck a_0.AT), one (Ai Av.ck a_0.Az), one (An a_0.Au), one (An a_0.Bh)] 1 Tryd.isAgg37 q0 rfl rfl) <| ov [500] (Bm Tryd.underlying37 q0) <| ov [500] (Ax Cj q0 qi) <| ov [500] (Ag q0) <| oe [500, 0] [] (A4.AN hb3 rfl rfl rfl (Ah (p := (b1 0)) (n := 1) 0 68 Tryd.underlying44 rfl Tryd.sizeOf41 (by decide) q0 rfl)) <| oe [501, 500, 1] [] (A4.AN hb3 rfl rfl rfl (AE [one (Ab .u32 a_0.AB), one (Ab .u32 a_0.A7), Af 32 a_0.As, one (Ai (dC 32) a_0.AG), one (Ab .u64 a_0.AQ), Af 32 a_0.Aj] [one (Ai Av.ck a_0.Az), one (An a_0.Au), one (An a_0.Bh)] 1 Tryd.isAgg41 q0 rfl rfl)) <| oe [502, 500] [] (A4.AN hb3 rfl rfl rfl (Bm Tryd.underlying41 q0)) <| oe [503, 500] [] (A4.AN hb3 rfl rfl rfl (Ax Cj q0 qi)) <| ov [504, 500] (Bj hb3 q0 q1) <| ov [500] (Ag q0) <| oe [500, 0] [] (A4.AN hb4 rfl rfl rfl (Ah (p := (b1 0)) (n := 1) 0 69 Tryd.underlying44 rfl Tryd.sizeOf42 (by decide) q0 rfl)) <| oe [501, 500, 1] [] (A4.AN hb4 rfl rfl rfl (AE [one (Ab .u32 a_0.AB), one (Ab .u32 a_0.A7), Af 32 a_0.As, one (Ai (dC 32) a_0.AG), one (Ab .u64 a_0.AQ), Af 32 a_0.Aj, one (Ai Ay.ck a_0.AT)] [one (An a_0.Au), one (An a_0.Bh)] 1 Tryd.isAgg42 q0 rfl rfl)) <| oe [502, 500] [] (A4.AN hb4 rfl rfl rfl (Bm Tryd.underlying42 q0)) <| oe [503, 500] [] (A4.AN hb4 rfl rfl rfl (Ax Cj q0 qi)) <| ov [504, 500] (Bj hb4 q0 q1) <| ov [500] (Ak q0) .nil) fun _ a w h => ?_
        exact ⟨decide ((a_0.Az.length : Int) ≤ (100 : Int)), hF, h.sub [0] (by rfl)⟩
      · replace hF := C0 hb4 hF
        refine CK mixed hn hG h [500] (ov [0] (Ah (p := (b1 0)) (n := 1) 0 34 Tryd.underlying44 rfl Tryd.sizeOf37 (by decide) q0 rfl) <| ov [500, 1] (AE [one (Ab .u32 a_0.AB), one (Ab .u32 a_0.A7), Af 32 a_0.As] [one (Ab .u64 a_0.AQ), Af 32 a_0.Aj, one (Ai Ay.ck a_0.AT), one (Ai Av.ck a_0.Az), one (An a_0.Au), one (An a_0.Bh)] 1 Tryd.isAgg37 q0 rfl rfl) <| ov [500] (Bm Tryd.underlying37 q0) <| ov [500] (Ax Cj q0 qi) <| ov [500] (Ag q0) <| oe [500, 0] [] (A4.AN hb3 rfl rfl rfl (Ah (p := (b1 0)) (n := 1) 0 68 Tryd.underlying44 rfl Tryd.sizeOf41 (by decide) q0 rfl)) <| oe [501, 500, 1] [] (A4.AN hb3 rfl rfl rfl (AE [one (Ab .u32 a_0.AB), one (Ab .u32 a_0.A7), Af 32 a_0.As, one (Ai (dC 32) a_0.AG), one (Ab .u64 a_0.AQ), Af 32 a_0.Aj] [one (Ai Av.ck a_0.Az), one (An a_0.Au), one (An a_0.Bh)] 1 Tryd.isAgg41 q0 rfl rfl)) <| oe [502, 500] [] (A4.AN hb3 rfl rfl rfl (Bm Tryd.underlying41 q0)) <| oe [503, 500] [] (A4.AN hb3 rfl rfl rfl (Ax Cj q0 qi)) <| ov [504, 500] (Bj hb3 q0 q1) <| ov [500] (Ag q0) <| oe [500] [] (A4.A2 (want := true) hb4 rfl rfl rfl rfl) <| oe [501] [] (A4.A2 (want := true) hb4 rfl rfl rfl rfl) <| oe [502] [] (A4.A2 (want := true) hb4 rfl rfl rfl rfl) <| oe [503] [] (A4.A2 (want := true) hb4 rfl rfl rfl rfl) <| ov [504] (Bd hb4 q0 qb) <| ov [500] (Ak q0) .nil) fun _ a w h => ?_
        exact ⟨false, hF, h.sub [0] (by rfl)⟩
    · replace hF := C0 hb3 hF
      refine CK mixed hn hG h [500] (ov [0] (Ah (p := (b1 0)) (n := 1) 0 34 Tryd.underlying44 rfl Tryd.sizeOf37 (by decide) q0 rfl) <| ov [500, 1] (AE [one (Ab .u32 a_0.AB), one (Ab .u32 a_0.A7), Af 32 a_0.As] [one (Ab .u64 a_0.AQ), Af 32 a_0.Aj, one (Ai Ay.ck a_0.AT), one (Ai Av.ck a_0.Az), one (An a_0.Au), one (An a_0.Bh)] 1 Tryd.isAgg37 q0 rfl rfl) <| ov [500] (Bm Tryd.underlying37 q0) <| ov [500] (Ax Cj q0 qi) <| ov [500] (Ag q0) <| oe [500] [] (A4.A2 (want := true) hb3 rfl rfl rfl rfl) <| oe [501] [] (A4.A2 (want := true) hb3 rfl rfl rfl rfl) <| oe [502] [] (A4.A2 (want := true) hb3 rfl rfl rfl rfl) <| oe [503] [] (A4.A2 (want := true) hb3 rfl rfl rfl rfl) <| ov [504] (Bd hb3 q0 qb) <| ov [500] (Ag q0) <| oe [500] [] (A4.A2 (want := true) rfl rfl rfl rfl rfl) <| oe [501] [] (A4.A2 (want := true) rfl rfl rfl rfl rfl) <| oe [502] [] (A4.A2 (want := true) rfl rfl rfl rfl rfl) <| oe [503] [] (A4.A2 (want := true) rfl rfl rfl rfl rfl) <| ov [504] (Bd rfl q0 qb) <| ov [500] (Ak q0) .nil) fun _ a w h => ?_
      exact ⟨false, hF, h.sub [0] (by rfl)⟩
  · clear h hF
    rintro a w ⟨x2, hF, h⟩
    unfold Dv.j1 at hF
    show Code.wp Tryd.prog _ _ a w
    refine wp_ret ?_
    obtain rfl := Option.some.inj hF
    exact ⟨.inl rfl, Cv h Tryd.results16 (By 0 rfl) [] [] rfl rfl rfl⟩

def C9.j1 (x6 : Bool) : Option Bool := some x6
def C9 (a_0 : AK) : Option Bool := ((BM a_0.Ae).bind fun r2 => (if r2 = true then ((Bz a_0.Al).bind fun r3 => (if r3 = true then ((Dw a_0.Ad).bind fun r4 => (if r4 = true then ((Dv a_0.Aa).bind fun r5 => (if r5 = true then C9.j1 (decide ((a_0.AZ.length : Int) ≤ (200 : Int))) else C9.j1 false)) else C9.j1 false)) else C9.j1 false)) else C9.j1 false))
theorem GJ {a_0 : AK} {r : Bool} (hF : C9 a_0 = some r) : AX Tryd.prog KG 6 [(Co [one (Ab .u32 a_0.BS), one (Ab .u64 a_0.Ae.AR), one (Ab .u64 a_0.Ae.A6), one (Ab .u64 a_0.Ae.Bn), one (Ai Aq.ck a_0.Ae.Ao), one (Ai Ap.ck a_0.Ae.AD), one (Ai Aw.ck a_0.Al.At), one (Ai Ar.ck a_0.Al.Am), one (Ab .u32 a_0.Ad.AB), Af 32 a_0.Ad.As, one (Ab .u32 a_0.Ad.AJ.A1), A5 32 32 (dC 32) (AY 32) a_0.Ad.AJ.AI, one (Ai (dC 32) a_0.Ad.AP), one (Ai (dC 32) a_0.Ad.AW), Af 32 a_0.Ad.Aj, one (Ai AA.ck a_0.Ad.AS), one (Ab .u64 a_0.Ad.A8), one (An a_0.Ad.Au), one (Ab .u32 a_0.Aa.AB), one (Ab .u32 a_0.Aa.A7), Af 32 a_0.Aa.As, one (Ai (dC 32) a_0.Aa.AG), one (Ab .u64 a_0.Aa.AQ), Af 32 a_0.Aa.Aj, one (Ai Ay.ck a_0.Aa.AT), one (Ai Av.ck a_0.Aa.Az), one (An a_0.Aa.Au), one (An a_0.Aa.Bh), one (AF a_0.AZ)])] [] (fun _ => []) (An r) := by
  refine AX.intro 27 Tryd.func6 rfl Tryd.ntmps6 (Nat.le_of_ble_eq_true rfl) ?_
  intro c a w hG hn h
  unfold C9 at hF
  change A0 c [.slot 0 (Co [one (Ab .u32 a_0.BS), one (Ab .u64 a_0.Ae.AR), one (Ab .u64 a_0.Ae.A6), one (Ab .u64 a_0.Ae.Bn), one (Ai Aq.ck a_0.Ae.Ao), one (Ai Ap.ck a_0.Ae.AD), one (Ai Aw.ck a_0.Al.At), one (Ai Ar.ck a_0.Al.Am), one (Ab .u32 a_0.Ad.AB), Af 32 a_0.Ad.As, one (Ab .u32 a_0.Ad.AJ.A1), A5 32 32 (dC 32) (AY 32) a_0.Ad.AJ.AI, one (Ai (dC 32) a_0.Ad.AP), one (Ai (dC 32) a_0.Ad.AW), Af 32 a_0.Ad.Aj, one (Ai AA.ck a_0.Ad.AS), one (Ab .u64 a_0.Ad.A8), one (An a_0.Ad.Au), one (Ab .u32 a_0.Aa.AB), one (Ab .u32 a_0.Aa.A7), Af 32 a_0.Aa.As, one (Ai (dC 32) a_0.Aa.AG), one (Ab .u64 a_0.Aa.AQ), Af 32 a_0.Aa.Aj, one (Ai Ay.ck a_0.Aa.AT), one (Ai Av.ck a_0.Aa.Az), one (An a_0.Aa.Au), one (An a_0.Aa.Bh), one (AF a_0.AZ)])] a w at h
  refine AU mixed hn hG h [502, 501] (ob [0] (DL q0 (BD _)) <| ov [] (Ak qb) .nil) fun b1 a w h => ?_
  refine wp_seq ?_
  obtain ⟨r2, hr2, hF⟩ := bind_some hF
  refine BY (fun a w => ∃ (x6 : Bool), C9.j1 x6 = some r ∧ A0 c [.slot 2 (An x6)] a w) ?_ ?_
  · rcases Bool.eq_false_or_eq_true r2 with hb7 | hb7
    · replace hF := CZ hb7 hF
      obtain ⟨r3, hr3, hF⟩ := bind_some hF
      rcases Bool.eq_false_or_eq_true r3 with hb8 | hb8
      · replace hF := CZ hb8 hF
        obtain ⟨r4, hr4, hF⟩ := bind_some hF
        rcases Bool.eq_false_or_eq_true r4 with hb9 | hb9
        · replace hF := CZ hb9 hF
          obtain ⟨r5, hr5, hF⟩ := bind_some hF
          rcases Bool.eq_false_or_eq_true r5 with hb10 | hb10
          · replace hF := CZ hb10 hF
            refine CK mixed hn hG h [500] (ov [0] (Ah (p := (b1 0)) (n := 5) 0 1 Tryd.underlying46 rfl Tryd.sizeOf27 (by decide) q0 rfl) <| ov [500, 1] (B0 [one (Ab .u32 a_0.BS)] [one (Ab .u64 a_0.Ae.AR), one (Ab .u64 a_0.Ae.A6), one (Ab .u64 a_0.Ae.Bn), one (Ai Aq.ck a_0.Ae.Ao), one (Ai Ap.ck a_0.Ae.AD)] [one (Ai Aw.ck a_0.Al.At), one (Ai Ar.ck a_0.Al.Am), one (Ab .u32 a_0.Ad.AB), Af 32 a_0.Ad.As, one (Ab .u32 a_0.Ad.AJ.A1), A5 32 32 (dC 32) (AY 32) a_0.Ad.AJ.AI, one (Ai (dC 32) a_0.Ad.AP), one (Ai (dC 32) a_0.Ad.AW), Af 32 a_0.Ad.Aj, one (Ai AA.ck a_0.Ad.AS), one (Ab .u64 a_0.Ad.A8), one (An a_0.Ad.Au), one (Ab .u32 a_0.Aa.AB), one (Ab .u32 a_0.Aa.A7), Af 32 a_0.Aa.As, one (Ai (dC 32) a_0.Aa.AG), one (Ab .u64 a_0.Aa.AQ), Af 32 a_0.Aa.Aj, one (Ai Ay.ck a_0.Aa.AT), one (Ai Av.ck a_0.Aa.Az), one (An a_0.Aa.Au), one (An a_0.Aa.Bh), one (AF a_0.AZ)] 1 Tryd.isAgg27 Tryd.sizeOf27 q0 rfl rfl rfl) <| oc [500] [] Tryd.call13 (Em hr2) ⟨q0, trivial⟩ <| ov [500] (Ag q0) <| oe [500, 0] [] (A4.AN hb7 rfl rfl rfl (Ah (p := (b1 0)) (n := 2) 0 6 Tryd.underlying46 rfl Tryd.sizeOf31 (by decide) q0 rfl)) <| oe [501, 500, 1] [] (A4.AN hb7 rfl rfl rfl (B0 [one (Ab .u32 a_0.BS), one (Ab .u64 a_0.Ae.AR), one (Ab .u64 a_0.Ae.A6), one (Ab .u64 a_0.Ae.Bn), one (Ai Aq.ck a_0.Ae.Ao), one (Ai Ap.ck a_0.Ae.AD)] [one (Ai Aw.ck a_0.Al.At), one (Ai Ar.ck a_0.Al.Am)] [one (Ab .u32 a_0.Ad.AB), Af 32 a_0.Ad.As, one (Ab .u32 a_0.Ad.AJ.A1), A5 32 32 (dC 32) (AY 32) a_0.Ad.AJ.AI, one (Ai (dC 32) a_0.Ad.AP), one (Ai (dC 32) a_0.Ad.AW), Af 32 a_0.Ad.Aj, one (Ai AA.ck a_0.Ad.AS), one (Ab .u64 a_0.Ad.A8), one (An a_0.Ad.Au), one (Ab .u32 a_0.Aa.AB), one (Ab .u32 a_0.Aa.A7), Af 32 a_0.Aa.As, one (Ai (dC 32) a_0.Aa.AG), one (Ab .u64 a_0.Aa.AQ), Af 32 a_0.Aa.Aj, one (Ai Ay.ck a_0.Aa.AT), one (Ai Av.ck a_0.Aa.Az), one (An a_0.Aa.Au), one (An a_0.Aa.Bh), one (AF a_0.AZ)] 1 Tryd.isAgg31 Tryd.sizeOf31 q0 rfl rfl rfl)) <| oe [502, 500] [] (A4.AN hb7 rfl rfl rfl (CL Tryd.call14 (EK hr3) ⟨q0, trivial⟩)) <| ov [503, 500] (Bj hb7 q0 q1) <| ov [500] (Ag q0) <| oe [500, 0] [] (A4.AN hb8 rfl rfl rfl (Ah (p := (b1 0)) (n := 1095) 0 8 Tryd.underlying46 rfl Tryd.sizeOf40 (by decide) q0 rfl)) <| oe [501, 500, 1] [] (A4.AN hb8 rfl rfl rfl (B0 [one (Ab .u32 a_0.BS), one (Ab .u64 a_0.Ae.AR), one (Ab .u64 a_0.Ae.A6), one (Ab .u64 a_0.Ae.Bn), one (Ai Aq.ck a_0.Ae.Ao), one (Ai Ap.ck a_0.Ae.AD), one (Ai Aw.ck a_0.Al.At), one (Ai Ar.ck a_0.Al.Am)] [one (Ab .u32 a_0.Ad.AB), Af 32 a_0.Ad.As, one (Ab .u32 a_0.Ad.AJ.A1), A5 32 32 (dC 32) (AY 32) a_0.Ad.AJ.AI, one (Ai (dC 32) a_0.Ad.AP), one (Ai (dC 32) a_0.Ad.AW), Af 32 a_0.Ad.Aj, one (Ai AA.ck a_0.Ad.AS), one (Ab .u64 a_0.Ad.A8), one (An a_0.Ad.Au)] [one (Ab .u32 a_0.Aa.AB), one (Ab .u32 a_0.Aa.A7), Af 32 a_0.Aa.As, one (Ai (dC 32) a_0.Aa.AG), one (Ab .u64 a_0.Aa.AQ), Af 32 a_0.Aa.Aj, one (Ai Ay.ck a_0.Aa.AT), one (Ai Av.ck a_0.Aa.Az), one (An a_0.Aa.Au), one (An a_0.Aa.Bh), one (AF a_0.AZ)] 1 Tryd.isAgg40 Tryd.sizeOf40 q0 rfl rfl (by simp only [CQ, CP, one, Af, A5, B1]))) <| oe [502, 500] [] (A4.AN hb8 rfl rfl rfl (CL Tryd.call15 (Fq hr4) ⟨q0, trivial⟩)) <| ov [503, 500] (Bj hb8 q0 q1) <| ov [500] (Ag q0) <| oe [500, 0] [] (A4.AN hb9 rfl rfl rfl (Ah (p := (b1 0)) (n := 72) 0 1103 Tryd.underlying46 rfl Tryd.sizeOf44 (by decide) q0 rfl)) <| oe [501, 500, 1] [] (A4.AN hb9 rfl rfl rfl (B0 [one (Ab .u32 a_0.BS), one (Ab .u64 a_0.Ae.AR), one (Ab .u64 a_0.Ae.A6), one (Ab .u64 a_0.Ae.Bn), one (Ai Aq.ck a_0.Ae.Ao), one (Ai Ap.ck a_0.Ae.AD), one (Ai Aw.ck a_0.Al.At), one (Ai Ar.ck a_0.Al.Am), one (Ab .u32 a_0.Ad.AB), Af 32 a_0.Ad.As, one (Ab .u32 a_0.Ad.AJ.A1), A5 32 32 (dC 32) (AY 32) a_0.Ad.AJ.AI, one (Ai (dC 32) a_0.Ad.AP), one (Ai (dC 32) a_0.Ad.AW), Af 32 a_0.Ad.Aj, one (Ai AA.ck a_0.Ad.AS), one (Ab .u64 a_0.Ad.A8), one (An a_0.Ad.Au)] [one (Ab .u32 a_0.Aa.AB), one (Ab .u32 a_0.Aa.A7), Af 32 a_0.Aa.As, one (Ai (dC 32) a_0.Aa.AG), one (Ab .u64 a_0.Aa.AQ), Af 32 a_0.Aa.Aj, one (Ai Ay.ck a_0.Aa.AT), one (Ai Av.ck a_0.Aa.Az), one (An a_0.Aa.Au), one (An a_0.Aa.Bh)] [one (AF a_0.AZ)] 1 Tryd.isAgg44 Tryd.sizeOf44 q0 rfl (by simp only [CQ, CP, one, Af, A5, B1]) rfl)) <| oe [502, 500] [] (A4.AN hb9 rfl rfl rfl (CL Tryd.call16 (GK hr5) ⟨q0, trivial⟩)) <| ov [503, 500] (Bj hb9 q0 q1) <| ov [500] (Ag q0) <| oe [500, 0] [] (A4.AN hb10 rfl rfl rfl (Ah (p := (b1 0)) (n := 1) 0 1175 Tryd.underlying46 rfl Tryd.sizeOf9 (by decide) q0 rfl)) <| oe [501, 500, 1] [] (A4.AN hb10 rfl rfl rfl (AE [one (Ab .u32 a_0.BS), one (Ab .u64 a_0.Ae.AR), one (Ab .u64 a_0.Ae.A6), one (Ab .u64 a_0.Ae.Bn), one (Ai Aq.ck a_0.Ae.Ao), one (Ai Ap.ck a_0.Ae.AD), one (Ai Aw.ck a_0.Al.At), one (Ai Ar.ck a_0.Al.Am), one (Ab .u32 a_0.Ad.AB), Af 32 a_0.Ad.As, one (Ab .u32 a_0.Ad.AJ.A1), A5 32 32 (dC 32) (AY 32) a_0.Ad.AJ.AI, one (Ai (dC 32) a_0.Ad.AP), one (Ai (dC 32) a_0.Ad.AW), Af 32 a_0.Ad.Aj, one (Ai AA.ck a_0.Ad.AS), one (Ab .u64 a_0.Ad.A8), one (An a_0.Ad.Au), one (Ab .u32 a_0.Aa.AB), one (Ab .u32 a_0.Aa.A7), Af 32 a_0.Aa.As, one (Ai (dC 32) a_0.Aa.AG), one (Ab .u64 a_0.Aa.AQ), Af 32 a_0.Aa.Aj, one (Ai Ay.ck a_0.Aa.AT), one (Ai Av.ck a_0.Aa.Az), one (An a_0.Aa.Au), one (An a_0.Aa.Bh)] [] 1 Tryd.isAgg9 q0 rfl (by simp only [CQ, CP, one, Af, A5, B1]))) <| oe [502, 500] [] (A4.AN hb10 rfl rfl rfl (CU Tryd.underlying9 q0)) <| oe [503, 500] [] (A4.AN hb10 rfl rfl rfl (Ax Cj q0 qi)) <| ov [504, 500] (Bj hb10 q0 q1) <| ov [500] (Ak q0) .nil) fun _ a w h => ?_
            exact ⟨decide ((a_0.AZ.length : Int) ≤ (200 : Int)), hF, h.sub [0] (by rfl)⟩
          · replace hF := C0 hb10 hF
            refine CK mixed hn hG h [500] (ov [0] (Ah (p := (b1 0)) (n := 5) 0 1 Tryd.underlying46 rfl Tryd.sizeOf27 (by decide) q0 rfl) <| ov [500, 1] (B0 [one (Ab .u32 a_0.BS)] [one (Ab .u64 a_0.Ae.AR), one (Ab .u64 a_0.Ae.A6), one (Ab .u64 a_0.Ae.Bn), one (Ai Aq.ck a_0.Ae.Ao), one (Ai Ap.ck a_0.Ae.AD)] [one (Ai Aw.ck a_0.Al.At), one (Ai Ar.ck a_0.Al.Am), one (Ab .u32 a_0.Ad.AB), Af 32 a_0.Ad.As, one (Ab .u32 a_0.Ad.AJ.A1), A5 32 32 (dC 32) (AY 32) a_0.Ad.AJ.AI, one (Ai (dC 32) a_0.Ad.AP), one (Ai (dC 32) a_0.Ad.AW), Af 32 a_0.Ad.Aj, one (Ai AA.ck a_0.Ad.AS), one (Ab .u64 a_0.Ad.A8), one (An a_0.Ad.Au), one (Ab .u32 a_0.Aa.AB), one (Ab .u32 a_0.Aa.A7), Af 32 a_0.Aa.As, one (Ai (dC 32) a_0.Aa.AG), one (Ab .u64 a_0.Aa.AQ), Af 32 a_0.Aa.Aj, one (Ai Ay.ck a_0.Aa.AT), one (Ai Av.ck a_0.Aa.Az), one (An a_0.Aa.Au), one (An a_0.Aa.Bh), one (AF a_0.AZ)] 1 Tryd.isAgg27 Tryd.sizeOf27 q0 rfl rfl rfl) <| oc [500] [] Tryd.call13 (Em hr2) ⟨q0, trivial⟩ <| ov [500] (Ag q0) <| oe [500, 0] [] (A4.AN hb7 rfl rfl rfl (Ah (p := (b1 0)) (n := 2) 0 6 Tryd.underlying46 rfl Tryd.sizeOf31 (by decide) q0 rfl)) <| oe [501, 500, 1] [] (A4.AN hb7 rfl rfl rfl (B0 [one (Ab .u32 a_0.BS), one (Ab .u64 a_0.Ae.AR), one (Ab .u64 a_0.Ae.A6), one (Ab .u64 a_0.Ae.Bn), one (Ai Aq.ck a_0.Ae.Ao), one (Ai Ap.ck a_0.Ae.AD)] [one (Ai Aw.ck a_0.Al.At), one (Ai Ar.ck a_0.Al.Am)] [one (Ab .u32 a_0.Ad.AB), Af 32 a_0.Ad.As, one (Ab .u32 a_0.Ad.AJ.A1), A5 32 32 (dC 32) (AY 32) a_0.Ad.AJ.AI, one (Ai (dC 32) a_0.Ad.AP), one (Ai (dC 32) a_0.Ad.AW), Af 32 a_0.Ad.Aj, one (Ai AA.ck a_0.Ad.AS), one (Ab .u64 a_0.Ad.A8), one (An a_0.Ad.Au), one (Ab .u32 a_0.Aa.AB), one (Ab .u32 a_0.Aa.A7), Af 32 a_0.Aa.As, one (Ai (dC 32) a_0.Aa.AG), one (Ab .u64 a_0.Aa.AQ), Af 32 a_0.Aa.Aj, one (Ai Ay.ck a_0.Aa.AT), one (Ai Av.ck a_0.Aa.Az), one (An a_0.Aa.Au), one (An a_0.Aa.Bh), one (AF a_0.AZ)] 1 Tryd.isAgg31 Tryd.sizeOf31 q0 rfl rfl rfl)) <| oe [502, 500] [] (A4.AN hb7 rfl rfl rfl (CL Tryd.call14 (EK hr3) ⟨q0, trivial⟩)) <| ov [503, 500] (Bj hb7 q0 q1) <| ov [500] (Ag q0) <| oe [500, 0] [] (A4.AN hb8 rfl rfl rfl (Ah (p := (b1 0)) (n := 1095) 0 8 Tryd.underlying46 rfl Tryd.sizeOf40 (by decide) q0 rfl)) <| oe [501, 500, 1] [] (A4.AN hb8 rfl rfl rfl (B0 [one (Ab .u32 a_0.BS), one (Ab .u64 a_0.Ae.AR), one (Ab .u64 a_0.Ae.A6), one (Ab .u64 a_0.Ae.Bn), one (Ai Aq.ck a_0.Ae.Ao), one (Ai Ap.ck a_0.Ae.AD), one (Ai Aw.ck a_0.Al.At), one (Ai Ar.ck a_0.Al.Am)] [one (Ab .u32 a_0.Ad.AB), Af 32 a_0.Ad.As, one (Ab .u32 a_0.Ad.AJ.A1), A5 32 32 (dC 32) (AY 32) a_0.Ad.AJ.AI, one (Ai (dC 32) a_0.Ad.AP), one (Ai (dC 32) a_0.Ad.AW), Af 32 a_0.Ad.Aj, one (Ai AA.ck a_0.Ad.AS), one (Ab .u64 a_0.Ad.A8), one (An a_0.Ad.Au)] [one (Ab .u32 a_0.Aa.AB), one (Ab .u32 a_0.Aa.A7), Af 32 a_0.Aa.As, one (Ai (dC 32) a_0.Aa.AG), one (Ab .u64 a_0.Aa.AQ), Af 32 a_0.Aa.Aj, one (Ai Ay.ck a_0.Aa.AT), one (Ai Av.ck a_0.Aa.Az), one (An a_0.Aa.Au), one (An a_0.Aa.Bh), one (AF a_0.AZ)] 1 Tryd.isAgg40 Tryd.sizeOf40 q0 rfl rfl (by simp only [CQ, CP, one, Af, A5, B1]))) <| oe [502, 500] [] (A4.AN hb8 rfl rfl rfl (CL Tryd.call15 (Fq hr4) ⟨q0, trivial⟩)) <| ov [503, 500] (Bj hb8 q0 q1) <| ov [500] (Ag q0) <| oe [500, 0] [] (A4.AN hb9 rfl rfl rfl (Ah (p := (b1 0)) (n := 72) 0 1103 Tryd.underlying46 rfl Tryd.sizeOf44 (by decide) q0 rfl)) <| oe [501, 500, 1] [] (A4.AN hb9 rfl rfl rfl (B0 [one (Ab .u32 a_0.BS), one (Ab .u64 a_0.Ae.AR), one (Ab .u64 a_0.Ae.A6), one (Ab .u64 a_0.Ae.Bn), one (Ai Aq.ck a_0.Ae.Ao), one (Ai Ap.ck a_0.Ae.AD), one (Ai Aw.ck a_0.Al.At), one (Ai Ar.ck a_0.Al.Am), one (Ab .u32 a_0.Ad.AB), Af 32 a_0.Ad.As, one (Ab .u32 a_0.Ad.AJ.A1), A5 32 32 (dC 32) (AY 32) a_0.Ad.AJ.AI, one (Ai (dC 32) a_0.Ad.AP), one (Ai (dC 32) a_0.Ad.AW), Af 32 a_0.Ad.Aj, one (Ai AA.ck a_0.Ad.AS), one (Ab .u64 a_0.Ad.A8), one (An a_0.Ad.Au)] [one (Ab .u32 a_0.Aa.AB), one (Ab .u32 a_0.Aa.A7), Af 32 a_0.Aa.As, one (Ai (dC 32) a_0.Aa.AG), one (Ab .u64 a_0.Aa.AQ), Af 32 a_0.Aa.Aj, one (Ai Ay.ck a_0.Aa.AT), one (Ai Av.ck a_0.Aa.Az), one (An a_0.Aa.Au), one (An a_0.Aa.Bh)] [one (AF a_0.AZ)] 1 Tryd.isAgg44 Tryd.sizeOf44 q0 rfl (by simp only [CQ, CP, one, Af, A5, B1]) rfl)) <| oe [502, 500] [] (A4.AN hb9 rfl rfl rfl (CL Tryd.call16 (GK hr5) ⟨q0, trivial⟩)) <| ov [503, 500] (Bj hb9 q0 q1) <| ov [500] (Ag q0) <| oe [500] [] (A4.A2 (want := true) hb10 rfl rfl rfl rfl) <| oe [501] [] (A4.A2 (want := true) hb10 rfl rfl rfl rfl) <| oe [502] [] (A4.A2 (want := true) hb10 rfl rfl rfl rfl) <| oe [503] [] (A4.A2 (want := true) hb10 rfl rfl rfl rfl) <| ov [504] (Bd hb10 q0 qb) <| ov [500] (Ak q0) .nil) fun _ a w h => ?_
            exact ⟨false, hF, h.sub [0] (by rfl)⟩
        · replace hF := C0 hb9 hF
          refine CK mixed hn hG h [500] (ov [0] (Ah (p := (b1 0)) (n := 5) 0 1 Tryd.underlying46 rfl Tryd.sizeOf27 (by decide) q0 rfl) <| ov [500, 1] (B0 [one (Ab .u32 a_0.BS)] [one (Ab .u64 a_0.Ae.AR), one (Ab .u64 a_0.Ae.A6), one (Ab .u64 a_0.Ae.Bn), one (Ai Aq.ck a_0.Ae.Ao), one (Ai Ap.ck a_0.Ae.AD)] [one (Ai Aw.ck a_0.Al.At), one (Ai Ar.ck a_0.Al.Am), one (Ab .u32 a_0.Ad.AB), Af 32 a_0.Ad.As, one (Ab .u32 a_0.Ad.AJ.A1), A5 32 32 (dC 32) (AY 32) a_0.Ad.AJ.AI, one (Ai (dC 32) a_0.Ad.AP), one (Ai (dC 32) a_0.Ad.AW), Af 32 a_0.Ad.Aj, one (Ai AA.ck a_0.Ad.AS), one (Ab .u64 a_0.Ad.A8), one (An a_0.Ad.Au), one (Ab .u32 a_0.Aa.AB), one (Ab .u32 a_0.Aa.A7), Af 32 a_0.Aa.As, one (Ai (dC 32) a_0.Aa.AG), one (Ab .u64 a_0.Aa.AQ), Af 32 a_0.Aa.Aj, one (Ai Ay.ck a_0.Aa.AT), one (Ai Av.ck a_0.Aa.Az), one (An a_0.Aa.Au), one (An a_0.Aa.Bh), one (AF a_0.AZ)] 1 Tryd.isAgg27 Tryd.sizeOf27 q0 rfl rfl rfl) <| oc [500] [] Tryd.call13 (Em hr2) ⟨q0, trivial⟩ <| ov [500] (Ag q0) <| oe [500, 0] [] (A4.AN hb7 rfl rfl rfl (Ah (p := (b1 0)) (n := 2) 0 6 Tryd.underlying46 rfl Tryd.sizeOf31 (by decide) q0 rfl)) <| oe [501, 500, 1] [] (A4.AN hb7 rfl rfl rfl (B0 [one (Ab .u32 a_0.BS), one (Ab .u64 a_0.Ae.AR), one (Ab .u64 a_0.Ae.A6), one (Ab .u64 a_0.Ae.Bn), one (Ai Aq.ck a_0.Ae.Ao), one (Ai Ap.ck a_0.Ae.AD)] [one (Ai Aw.ck a_0.Al.At), one (Ai Ar.ck a_0.Al.Am)] [one (Ab .u32 a_0.Ad.AB), Af 32 a_0.Ad.As, one (Ab .u32 a_0.Ad.AJ.A1), A5 32 32 (dC 32) (AY 32) a_0.Ad.AJ.AI, one (Ai (dC 32) a_0.Ad.AP), one (Ai (dC 32) a_0.Ad.AW), Af 32 a_0.Ad.Aj, one (Ai AA.ck a_0.Ad.AS), one (Ab .u64 a_0.Ad.A8), one (An a_0.Ad.Au), one (Ab .u32 a_0.Aa.AB), one (Ab .u32 a_0.Aa.A7), Af 32 a_0.Aa.As, one (Ai (dC 32) a_0.Aa.AG), one (Ab .u64 a_0.Aa.AQ), Af 32 a_0.Aa.Aj, one (Ai Ay.ck a_0.Aa.AT), one (Ai Av.ck a_0.Aa.Az), one (An a_0.Aa.Au), one (An a_0.Aa.Bh), one (AF a_0.AZ)] 1 Tryd.isAgg31 Tryd.sizeOf31 q0 rfl rfl rfl)) <| oe [502, 500] [] (A4.AN hb7 rfl rfl rfl (CL Tryd.call14 (EK hr3) ⟨q0, trivial⟩)) <| ov [503, 500] (Bj hb7 q0 q1) <| ov [500] (Ag q0) <| oe [500, 0] [] (A4.AN hb8 rfl rfl rfl (Ah (p := (b1 0)) (n := 1095) 0 8 Tryd.underlying46 rfl Tryd.sizeOf40 (by decide) q0 rfl)) <| oe [501, 500, 1] [] (A4.AN hb8 rfl rfl rfl (B0 [one (Ab .u32 a_0.BS), one (Ab .u64 a_0.Ae.AR), one (Ab .u64 a_0.Ae.A6), one (Ab .u64 a_0.Ae.Bn), one (Ai Aq.ck a_0.Ae.Ao), one (Ai Ap.ck a_0.Ae.AD), one (Ai Aw.ck a_0.Al.At), one (Ai Ar.ck a_0.Al.Am)] [one (Ab .u32 a_0.Ad.AB), Af 32 a_0.Ad.As, one (Ab .u32 a_0.Ad.AJ.A1), A5 32 32 (dC 32) (AY 32) a_0.Ad.AJ.AI, one (Ai (dC 32) a_0.Ad.AP), one (Ai (dC 32) a_0.Ad.AW), Af 32 a_0.Ad.Aj, one (Ai AA.ck a_0.Ad.AS), one (Ab .u64 a_0.Ad.A8), one (An a_0.Ad.Au)] [one (Ab .u32 a_0.Aa.AB), one (Ab .u32 a_0.Aa.A7), Af 32 a_0.Aa.As, one (Ai (dC 32) a_0.Aa.AG), one (Ab .u64 a_0.Aa.AQ), Af 32 a_0.Aa.Aj, one (Ai Ay.ck a_0.Aa.AT), one (Ai Av.ck a_0.Aa.Az), one (An a_0.Aa.Au), one (An a_0.Aa.Bh), one (AF a_0.AZ)] 1 Tryd.isAgg40 Tryd.sizeOf40 q0 rfl rfl (by simp only [CQ, CP, one, Af, A5, B1]))) <| oe [502, 500] [] (A4.AN hb8 rfl rfl rfl (CL Tryd.call15 (Fq hr4) ⟨q0, trivial⟩)) <| ov [503, 500] (Bj hb8 q0 q1) <| ov [500] (Ag q0) <| oe [500] [] (A4.A2 (want := true) hb9 rfl rfl rfl rfl) <| oe [501] [] (A4.A2 (want := true) hb9 rfl rfl rfl rfl) <| oe [502] [] (A4.A2 (want := true) hb9 rfl rfl rfl rfl) <| ov [503] (Bd hb9 q0 qb) <| ov [500] (Ag q0) <| oe [500] [] (A4.A2 (want := true) rfl rfl rfl rfl rfl) <| oe [501] [] (A4.A2 (want := true) rfl rfl rfl rfl rfl) <| oe [502] [] (A4.A2 (want := true) rfl rfl rfl rfl rfl) <| oe [503] [] (A4.A2 (want := true) rfl rfl rfl rfl rfl) <| ov [504] (Bd rfl q0 qb) <| ov [500] (Ak q0) .nil) fun _ a w h => ?_
          exact ⟨false, hF, h.sub [0] (by rfl)⟩
      · replace hF := C0 hb8 hF
        refine CK mixed hn hG h [500] (ov [0] (Ah (p := (b1 0)) (n := 5) 0 1 Tryd.underlying46 rfl Tryd.sizeOf27 (by decide) q0 rfl) <| ov [500, 1] (B0 [one (Ab .u32 a_0.BS)] [one (Ab .u64 a_0.Ae.AR), one (Ab .u64 a_0.Ae.A6), one (Ab .u64 a_0.Ae.Bn), one (Ai Aq.ck a_0.Ae.Ao), one (Ai Ap.ck a_0.Ae.AD)] [one (Ai Aw.ck a_0.Al.At), one (Ai Ar.ck a_0.Al.Am), one (Ab .u32 a_0.Ad.AB), Af 32 a_0.Ad.As, one (Ab .u32 a_0.Ad.AJ.A1), A5 32 32 (dC 32) (AY 32) a_0.Ad.AJ.AI, one (Ai (dC 32) a_0.Ad.AP), one (Ai (dC 32) a_0.Ad.AW), Af 32 a_0.Ad.Aj, one (Ai AA.ck a_0.Ad.AS), one (Ab .u64 a_0.Ad.A8), one (An a_0.Ad.Au), one (Ab .u32 a_0.Aa.AB), one (Ab .u32 a_0.Aa.A7), Af 32 a_0.Aa.As, one (Ai (dC 32) a_0.Aa.AG), one (Ab .u64 a_0.Aa.AQ), Af 32 a_0.Aa.Aj, one (Ai Ay.ck a_0.Aa.AT), one (Ai Av.ck a_0.Aa.Az), one (An a_0.Aa.Au), one (An a_0.Aa.Bh), one (AF a_0.AZ)] 1 Tryd.isAgg27 Tryd.sizeOf27 q0 rfl rfl rfl) <| oc [500] [] Tryd.call13 (Em hr2) ⟨q0, trivial⟩ <| ov [500] (Ag q0) <| oe [500, 0] [] (A4.AN hb7 rfl rfl rfl (Ah (p := (b1 0)) (n := 2) 0 6 Tryd.underlying46 rfl Tryd.sizeOf31 (by decide) q0 rfl)) <| oe [501, 500, 1] [] (A4.AN hb7 rfl rfl rfl (B0 [one (Ab .u32 a_0.BS), one (Ab .u64 a_0.Ae.AR), one (Ab .u64 a_0.Ae.A6), one (Ab .u64 a_0.Ae.Bn), one (Ai Aq.ck a_0.Ae.Ao), one (Ai Ap.ck a_0.Ae.AD)] [one (Ai Aw.ck a_0.Al.At), one (Ai Ar.ck a_0.Al.Am)] [one (Ab .u32 a_0.Ad.AB), Af 32 a_0.Ad.As, one (Ab .u32 a_0.Ad.AJ.A1), A5 32 32 (dC 32) (AY 32) a_0.Ad.AJ.AI, one (Ai (dC 32) a_0.Ad.AP), one (Ai (dC 32) a_0.Ad.AW), Af 32 a_0.Ad.Aj, one (Ai AA.ck a_0.Ad.AS), one (Ab .u64 a_0.Ad.A8), one (An a_0.Ad.Au), one (Ab .u32 a_0.Aa.AB), one (Ab .u32 a_0.Aa.A7), Af 32 a_0.Aa.As, one (Ai (dC 32) a_0.Aa.AG), one (Ab .u64 a_0.Aa.AQ), Af 32 a_0.Aa.Aj, one (Ai Ay.ck a_0.Aa.AT), one (Ai Av.ck a_0.Aa.Az), one (An a_0.Aa.Au), one (An a_0.Aa.Bh), one (AF a_0.AZ)] 1 Tryd.isAgg31 Tryd.sizeOf31 q0 rfl rfl rfl)) <| oe [502, 500] [] (A4.AN hb7 rfl rfl rfl (CL Tryd.call14 (EK hr3) ⟨q0, trivial⟩)) <| ov [503, 500] (Bj hb7 q0 q1) <| ov [500] (Ag q0) <| oe [500] [] (A4.A2 (want := true) hb8 rfl rfl rfl rfl) <| oe [501] [] (A4.A2 (want := true) hb8 rfl rfl rfl rfl) <| oe [502] [] (A4.A2 (want := true) hb8 rfl rfl rfl rfl) <| ov [503] (Bd hb8 q0 qb) <| ov [500] (Ag q0) <| oe [500] [] (A4.A2 (want := true) rfl rfl rfl rfl rfl) <| oe [501] [] (A4.A2 (want := true) rfl rfl rfl rfl rfl) <| oe [502] [] (A4.A2 (want := true) rfl rfl rfl rfl rfl) <| ov [503] (Bd rfl q0 qb) <| ov [500] (Ag q0) <| oe [500] [] (A4.A2 (want := true) rfl rfl rfl rfl rfl) <| oe [501] [] (A4.A2 (want := true) rfl rfl rfl rfl rfl) <| oe [502] [] (A4.A2 (want := true) rfl rfl rfl rfl rfl) <| oe [503] [] (A4.A2 (want := true) rfl rfl rfl rfl rfl) <| ov [504] (Bd rfl q0 qb) <| ov [500] (Ak q0) .nil) fun _ a w h => ?_
        exact ⟨false, hF, h.sub [0] (by rfl)⟩
    · replace hF := C0 hb7 hF
      refine CK mixed hn hG h [500] (ov [0] (Ah (p := (b1 0)) (n := 5) 0 1 Tryd.underlying46 rfl Tryd.sizeOf27 (by decide) q0 rfl) <| ov [500, 1] (B0 [one (Ab .u32 a_0.BS)] [one (Ab .u64 a_0.Ae.AR), one (Ab .u64 a_0.Ae.A6), one (Ab .u64 a_0.Ae.Bn), one (Ai Aq.ck a_0.Ae.Ao), one (Ai Ap.ck a_0.Ae.AD)] [one (Ai Aw.ck a_0.Al.At), one (Ai Ar.ck a_0.Al.Am), one (Ab .u32 a_0.Ad.AB), Af 32 a_0.Ad.As, one (Ab .u32 a_0.Ad.AJ.A1), A5 32 32 (dC 32) (AY 32) a_0.Ad.AJ.AI, one (Ai (dC 32) a_0.Ad.AP), one (Ai (dC 32) a_0.Ad.AW), Af 32 a_0.Ad.Aj, one (Ai AA.ck a_0.Ad.AS), one (Ab .u64 a_0.Ad.A8), one (An a_0.Ad.Au), one (Ab .u32 a_0.Aa.AB), one (Ab .u32 a_0.Aa.A7), Af 32 a_0.Aa.As, one (Ai (dC 32) a_0.Aa.AG), one (Ab .u64 a_0.Aa.AQ), Af 32 a_0.Aa.Aj, one (Ai Ay.ck a_0.Aa.AT), one (Ai Av.ck a_0.Aa.Az), one (An a_0.Aa.Au), one (An a_0.Aa.Bh), one (AF a_0.AZ)] 1 Tryd.isAgg27 Tryd.sizeOf27 q0 rfl rfl rfl) <| oc [500] [] Tryd.call13 (Em hr2) ⟨q0, trivial⟩ <| ov [500] (Ag q0) <| oe [500] [] (A4.A2 (want := true) hb7 rfl rfl rfl rfl) <| oe [501] [] (A4.A2 (want := true) hb7 rfl rfl rfl rfl) <| oe [502] [] (A4.A2 (want := true) hb7 rfl rfl rfl rfl) <| ov [503] (Bd hb7 q0 qb) <| ov [500] (Ag q0) <| oe [500] [] (A4.A2 (want := true) rfl rfl rfl rfl rfl) <| oe [501] [] (A4.A2 (want := true) rfl rfl rfl rfl rfl) <| oe [502] [] (A4.A2 (want := true) rfl rfl rfl rfl rfl) <| ov [503] (Bd rfl q0 qb) <| ov [500] (Ag q0) <| oe [500] [] (A4.A2 (want := true) rfl rfl rfl rfl rfl) <| oe [501] [] (A4.A2 (want := true) rfl rfl rfl rfl rfl) <| oe [502] [] (A4.A2 (want := true) rfl rfl rfl rfl rfl) <| ov [503] (Bd rfl q0 qb) <| ov [500] (Ag q0) <| oe [500] [] (A4.A2 (want := true) rfl rfl rfl rfl rfl) <| oe [501] [] (A4.A2 (want := true) rfl rfl rfl rfl rfl) <| oe [502] [] (A4.A2 (want := true) rfl rfl rfl rfl rfl) <| oe [503] [] (A4.A2 (want := true) rfl rfl rfl rfl rfl) <| ov [504] (Bd rfl q0 qb) <| ov [500] (Ak q0) .nil) fun _ a w h => ?_
      exact ⟨false, hF, h.sub [0] (by rfl)⟩
  · clear h hF
    rintro a w ⟨x6, hF, h⟩
    unfold C9.j1 at hF
    show Code.wp Tryd.prog _ _ a w
    refine wp_ret ?_
    obtain rfl := Option.some.inj hF
    exact ⟨.inl rfl, Cv h Tryd.results6 (By 0 rfl) [] [] rfl rfl rfl⟩

def Da.b1 (x3 : Int) (x4 : List UInt8) : Option (Ds (List UInt8) (Int × (List UInt8))) := (if [Dn (IntKind.wrap .u8 (IntKind.wrap .u64 (48 + (x3.tmod 10))))].length + x4.length ≤ Bw then (if (decide ((IntKind.wrap .u64 (x3.tdiv 10)) = (0 : Int))) = true then some (.ret ([Dn (IntKind.wrap .u8 (IntKind.wrap .u64 (48 + (x3.tmod 10))))] ++ x4)) else some (.cont (IntKind.wrap .u64 (x3.tdiv 10), [Dn (IntKind.wrap .u8 (IntKind.wrap .u64 (48 + (x3.tmod 10))))] ++ x4))) else none)
def Da (a_0 : Int) : Option (List UInt8) := ((Cs (fun s : Int × (List UInt8) => Da.b1 s.1 s.2) 100000 (a_0, [])).bind fun cr => match cr with | .ret r => some r | .next (y15, y16) => none)
theorem F4 {a_0 : Int} {r : (List UInt8)} (hF : Da a_0 = some r) : AX Tryd.prog KG 39 [(Ab .u64 a_0)] [] (fun _ => []) (AF r) := by
  refine AX.intro 17 Tryd.func39 rfl Tryd.ntmps39 (Nat.le_of_ble_eq_true rfl) ?_
  intro c a w hG hn h
  unfold Da at hF
  change A0 c [.slot 0 (Ab .u64 a_0)] a w at h
  refine AU mixed hn hG h [0] (ov [] (Ak (B9 (sc _ (by decide)))) .nil) fun _ a w h => ?_
  refine AU mixed hn hG h [0, 500] (ov [] (Ak (B9 (sc _ (by decide)))) .nil) fun _ a w h => ?_
  refine wp_block ?_
  obtain ⟨cr11, hl12, hF⟩ := bind_some hF
  refine wp_mono (Ci (R := (List UInt8)) (S := Int × (List UInt8)) (fun s a w => A0 c [.slot 0 (Ab .u64 s.1), .slot 3 (AF s.2)] a w) (fun res e a w => match res with | .next s => e = .exit 0 ∧ A0 c [] a w | .ret r => e = .ret ∧ DF Tryd.prog Tryd.f39 c (AF r) (fun _ => []) a w) ?_ _ (a_0, []) _ _ _ (h.sub [0, 1] (by rfl)) hl12) ?_
  · clear hl12 hF h
    intro s a w o h hF
    obtain ⟨x3, x4⟩ := s
    change Da.b1 x3 x4 = some o at hF
    unfold Da.b1 at hF
    change A0 c [.slot 0 (Ab .u64 x3), .slot 3 (AF x4)] a w at h
    refine wp_block ?_
    obtain ⟨hv9, hF⟩ := AH hF
    refine AU mixed hn hG h [0, 500] (ov [0] (Ag q0) <| ov [500] (Ax (En (by decide)) q0 qi) <| ov [500] (Ax BC qi q0) <| ov [500] (Bi Tryd.underlying23 Tryd.underlying5 q0) <| ov [500] (El (xs := [.tmp 7]) (ys := [Dn (IntKind.wrap .u8 (IntKind.wrap .u64 (48 + (x3.tmod 10))))]) _ rfl Tryd.underlying62 Tryd.sizeOf5 Tryd.zeroValue5 rfl rfl (by decide) (by decide) ⟨⟨_, q0, (Fg _)⟩, trivial⟩ Fo) <| ov [500] (D1 Tryd.underlying62 Tryd.underlying5 Tryd.underlying9 q0) <| ov [1] (Ag q0) <| ov [501, 500] (Ax (A3 hv9) q0 q1) <| od [500] 1 (Ak q0) .nil) fun _ a w h => ?_
    refine AU mixed hn hG h [500, 1] (ov [0] (Ag q0) <| ov [500] (Ax (GQ (by decide)) q0 qi) <| od [500] 0 (Ak q0) .nil) fun _ a w h => ?_
    refine AU mixed hn hG h [0, 1, 500] (ov [0] (Ag q0) <| ov [500] (Ax B4 q0 qi) .nil) fun _ a w h => ?_
    refine DN h hF 2 [1] [0, 1] (fun hb10 hF h => ?_) (fun hb10 hF h => ?_)
    · refine AU mixed hn hG h [500] (ov [0] (Ag q0) <| ov [500] (Ak q0) .nil) fun _ a w h => ?_
      refine wp_ret ?_
      obtain rfl := Option.some.inj hF
      exact ⟨Hv, rfl, Cv h Tryd.results39 (By 0 rfl) [] [] rfl rfl rfl⟩
    · refine wp_skip ?_
      obtain rfl := Option.some.inj hF
      exact ⟨rfl, h.sub [0, 1] (by rfl)⟩
  · clear hl12
    intro e a w hq
    cases cr11 with
    | ret r13 =>
      obtain ⟨rfl, hq⟩ := hq
      obtain rfl := Option.some.inj hF
      exact ⟨.inl rfl, hq⟩
    | next s14 =>
      obtain ⟨y15, y16⟩ := s14
      obtain ⟨rfl, h⟩ := hq
      change A0 c [] a w at h
      refine BT ?_
      cases hF

def Df (a_0 : Int) : Option (List UInt8) := ((Da a_0).bind fun r1 => some r1)
theorem CM {a_0 : Int} {r : (List UInt8)} (hF : Df a_0 = some r) : AX Tryd.prog KG 24 [(Ab .u64 a_0)] [] (fun _ => []) (AF r) := by
  refine AX.intro 5 Tryd.func24 rfl Tryd.ntmps24 (Nat.le_of_ble_eq_true rfl) ?_
  intro c a w hG hn h
  unfold Df at hF
  change A0 c [.slot 0 (Ab .u64 a_0)] a w at h
  refine AU mixed hn hG h [0] (ov [] (Ak (B9 (sc _ (by decide)))) .nil) fun _ a w h => ?_
  obtain ⟨r1, hr1, hF⟩ := bind_some hF
  refine AU mixed hn hG h [500] (ov [0] (Ag q0) <| oc [500] [] Tryd.call39 (F4 hr1) ⟨q0, trivial⟩ <| ov [500] (Ak q0) .nil) fun _ a w h => ?_
  refine wp_ret ?_
  obtain rfl := Option.some.inj hF
  exact ⟨.inl rfl, Cv h Tryd.results24 (By 0 rfl) [] [] rfl rfl rfl⟩

def B3.j1 (x2 : Bool) : Option Bool := some x2
def B3 (a_0 : List UInt8) (a_1 : Int) (a_2 : Int) (a_3 : Int) : Option Bool := (if (decide (a_1 < (a_0.length : Int))) = true then (if (0 : Int) ≤ a_1 ∧ a_1 < a_0.length then (if (decide (a_2 ≤ ((a_0.getD a_1.toNat 0).toNat : Int))) = true then B3.j1 (decide (((a_0.getD a_1.toNat 0).toNat : Int) ≤ a_3)) else B3.j1 false) else none) else B3.j1 false)
theorem Cc {a_0 : List UInt8} {a_1 : Int} {a_2 : Int} {a_3 : Int} {r : Bool} (hF : B3 a_0 a_1 a_2 a_3 = some r) : AX Tryd.prog KG 81 [(AF a_0), (Ab .i64 a_1), (Ab .u8 a_2), (Ab .u8 a_3)] [] (fun _ => []) (An r) := by
  refine AX.intro 27 Tryd.func81 rfl Tryd.ntmps81 (Nat.le_of_ble_eq_true rfl) ?_
  intro c a w hG hn h
  unfold B3 at hF
  change A0 c [.slot 0 (AF a_0), .slot 1 (Ab .i64 a_1), .slot 2 (Ab .u8 a_2), .slot 3 (Ab .u8 a_3)] a w at h
  refine AU mixed hn hG h [0, 1, 2, 3] (ov [] (Ak qb) .nil) fun _ a w h => ?_
  refine wp_seq ?_
  refine BY (fun a w => ∃ (x2 : Bool), B3.j1 x2 = some r ∧ A0 c [.slot 8 (An x2)] a w) ?_ ?_
  · rcases Bool.eq_false_or_eq_true (decide (a_1 < (a_0.length : Int))) with hb3 | hb3
    · replace hF := CZ hb3 hF
      obtain ⟨hv1, hF⟩ := AH hF
      rcases Bool.eq_false_or_eq_true (decide (a_2 ≤ ((a_0.getD a_1.toNat 0).toNat : Int))) with hb4 | hb4
      · replace hF := CZ hb4 hF
        refine CK mixed hn hG h [500] (ov [1] (Ag q0) <| ov [0] (Ag q0) <| ov [500] (CU Tryd.underlying9 q0) <| ov [502, 500] (Ax B6 q0 q1) <| ov [500] (Ag q0) <| oe [500, 0] [] (A4.AN hb3 rfl rfl rfl (Ag q0)) <| oe [501, 1] [] (A4.AN hb3 rfl rfl rfl (Ag q0)) <| oe [502, 501, 500] [] (A4.AN hb3 rfl rfl rfl (CB Tryd.underlying9 q0 q1 hv1)) <| oe [503, 2] [] (A4.AN hb3 rfl rfl rfl (Ag q0)) <| oe [504, 501, 500] [] (A4.AN hb3 rfl rfl rfl (Ax CW q0 q1)) <| ov [505, 500] (Bj hb3 q0 q1) <| ov [500] (Ag q0) <| oe [500, 0] [] (A4.AN hb4 rfl rfl rfl (Ag q0)) <| oe [501, 1] [] (A4.AN hb4 rfl rfl rfl (Ag q0)) <| oe [502, 501, 500] [] (A4.AN hb4 rfl rfl rfl (CB Tryd.underlying9 q0 q1 hv1)) <| oe [503, 3] [] (A4.AN hb4 rfl rfl rfl (Ag q0)) <| oe [504, 501, 500] [] (A4.AN hb4 rfl rfl rfl (Ax Cj q0 q1)) <| ov [505, 500] (Bj hb4 q0 q1) <| ov [500] (Ak q0) .nil) fun _ a w h => ?_
        exact ⟨decide (((a_0.getD a_1.toNat 0).toNat : Int) ≤ a_3), hF, h.sub [0] (by rfl)⟩
      · replace hF := C0 hb4 hF
        refine CK mixed hn hG h [500] (ov [1] (Ag q0) <| ov [0] (Ag q0) <| ov [500] (CU Tryd.underlying9 q0) <| ov [502, 500] (Ax B6 q0 q1) <| ov [500] (Ag q0) <| oe [500, 0] [] (A4.AN hb3 rfl rfl rfl (Ag q0)) <| oe [501, 1] [] (A4.AN hb3 rfl rfl rfl (Ag q0)) <| oe [502, 501, 500] [] (A4.AN hb3 rfl rfl rfl (CB Tryd.underlying9 q0 q1 hv1)) <| oe [503, 2] [] (A4.AN hb3 rfl rfl rfl (Ag q0)) <| oe [504, 501, 500] [] (A4.AN hb3 rfl rfl rfl (Ax CW q0 q1)) <| ov [505, 500] (Bj hb3 q0 q1) <| ov [500] (Ag q0) <| oe [500] [] (A4.A2 (want := true) hb4 rfl rfl rfl rfl) <| oe [501] [] (A4.A2 (want := true) hb4 rfl rfl rfl rfl) <| oe [502] [] (A4.A2 (want := true) hb4 rfl rfl rfl rfl) <| oe [503] [] (A4.A2 (want := true) hb4 rfl rfl rfl rfl) <| oe [504] [] (A4.A2 (want := true) hb4 rfl rfl rfl rfl) <| ov [505] (Bd hb4 q0 qb) <| ov [500] (Ak q0) .nil) fun _ a w h => ?_
        exact ⟨false, hF, h.sub [0] (by rfl)⟩
    · replace hF := C0 hb3 hF
      refine CK mixed hn hG h [500] (ov [1] (Ag q0) <| ov [0] (Ag q0) <| ov [500] (CU Tryd.underlying9 q0) <| ov [502, 500] (Ax B6 q0 q1) <| ov [500] (Ag q0) <| oe [500] [] (A4.A2 (want := true) hb3 rfl rfl rfl rfl) <| oe [501] [] (A4.A2 (want := true) hb3 rfl rfl rfl rfl) <| oe [502] [] (A4.A2 (want := true) hb3 rfl rfl rfl rfl) <| oe [503] [] (A4.A2 (want := true) hb3 rfl rfl rfl rfl) <| oe [504] [] (A4.A2 (want := true) hb3 rfl rfl rfl rfl) <| ov [505] (Bd hb3 q0 qb) <| ov [500] (Ag q0) <| oe [500] [] (A4.A2 (want := true) rfl rfl rfl rfl rfl) <| oe [501] [] (A4.A2 (want := true) rfl rfl rfl rfl rfl) <| oe [502] [] (A4.A2 (want := true) rfl rfl rfl rfl rfl) <| oe [503] [] (A4.A2 (want := true) rfl rfl rfl rfl rfl) <| oe [504] [] (A4.A2 (want := true) rfl rfl rfl rfl rfl) <| ov [505] (Bd rfl q0 qb) <| ov [500] (Ak q0) .nil) fun _ a w h => ?_
      exact ⟨false, hF, h.sub [0] (by rfl)⟩
  · clear h hF
    rintro a w ⟨x2, hF, h⟩
    unfold B3.j1 at hF
    show Code.wp Tryd.prog _ _ a w
    refine wp_ret ?_
    obtain rfl := Option.some.inj hF
    exact ⟨.inl rfl, Cv h Tryd.results81 (By 0 rfl) [] [] rfl rfl rfl⟩

def AV.b1 (a_0 : List UInt8) (a_1 : Int) (x18 : Int) (x29 : Int) (x30 : Int) : Option (Ds (Int × Int) (Int × Int)) := (if (decide (x30 ≤ x18)) = true then (if (0 : Int) ≤ IntKind.wrap .i64 (a_1 + x30) ∧ IntKind.wrap .i64 (a_1 + x30) < a_0.length then some (.cont (IntKind.wrap .i64 ((IntKind.wrap .i64 (x29 * 64)) + ((IntKind.wrap .i64 ((a_0.getD (IntKind.wrap .i64 (a_1 + x30)).toNat 0).toNat : Int)).tmod 64)), IntKind.wrap .i64 (x30 + 1))) else none) else some (.brk (x29, x30)))
def AV.j5 (a_0 : List UInt8) (a_1 : Int) (x18 : Int) (x26 : Int) : Option (Int × Int) := ((Cs (fun s : Int × Int => AV.b1 a_0 a_1 x18 s.1 s.2) ((x18 - 1 : Int).toNat + 2) (x26, 1)).bind fun cr => match cr with | .ret r => some r | .next (y41, y42) => some (y41, IntKind.wrap .i64 (x18 + 1)))
def AV.j4 (a_0 : List UInt8) (a_1 : Int) (x18 : Int) (x25 : Int) : Option (Int × Int) := (if (decide (x18 = (3 : Int))) = true then AV.j5 a_0 a_1 x18 ((IntKind.wrap .i64 ((a_0.getD a_1.toNat 0).toNat : Int)).tmod 8) else AV.j5 a_0 a_1 x18 x25)
def AV.j3 (a_0 : List UInt8) (a_1 : Int) (x18 : Int) (x23 : Bool) : Option (Int × Int) := (if x23 = true then some (IntKind.wrap .i64 ((IntKind.wrap .i64 ((a_0.getD a_1.toNat 0).toNat : Int)) + 2000000), 1) else (if (decide (x18 = (2 : Int))) = true then AV.j4 a_0 a_1 x18 ((IntKind.wrap .i64 ((a_0.getD a_1.toNat 0).toNat : Int)).tmod 16) else AV.j4 a_0 a_1 x18 ((IntKind.wrap .i64 ((a_0.getD a_1.toNat 0).toNat : Int)).tmod 32)))
def AV.j2 (a_0 : List UInt8) (a_1 : Int) (x16 : Int) (x17 : Int) (x18 : Int) : Option (Int × Int) := (if (decide (x18 = (0 : Int))) = true then AV.j3 a_0 a_1 x18 true else ((B3 a_0 (IntKind.wrap .i64 (a_1 + 1)) x16 x17).bind fun r19 => (if (!r19) = true then AV.j3 a_0 a_1 x18 true else (if (decide ((1 : Int) < x18)) = true then ((B3 a_0 (IntKind.wrap .i64 (a_1 + 2)) 128 191).bind fun r20 => (if (!r20) = true then AV.j3 a_0 a_1 x18 true else (if (decide ((2 : Int) < x18)) = true then ((B3 a_0 (IntKind.wrap .i64 (a_1 + 3)) 128 191).bind fun r21 => AV.j3 a_0 a_1 x18 (!r21)) else AV.j3 a_0 a_1 x18 false))) else (if (decide ((2 : Int) < x18)) = true then ((B3 a_0 (IntKind.wrap .i64 (a_1 + 3)) 128 191).bind fun r22 => AV.j3 a_0 a_1 x18 (!r22)) else AV.j3 a_0 a_1 x18 false)))))
def AV.j7 (a_0 : List UInt8) (a_1 : Int) (x54 : Int) : Option (Int × Int) := (if (decide (((a_0.getD a_1.toNat 0).toNat : Int) = (237 : Int))) = true then AV.j2 a_0 a_1 x54 159 2 else AV.j2 a_0 a_1 x54 191 2)
def AV.j9 (a_0 : List UInt8) (a_1 : Int) (x59 : Int) : Option (Int × Int) := (if (decide (((a_0.getD a_1.toNat 0).toNat : Int) = (244 : Int))) = true then AV.j2 a_0 a_1 x59 143 3 else AV.j2 a_0 a_1 x59 191 3)
def AV.j8 (a_0 : List UInt8) (a_1 : Int) (x57 : Bool) : Option (Int × Int) := (if x57 = true then (if (decide (((a_0.getD a_1.toNat 0).toNat : Int) = (240 : Int))) = true then AV.j9 a_0 a_1 144 else AV.j9 a_0 a_1 128) else AV.j2 a_0 a_1 128 191 0)
def AV.j6 (a_0 : List UInt8) (a_1 : Int) (x52 : Bool) : Option (Int × Int) := (if x52 = true then (if (decide (((a_0.getD a_1.toNat 0).toNat : Int) = (224 : Int))) = true then AV.j7 a_0 a_1 160 else AV.j7 a_0 a_1 128) else (if (decide ((240 : Int) ≤ ((a_0.getD a_1.toNat 0).toNat : Int))) = true then AV.j8 a_0 a_1 (decide (((a_0.getD a_1.toNat 0).toNat : Int) ≤ (244 : Int))) else AV.j8 a_0 a_1 false))
def AV.j1 (a_0 : List UInt8) (a_1 : Int) (x3 : Bool) : Option (Int × Int) := (if x3 = true then AV.j2 a_0 a_1 128 191 1 else (if (decide ((224 : Int) ≤ ((a_0.getD a_1.toNat 0).toNat : Int))) = true then AV.j6 a_0 a_1 (decide (((a_0.getD a_1.toNat 0).toNat : Int) ≤ (239 : Int))) else AV.j6 a_0 a_1 false))
def AV (a_0 : List UInt8) (a_1 : Int) : Option (Int × Int) := (if (0 : Int) ≤ a_1 ∧ a_1 < a_0.length then (if (decide (((a_0.getD a_1.toNat 0).toNat : Int) < (128 : Int))) = true then some (IntKind.wrap .i64 ((a_0.getD a_1.toNat 0).toNat : Int), 1) else (if (decide ((194 : Int) ≤ ((a_0.getD a_1.toNat 0).toNat : Int))) = true then AV.j1 a_0 a_1 (decide (((a_0.getD a_1.toNat 0).toNat : Int) ≤ (223 : Int))) else AV.j1 a_0 a_1 false)) else none)
theorem Ia {a_0 : List UInt8} {a_1 : Int} {r : Int × Int} (hF : AV a_0 a_1 = some r) : AX Tryd.prog KG 67 [(AF a_0), (Ab .i64 a_1)] [] (fun _ => []) (DJ [(Ab .i64 r.1), (Ab .i64 r.2)]) := by
  refine AX.intro 116 Tryd.func67 rfl Tryd.ntmps67 (Nat.le_of_ble_eq_true rfl) ?_
  intro c a w hG hn h
  unfold AV at hF
  change A0 c [.slot 0 (AF a_0), .slot 1 (Ab .i64 a_1)] a w at h
  refine AU mixed hn hG h [0, 1] (ov [] (Ak qi) <| ov [] (Ak qi) .nil) fun _ a w h => ?_
  obtain ⟨hv1, hF⟩ := AH hF
  refine AU mixed hn hG h [0, 1, 500] (ov [0] (Ag q0) <| ov [1] (Ag q0) <| ov [501, 500] (CB Tryd.underlying9 q0 q1 hv1) <| ov [500] (Ak q0) .nil) fun _ a w h => ?_
  refine AU mixed hn hG h [0, 1, 2, 500] (ov [] (Ak qi) .nil) fun _ a w h => ?_
  refine AU mixed hn hG h [0, 1, 2, 3, 501, 500] (ov [] (Ak qi) <| ov [] (Ak qi) .nil) fun _ a w h => ?_
  refine wp_seq ?_
  refine wp_block ?_
  refine AU mixed hn hG h [0, 1, 2, 3, 4, 5, 500] (ov [2] (Ag q0) <| ov [500] (Ax B6 q0 qi) <| ov [500] (Ak q0) .nil) fun _ a w h => ?_
  refine DN h hF 6 [2] [0, 1, 2, 3, 4, 5] (fun hb2 hF h => ?_) (fun hb2 hF h => ?_)
  · refine AU mixed hn hG h [501, 500] (ov [0] (Ag q0) <| ov [500] (Bi Tryd.underlying5 Tryd.underlying3 q0) <| ov [500] (Ak q0) <| ov [] (Ak qi) .nil) fun _ a w h => ?_
    refine wp_ret ?_
    obtain rfl := Option.some.inj hF
    exact ⟨.inl rfl, Gw h (rs := [.tmp 4, .tmp 5]) (Vs := [(Ab .i64 (IntKind.wrap .i64 ((a_0.getD a_1.toNat 0).toNat : Int))), (Ab .i64 1)]) Tryd.results67 (by decide) ⟨(By 0 rfl), (By 1 rfl), trivial⟩ [] [] rfl rfl rfl⟩
  · refine wp_seq ?_
    refine BY (fun a w => ∃ (x3 : Bool), AV.j1 a_0 a_1 x3 = some r ∧ A0 c [.slot 0 (AF a_0), .slot 1 (Ab .i64 a_1), .slot 6 (Ab .u8 ((a_0.getD a_1.toNat 0).toNat : Int)), .slot 7 (Ab .i64 0), .slot 8 (Ab .u8 128), .slot 9 (Ab .u8 191), .slot 20 (An x3)] a w) ?_ ?_
    · rcases Bool.eq_false_or_eq_true (decide ((194 : Int) ≤ ((a_0.getD a_1.toNat 0).toNat : Int))) with hb64 | hb64
      · replace hF := CZ hb64 hF
        refine CK mixed hn hG h [0, 1, 2, 3, 4, 5, 500] (ov [2] (Ag q0) <| ov [500] (Ax CW q0 qi) <| ov [500] (Ag q0) <| oe [500, 2] [] (A4.AN hb64 rfl rfl rfl (Ag q0)) <| oe [501, 500] [] (A4.AN hb64 rfl rfl rfl (Ax Cj q0 qi)) <| ov [502, 500] (Bj hb64 q0 q1) <| ov [500] (Ak q0) .nil) fun _ a w h => ?_
        exact ⟨decide (((a_0.getD a_1.toNat 0).toNat : Int) ≤ (223 : Int)), hF, h.sub [0, 1, 2, 3, 4, 5, 6] (by rfl)⟩
      · replace hF := C0 hb64 hF
        refine CK mixed hn hG h [0, 1, 2, 3, 4, 5, 500] (ov [2] (Ag q0) <| ov [500] (Ax CW q0 qi) <| ov [500] (Ag q0) <| oe [500] [] (A4.A2 (want := true) hb64 rfl rfl rfl rfl) <| oe [501] [] (A4.A2 (want := true) hb64 rfl rfl rfl rfl) <| ov [502] (Bd hb64 q0 qb) <| ov [500] (Ak q0) .nil) fun _ a w h => ?_
        exact ⟨false, hF, h.sub [0, 1, 2, 3, 4, 5, 6] (by rfl)⟩
    · clear h hF
      rintro a w ⟨x3, hF, h⟩
      unfold AV.j1 at hF
      show Code.wp Tryd.prog _ _ a w
      refine BY (fun a w => ∃ (x16 : Int), ∃ (x17 : Int), ∃ (x18 : Int), AV.j2 a_0 a_1 x16 x17 x18 = some r ∧ A0 c [.slot 0 (AF a_0), .slot 1 (Ab .i64 a_1), .slot 6 (Ab .u8 ((a_0.getD a_1.toNat 0).toNat : Int)), .slot 7 (Ab .i64 x18), .slot 8 (Ab .u8 x16), .slot 9 (Ab .u8 x17)] a w) ?_ ?_
      · refine DN h hF 6 [0, 1, 2, 4, 5] [0, 1, 2, 3, 4, 5] (fun hb51 hF h => ?_) (fun hb51 hF h => ?_)
        · refine CK mixed hn hG h [0, 1, 2, 500, 3, 4] (ov [] (Ak qi) .nil) fun _ a w h => ?_
          exact ⟨128, 191, 1, hF, h.sub [0, 1, 2, 3, 4, 5] (by rfl)⟩
        · refine wp_seq ?_
          refine BY (fun a w => ∃ (x52 : Bool), AV.j6 a_0 a_1 x52 = some r ∧ A0 c [.slot 0 (AF a_0), .slot 1 (Ab .i64 a_1), .slot 6 (Ab .u8 ((a_0.getD a_1.toNat 0).toNat : Int)), .slot 7 (Ab .i64 0), .slot 8 (Ab .u8 128), .slot 9 (Ab .u8 191), .slot 27 (An x52)] a w) ?_ ?_
          · rcases Bool.eq_false_or_eq_true (decide ((224 : Int) ≤ ((a_0.getD a_1.toNat 0).toNat : Int))) with hb63 | hb63
            · replace hF := CZ hb63 hF
              refine CK mixed hn hG h [0, 1, 2, 3, 4, 5, 500] (ov [2] (Ag q0) <| ov [500] (Ax CW q0 qi) <| ov [500] (Ag q0) <| oe [500, 2] [] (A4.AN hb63 rfl rfl rfl (Ag q0)) <| oe [501, 500] [] (A4.AN hb63 rfl rfl rfl (Ax Cj q0 qi)) <| ov [502, 500] (Bj hb63 q0 q1) <| ov [500] (Ak q0) .nil) fun _ a w h => ?_
              exact ⟨decide (((a_0.getD a_1.toNat 0).toNat : Int) ≤ (239 : Int)), hF, h.sub [0, 1, 2, 3, 4, 5, 6] (by rfl)⟩
            · replace hF := C0 hb63 hF
              refine CK mixed hn hG h [0, 1, 2, 3, 4, 5, 500] (ov [2] (Ag q0) <| ov [500] (Ax CW q0 qi) <| ov [500] (Ag q0) <| oe [500] [] (A4.A2 (want := true) hb63 rfl rfl rfl rfl) <| oe [501] [] (A4.A2 (want := true) hb63 rfl rfl rfl rfl) <| ov [502] (Bd hb63 q0 qb) <| ov [500] (Ak q0) .nil) fun _ a w h => ?_
              exact ⟨false, hF, h.sub [0, 1, 2, 3, 4, 5, 6] (by rfl)⟩
          · clear h hF
            rintro a w ⟨x52, hF, h⟩
            unfold AV.j6 at hF
            show Code.wp Tryd.prog _ _ a w
            refine DN h hF 6 [0, 1, 2, 4, 5] [0, 1, 2, 3, 4, 5] (fun hb53 hF h => ?_) (fun hb53 hF h => ?_)
            · refine AU mixed hn hG h [0, 1, 2, 500, 3, 4] (ov [] (Ak qi) .nil) fun _ a w h => ?_
              refine wp_seq ?_
              refine AU mixed hn hG h [0, 1, 2, 3, 4, 5, 500] (ov [2] (Ag q0) <| ov [500] (Ax B4 q0 qi) .nil) fun _ a w h => ?_
              refine BY (fun a w => ∃ (x54 : Int), AV.j7 a_0 a_1 x54 = some r ∧ A0 c [.slot 0 (AF a_0), .slot 1 (Ab .i64 a_1), .slot 6 (Ab .u8 ((a_0.getD a_1.toNat 0).toNat : Int)), .slot 7 (Ab .i64 2), .slot 8 (Ab .u8 x54), .slot 9 (Ab .u8 191)] a w) ?_ ?_
              · refine DN h hF 6 [0, 1, 2, 3, 5] [0, 1, 2, 3, 4, 5] (fun hb56 hF h => ?_) (fun hb56 hF h => ?_)
                · refine CK mixed hn hG h [0, 1, 2, 3, 500, 4] (ov [] (Ak qi) .nil) fun _ a w h => ?_
                  exact ⟨160, hF, h.sub [0, 1, 2, 3, 4, 5] (by rfl)⟩
                · refine wp_skip ?_
                  exact ⟨128, hF, h.sub [0, 1, 2, 3, 4, 5] (by rfl)⟩
              · clear h hF
                rintro a w ⟨x54, hF, h⟩
                unfold AV.j7 at hF
                show Code.wp Tryd.prog _ _ a w
                refine AU mixed hn hG h [0, 1, 2, 3, 4, 5, 500] (ov [2] (Ag q0) <| ov [500] (Ax B4 q0 qi) .nil) fun _ a w h => ?_
                refine DN h hF 6 [0, 1, 2, 3, 4] [0, 1, 2, 3, 4, 5] (fun hb55 hF h => ?_) (fun hb55 hF h => ?_)
                · refine CK mixed hn hG h [0, 1, 2, 3, 4, 500] (ov [] (Ak qi) .nil) fun _ a w h => ?_
                  exact ⟨x54, 159, 2, hF, h.sub [0, 1, 2, 3, 4, 5] (by rfl)⟩
                · refine wp_skip ?_
                  exact ⟨x54, 191, 2, hF, h.sub [0, 1, 2, 3, 4, 5] (by rfl)⟩
            · refine wp_seq ?_
              refine BY (fun a w => ∃ (x57 : Bool), AV.j8 a_0 a_1 x57 = some r ∧ A0 c [.slot 0 (AF a_0), .slot 1 (Ab .i64 a_1), .slot 6 (Ab .u8 ((a_0.getD a_1.toNat 0).toNat : Int)), .slot 7 (Ab .i64 0), .slot 8 (Ab .u8 128), .slot 9 (Ab .u8 191), .slot 38 (An x57)] a w) ?_ ?_
              · rcases Bool.eq_false_or_eq_true (decide ((240 : Int) ≤ ((a_0.getD a_1.toNat 0).toNat : Int))) with hb62 | hb62
                · replace hF := CZ hb62 hF
                  refine CK mixed hn hG h [0, 1, 2, 3, 4, 5, 500] (ov [2] (Ag q0) <| ov [500] (Ax CW q0 qi) <| ov [500] (Ag q0) <| oe [500, 2] [] (A4.AN hb62 rfl rfl rfl (Ag q0)) <| oe [501, 500] [] (A4.AN hb62 rfl rfl rfl (Ax Cj q0 qi)) <| ov [502, 500] (Bj hb62 q0 q1) <| ov [500] (Ak q0) .nil) fun _ a w h => ?_
                  exact ⟨decide (((a_0.getD a_1.toNat 0).toNat : Int) ≤ (244 : Int)), hF, h.sub [0, 1, 2, 3, 4, 5, 6] (by rfl)⟩
                · replace hF := C0 hb62 hF
                  refine CK mixed hn hG h [0, 1, 2, 3, 4, 5, 500] (ov [2] (Ag q0) <| ov [500] (Ax CW q0 qi) <| ov [500] (Ag q0) <| oe [500] [] (A4.A2 (want := true) hb62 rfl rfl rfl rfl) <| oe [501] [] (A4.A2 (want := true) hb62 rfl rfl rfl rfl) <| ov [502] (Bd hb62 q0 qb) <| ov [500] (Ak q0) .nil) fun _ a w h => ?_
                  exact ⟨false, hF, h.sub [0, 1, 2, 3, 4, 5, 6] (by rfl)⟩
              · clear h hF
                rintro a w ⟨x57, hF, h⟩
                unfold AV.j8 at hF
                show Code.wp Tryd.prog _ _ a w
                refine DN h hF 6 [0, 1, 2, 4, 5] [0, 1, 2, 3, 4, 5] (fun hb58 hF h => ?_) (fun hb58 hF h => ?_)
                · refine AU mixed hn hG h [0, 1, 2, 500, 3, 4] (ov [] (Ak qi) .nil) fun _ a w h => ?_
                  refine wp_seq ?_
                  refine AU mixed hn hG h [0, 1, 2, 3, 4, 5, 500] (ov [2] (Ag q0) <| ov [500] (Ax B4 q0 qi) .nil) fun _ a w h => ?_
                  refine BY (fun a w => ∃ (x59 : Int), AV.j9 a_0 a_1 x59 = some r ∧ A0 c [.slot 0 (AF a_0), .slot 1 (Ab .i64 a_1), .slot 6 (Ab .u8 ((a_0.getD a_1.toNat 0).toNat : Int)), .slot 7 (Ab .i64 3), .slot 8 (Ab .u8 x59), .slot 9 (Ab .u8 191)] a w) ?_ ?_
                  · refine DN h hF 6 [0, 1, 2, 3, 5] [0, 1, 2, 3, 4, 5] (fun hb61 hF h => ?_) (fun hb61 hF h => ?_)
                    · refine CK mixed hn hG h [0, 1, 2, 3, 500, 4] (ov [] (Ak qi) .nil) fun _ a w h => ?_
                      exact ⟨144, hF, h.sub [0, 1, 2, 3, 4, 5] (by rfl)⟩
                    · refine wp_skip ?_
                      exact ⟨128, hF, h.sub [0, 1, 2, 3, 4, 5] (by rfl)⟩
                  · clear h hF
                    rintro a w ⟨x59, hF, h⟩
                    unfold AV.j9 at hF
                    show Code.wp Tryd.prog _ _ a w
                    refine AU mixed hn hG h [0, 1, 2, 3, 4, 5, 500] (ov [2] (Ag q0) <| ov [500] (Ax B4 q0 qi) .nil) fun _ a w h => ?_
                    refine DN h hF 6 [0, 1, 2, 3, 4] [0, 1, 2, 3, 4, 5] (fun hb60 hF h => ?_) (fun hb60 hF h => ?_)
                    · refine CK mixed hn hG h [0, 1, 2, 3, 4, 500] (ov [] (Ak qi) .nil) fun _ a w h => ?_
                      exact ⟨x59, 143, 3, hF, h.sub [0, 1, 2, 3, 4, 5] (by rfl)⟩
                    · refine wp_skip ?_
                      exact ⟨x59, 191, 3, hF, h.sub [0, 1, 2, 3, 4, 5] (by rfl)⟩
                · refine wp_skip ?_
                  exact ⟨128, 191, 0, hF, h.sub [0, 1, 2, 3, 4, 5] (by rfl)⟩
      · clear h hF
        rintro a w ⟨x16, x17, x18, hF, h⟩
        unfold AV.j2 at hF
        show Code.wp Tryd.prog _ _ a w
        refine wp_seq ?_
        refine wp_seq ?_
        refine BY (fun a w => ∃ (x23 : Bool), AV.j3 a_0 a_1 x18 x23 = some r ∧ A0 c [.slot 0 (AF a_0), .slot 1 (Ab .i64 a_1), .slot 6 (Ab .u8 ((a_0.getD a_1.toNat 0).toNat : Int)), .slot 7 (Ab .i64 x18), .slot 81 (An x23)] a w) ?_ ?_
        · rcases Bool.eq_false_or_eq_true (decide (x18 = (0 : Int))) with hb45 | hb45
          · replace hF := CZ hb45 hF
            refine CK mixed hn hG h [0, 1, 2, 3, 500] (ov [3] (Ag q0) <| ov [500] (Ax B4 q0 qi) <| ov [500] (Ag q0) <| oe [500] [] (A4.A2 (want := false) hb45 rfl rfl rfl rfl) <| oe [501] [] (A4.A2 (want := false) hb45 rfl rfl rfl rfl) <| oe [502] [] (A4.A2 (want := false) hb45 rfl rfl rfl rfl) <| oe [503] [] (A4.A2 (want := false) hb45 rfl rfl rfl rfl) <| oe [504] [] (A4.A2 (want := false) hb45 rfl rfl rfl rfl) <| oe [505] [] (A4.A2 (want := false) hb45 rfl rfl rfl rfl) <| oe [506] [] (A4.A2 (want := false) hb45 rfl rfl rfl rfl) <| ov [507] (Bj hb45 q0 qb) <| ov [500] (Ag q0) <| oe [500] [] (A4.A2 (want := false) rfl rfl rfl rfl rfl) <| oe [501] [] (A4.A2 (want := false) rfl rfl rfl rfl rfl) <| oe [502] [] (A4.A2 (want := false) rfl rfl rfl rfl rfl) <| oe [500] [] (A4.DA rfl rfl rfl rfl) <| oe [501] [] (A4.DA rfl rfl rfl rfl) <| oe [502] [] (A4.DA rfl rfl rfl rfl) <| oe [503] [] (A4.DA rfl rfl rfl rfl) <| oe [504] [] (A4.DA rfl rfl rfl rfl) <| oe [508] [] (A4.A2 (want := false) rfl rfl rfl rfl rfl) <| ov [509] (Bj rfl q0 qb) <| ov [500] (Ag q0) <| oe [500] [] (A4.A2 (want := false) rfl rfl rfl rfl rfl) <| oe [501] [] (A4.A2 (want := false) rfl rfl rfl rfl rfl) <| oe [502] [] (A4.A2 (want := false) rfl rfl rfl rfl rfl) <| oe [500] [] (A4.DA rfl rfl rfl rfl) <| oe [501] [] (A4.DA rfl rfl rfl rfl) <| oe [502] [] (A4.DA rfl rfl rfl rfl) <| oe [503] [] (A4.DA rfl rfl rfl rfl) <| oe [504] [] (A4.DA rfl rfl rfl rfl) <| oe [508] [] (A4.A2 (want := false) rfl rfl rfl rfl rfl) <| ov [509] (Bj rfl q0 qb) .nil) fun _ a w h => ?_
            exact ⟨true, hF, h.sub [0, 1, 2, 3, 4] (by rfl)⟩
          · replace hF := C0 hb45 hF
            obtain ⟨r19, hr19, hF⟩ := bind_some hF
            rcases Bool.eq_false_or_eq_true (!r19) with hb46 | hb46
            · replace hF := CZ hb46 hF
              refine CK mixed hn hG h [0, 1, 2, 3, 500] (ov [3] (Ag q0) <| ov [500] (Ax B4 q0 qi) <| ov [500] (Ag q0) <| oe [500, 0] [] (A4.AN hb45 rfl rfl rfl (Ag q0)) <| oe [501, 1] [] (A4.AN hb45 rfl rfl rfl (Ag q0)) <| oe [502, 500] [] (A4.AN hb45 rfl rfl rfl (Ax BC q0 qi)) <| oe [503, 4] [] (A4.AN hb45 rfl rfl rfl (Ag q0)) <| oe [504, 5] [] (A4.AN hb45 rfl rfl rfl (Ag q0)) <| oe [505, 504, 502, 501, 500] [] (A4.AN hb45 rfl rfl rfl (CL Tryd.call81 (Cc hr19) ⟨q0, q1, q2, q3, trivial⟩)) <| oe [506, 500] [] (A4.AN hb45 rfl rfl rfl (Ez (Ei _) q0)) <| ov [507, 500] (Bd hb45 q0 q1) <| ov [500] (Ag q0) <| oe [500] [] (A4.A2 (want := false) hb46 rfl rfl rfl rfl) <| oe [501] [] (A4.A2 (want := false) hb46 rfl rfl rfl rfl) <| oe [502] [] (A4.A2 (want := false) hb46 rfl rfl rfl rfl) <| oe [500] [] (A4.DA rfl rfl rfl rfl) <| oe [501] [] (A4.DA rfl rfl rfl rfl) <| oe [502] [] (A4.DA rfl rfl rfl rfl) <| oe [503] [] (A4.DA rfl rfl rfl rfl) <| oe [504] [] (A4.DA rfl rfl rfl rfl) <| oe [508] [] (A4.A2 (want := false) hb46 rfl rfl rfl rfl) <| ov [509] (Bj hb46 q0 qb) <| ov [500] (Ag q0) <| oe [500] [] (A4.A2 (want := false) rfl rfl rfl rfl rfl) <| oe [501] [] (A4.A2 (want := false) rfl rfl rfl rfl rfl) <| oe [502] [] (A4.A2 (want := false) rfl rfl rfl rfl rfl) <| oe [500] [] (A4.DA rfl rfl rfl rfl) <| oe [501] [] (A4.DA rfl rfl rfl rfl) <| oe [502] [] (A4.DA rfl rfl rfl rfl) <| oe [503] [] (A4.DA rfl rfl rfl rfl) <| oe [504] [] (A4.DA rfl rfl rfl rfl) <| oe [508] [] (A4.A2 (want := false) rfl rfl rfl rfl rfl) <| ov [509] (Bj rfl q0 qb) .nil) fun _ a w h => ?_
              exact ⟨true, hF, h.sub [0, 1, 2, 3, 4] (by rfl)⟩
            · replace hF := C0 hb46 hF
              rcases Bool.eq_false_or_eq_true (decide ((1 : Int) < x18)) with hb47 | hb47
              · replace hF := CZ hb47 hF
                obtain ⟨r20, hr20, hF⟩ := bind_some hF
                rcases Bool.eq_false_or_eq_true (!r20) with hb48 | hb48
                · replace hF := CZ hb48 hF
                  refine CK mixed hn hG h [0, 1, 2, 3, 500] (ov [3] (Ag q0) <| ov [500] (Ax B4 q0 qi) <| ov [500] (Ag q0) <| oe [500, 0] [] (A4.AN hb45 rfl rfl rfl (Ag q0)) <| oe [501, 1] [] (A4.AN hb45 rfl rfl rfl (Ag q0)) <| oe [502, 500] [] (A4.AN hb45 rfl rfl rfl (Ax BC q0 qi)) <| oe [503, 4] [] (A4.AN hb45 rfl rfl rfl (Ag q0)) <| oe [504, 5] [] (A4.AN hb45 rfl rfl rfl (Ag q0)) <| oe [505, 504, 502, 501, 500] [] (A4.AN hb45 rfl rfl rfl (CL Tryd.call81 (Cc hr19) ⟨q0, q1, q2, q3, trivial⟩)) <| oe [506, 500] [] (A4.AN hb45 rfl rfl rfl (Ez (Ei _) q0)) <| ov [507, 500] (Bd hb45 q0 q1) <| ov [500] (Ag q0) <| oe [500, 3] [] (A4.AN hb46 rfl rfl rfl (Ag q0)) <| oe [501, 500] [] (A4.AN hb46 rfl rfl rfl (Ax CD q0 qi)) <| oe [502, 500] [] (A4.AN hb46 rfl rfl rfl (Ag q0)) <| oe [500, 0] [] (A4.AN hb47 rfl rfl rfl (Ag q0)) <| oe [501, 1] [] (A4.AN hb47 rfl rfl rfl (Ag q0)) <| oe [502, 500] [] (A4.AN hb47 rfl rfl rfl (Ax BC q0 qi)) <| oe [503, 502, 500] [] (A4.AN hb47 rfl rfl rfl (CL Tryd.call81 (Cc hr20) ⟨q0, q1, qi, qi, trivial⟩)) <| oe [504, 500] [] (A4.AN hb47 rfl rfl rfl (Ez (Ei _) q0)) <| oe [508, 505, 500] [] (A4.AN hb46 rfl rfl rfl (Bj hb47 q0 q1)) <| ov [509, 500] (Bd hb46 q0 q1) <| ov [500] (Ag q0) <| oe [500] [] (A4.A2 (want := false) hb48 rfl rfl rfl rfl) <| oe [501] [] (A4.A2 (want := false) hb48 rfl rfl rfl rfl) <| oe [502] [] (A4.A2 (want := false) hb48 rfl rfl rfl rfl) <| oe [500] [] (A4.DA rfl rfl rfl rfl) <| oe [501] [] (A4.DA rfl rfl rfl rfl) <| oe [502] [] (A4.DA rfl rfl rfl rfl) <| oe [503] [] (A4.DA rfl rfl rfl rfl) <| oe [504] [] (A4.DA rfl rfl rfl rfl) <| oe [508] [] (A4.A2 (want := false) hb48 rfl rfl rfl rfl) <| ov [509] (Bj hb48 q0 qb) .nil) fun _ a w h => ?_
                  exact ⟨true, hF, h.sub [0, 1, 2, 3, 4] (by rfl)⟩
                · replace hF := C0 hb48 hF
                  rcases Bool.eq_false_or_eq_true (decide ((2 : Int) < x18)) with hb49 | hb49
                  · replace hF := CZ hb49 hF
                    obtain ⟨r21, hr21, hF⟩ := bind_some hF
                    refine CK mixed hn hG h [0, 1, 2, 3, 500] (ov [3] (Ag q0) <| ov [500] (Ax B4 q0 qi) <| ov [500] (Ag q0) <| oe [500, 0] [] (A4.AN hb45 rfl rfl rfl (Ag q0)) <| oe [501, 1] [] (A4.AN hb45 rfl rfl rfl (Ag q0)) <| oe [502, 500] [] (A4.AN hb45 rfl rfl rfl (Ax BC q0 qi)) <| oe [503, 4] [] (A4.AN hb45 rfl rfl rfl (Ag q0)) <| oe [504, 5] [] (A4.AN hb45 rfl rfl rfl (Ag q0)) <| oe [505, 504, 502, 501, 500] [] (A4.AN hb45 rfl rfl rfl (CL Tryd.call81 (Cc hr19) ⟨q0, q1, q2, q3, trivial⟩)) <| oe [506, 500] [] (A4.AN hb45 rfl rfl rfl (Ez (Ei _) q0)) <| ov [507, 500] (Bd hb45 q0 q1) <| ov [500] (Ag q0) <| oe [500, 3] [] (A4.AN hb46 rfl rfl rfl (Ag q0)) <| oe [501, 500] [] (A4.AN hb46 rfl rfl rfl (Ax CD q0 qi)) <| oe [502, 500] [] (A4.AN hb46 rfl rfl rfl (Ag q0)) <| oe [500, 0] [] (A4.AN hb47 rfl rfl rfl (Ag q0)) <| oe [501, 1] [] (A4.AN hb47 rfl rfl rfl (Ag q0)) <| oe [502, 500] [] (A4.AN hb47 rfl rfl rfl (Ax BC q0 qi)) <| oe [503, 502, 500] [] (A4.AN hb47 rfl rfl rfl (CL Tryd.call81 (Cc hr20) ⟨q0, q1, qi, qi, trivial⟩)) <| oe [504, 500] [] (A4.AN hb47 rfl rfl rfl (Ez (Ei _) q0)) <| oe [508, 505, 500] [] (A4.AN hb46 rfl rfl rfl (Bj hb47 q0 q1)) <| ov [509, 500] (Bd hb46 q0 q1) <| ov [500] (Ag q0) <| oe [500, 3] [] (A4.AN hb48 rfl rfl rfl (Ag q0)) <| oe [501, 500] [] (A4.AN hb48 rfl rfl rfl (Ax CD q0 qi)) <| oe [502, 500] [] (A4.AN hb48 rfl rfl rfl (Ag q0)) <| oe [500, 0] [] (A4.AN hb49 rfl rfl rfl (Ag q0)) <| oe [501, 1] [] (A4.AN hb49 rfl rfl rfl (Ag q0)) <| oe [502, 500] [] (A4.AN hb49 rfl rfl rfl (Ax BC q0 qi)) <| oe [503, 502, 500] [] (A4.AN hb49 rfl rfl rfl (CL Tryd.call81 (Cc hr21) ⟨q0, q1, qi, qi, trivial⟩)) <| oe [504, 500] [] (A4.AN hb49 rfl rfl rfl (Ez (Ei _) q0)) <| oe [508, 505, 500] [] (A4.AN hb48 rfl rfl rfl (Bj hb49 q0 q1)) <| ov [509, 500] (Bd hb48 q0 q1) .nil) fun _ a w h => ?_
                    exact ⟨!r21, hF, h.sub [0, 1, 2, 3, 4] (by rfl)⟩
                  · replace hF := C0 hb49 hF
                    refine CK mixed hn hG h [0, 1, 2, 3, 500] (ov [3] (Ag q0) <| ov [500] (Ax B4 q0 qi) <| ov [500] (Ag q0) <| oe [500, 0] [] (A4.AN hb45 rfl rfl rfl (Ag q0)) <| oe [501, 1] [] (A4.AN hb45 rfl rfl rfl (Ag q0)) <| oe [502, 500] [] (A4.AN hb45 rfl rfl rfl (Ax BC q0 qi)) <| oe [503, 4] [] (A4.AN hb45 rfl rfl rfl (Ag q0)) <| oe [504, 5] [] (A4.AN hb45 rfl rfl rfl (Ag q0)) <| oe [505, 504, 502, 501, 500] [] (A4.AN hb45 rfl rfl rfl (CL Tryd.call81 (Cc hr19) ⟨q0, q1, q2, q3, trivial⟩)) <| oe [506, 500] [] (A4.AN hb45 rfl rfl rfl (Ez (Ei _) q0)) <| ov [507, 500] (Bd hb45 q0 q1) <| ov [500] (Ag q0) <| oe [500, 3] [] (A4.AN hb46 rfl rfl rfl (Ag q0)) <| oe [501, 500] [] (A4.AN hb46 rfl rfl rfl (Ax CD q0 qi)) <| oe [502, 500] [] (A4.AN hb46 rfl rfl rfl (Ag q0)) <| oe [500, 0] [] (A4.AN hb47 rfl rfl rfl (Ag q0)) <| oe [501, 1] [] (A4.AN hb47 rfl rfl rfl (Ag q0)) <| oe [502, 500] [] (A4.AN hb47 rfl rfl rfl (Ax BC q0 qi)) <| oe [503, 502, 500] [] (A4.AN hb47 rfl rfl rfl (CL Tryd.call81 (Cc hr20) ⟨q0, q1, qi, qi, trivial⟩)) <| oe [504, 500] [] (A4.AN hb47 rfl rfl rfl (Ez (Ei _) q0)) <| oe [508, 505, 500] [] (A4.AN hb46 rfl rfl rfl (Bj hb47 q0 q1)) <| ov [509, 500] (Bd hb46 q0 q1) <| ov [500] (Ag q0) <| oe [500, 3] [] (A4.AN hb48 rfl rfl rfl (Ag q0)) <| oe [501, 500] [] (A4.AN hb48 rfl rfl rfl (Ax CD q0 qi)) <| oe [502, 500] [] (A4.AN hb48 rfl rfl rfl (Ag q0)) <| oe [500] [] (A4.A2 (want := true) hb49 rfl rfl rfl rfl) <| oe [501] [] (A4.A2 (want := true) hb49 rfl rfl rfl rfl) <| oe [502] [] (A4.A2 (want := true) hb49 rfl rfl rfl rfl) <| oe [503] [] (A4.A2 (want := true) hb49 rfl rfl rfl rfl) <| oe [504] [] (A4.A2 (want := true) hb49 rfl rfl rfl rfl) <| oe [508, 505] [] (A4.AN hb48 rfl rfl rfl (Bd hb49 q0 qb)) <| ov [509, 500] (Bd hb48 q0 q1) .nil) fun _ a w h => ?_
                    exact ⟨false, hF, h.sub [0, 1, 2, 3, 4] (by rfl)⟩
              · replace hF := C0 hb47 hF
                rcases Bool.eq_false_or_eq_true (decide ((2 : Int) < x18)) with hb50 | hb50
                · replace hF := CZ hb50 hF
                  obtain ⟨r22, hr22, hF⟩ := bind_some hF
                  refine CK mixed hn hG h [0, 1, 2, 3, 500] (ov [3] (Ag q0) <| ov [500] (Ax B4 q0 qi) <| ov [500] (Ag q0) <| oe [500, 0] [] (A4.AN hb45 rfl rfl rfl (Ag q0)) <| oe [501, 1] [] (A4.AN hb45 rfl rfl rfl (Ag q0)) <| oe [502, 500] [] (A4.AN hb45 rfl rfl rfl (Ax BC q0 qi)) <| oe [503, 4] [] (A4.AN hb45 rfl rfl rfl (Ag q0)) <| oe [504, 5] [] (A4.AN hb45 rfl rfl rfl (Ag q0)) <| oe [505, 504, 502, 501, 500] [] (A4.AN hb45 rfl rfl rfl (CL Tryd.call81 (Cc hr19) ⟨q0, q1, q2, q3, trivial⟩)) <| oe [506, 500] [] (A4.AN hb45 rfl rfl rfl (Ez (Ei _) q0)) <| ov [507, 500] (Bd hb45 q0 q1) <| ov [500] (Ag q0) <| oe [500, 3] [] (A4.AN hb46 rfl rfl rfl (Ag q0)) <| oe [501, 500] [] (A4.AN hb46 rfl rfl rfl (Ax CD q0 qi)) <| oe [502, 500] [] (A4.AN hb46 rfl rfl rfl (Ag q0)) <| oe [500] [] (A4.A2 (want := true) hb47 rfl rfl rfl rfl) <| oe [501] [] (A4.A2 (want := true) hb47 rfl rfl rfl rfl) <| oe [502] [] (A4.A2 (want := true) hb47 rfl rfl rfl rfl) <| oe [503] [] (A4.A2 (want := true) hb47 rfl rfl rfl rfl) <| oe [504] [] (A4.A2 (want := true) hb47 rfl rfl rfl rfl) <| oe [508, 505] [] (A4.AN hb46 rfl rfl rfl (Bd hb47 q0 qb)) <| ov [509, 500] (Bd hb46 q0 q1) <| ov [500] (Ag q0) <| oe [500, 3] [] (A4.AN rfl rfl rfl rfl (Ag q0)) <| oe [501, 500] [] (A4.AN rfl rfl rfl rfl (Ax CD q0 qi)) <| oe [502, 500] [] (A4.AN rfl rfl rfl rfl (Ag q0)) <| oe [500, 0] [] (A4.AN hb50 rfl rfl rfl (Ag q0)) <| oe [501, 1] [] (A4.AN hb50 rfl rfl rfl (Ag q0)) <| oe [502, 500] [] (A4.AN hb50 rfl rfl rfl (Ax BC q0 qi)) <| oe [503, 502, 500] [] (A4.AN hb50 rfl rfl rfl (CL Tryd.call81 (Cc hr22) ⟨q0, q1, qi, qi, trivial⟩)) <| oe [504, 500] [] (A4.AN hb50 rfl rfl rfl (Ez (Ei _) q0)) <| oe [508, 505, 500] [] (A4.AN rfl rfl rfl rfl (Bj hb50 q0 q1)) <| ov [509, 500] (Bd rfl q0 q1) .nil) fun _ a w h => ?_
                  exact ⟨!r22, hF, h.sub [0, 1, 2, 3, 4] (by rfl)⟩
                · replace hF := C0 hb50 hF
                  refine CK mixed hn hG h [0, 1, 2, 3, 500] (ov [3] (Ag q0) <| ov [500] (Ax B4 q0 qi) <| ov [500] (Ag q0) <| oe [500, 0] [] (A4.AN hb45 rfl rfl rfl (Ag q0)) <| oe [501, 1] [] (A4.AN hb45 rfl rfl rfl (Ag q0)) <| oe [502, 500] [] (A4.AN hb45 rfl rfl rfl (Ax BC q0 qi)) <| oe [503, 4] [] (A4.AN hb45 rfl rfl rfl (Ag q0)) <| oe [504, 5] [] (A4.AN hb45 rfl rfl rfl (Ag q0)) <| oe [505, 504, 502, 501, 500] [] (A4.AN hb45 rfl rfl rfl (CL Tryd.call81 (Cc hr19) ⟨q0, q1, q2, q3, trivial⟩)) <| oe [506, 500] [] (A4.AN hb45 rfl rfl rfl (Ez (Ei _) q0)) <| ov [507, 500] (Bd hb45 q0 q1) <| ov [500] (Ag q0) <| oe [500, 3] [] (A4.AN hb46 rfl rfl rfl (Ag q0)) <| oe [501, 500] [] (A4.AN hb46 rfl rfl rfl (Ax CD q0 qi)) <| oe [502, 500] [] (A4.AN hb46 rfl rfl rfl (Ag q0)) <| oe [500] [] (A4.A2 (want := true) hb47 rfl rfl rfl rfl) <| oe [501] [] (A4.A2 (want := true) hb47 rfl rfl rfl rfl) <| oe [502] [] (A4.A2 (want := true) hb47 rfl rfl rfl rfl) <| oe [503] [] (A4.A2 (want := true) hb47 rfl rfl rfl rfl) <| oe [504] [] (A4.A2 (want := true) hb47 rfl rfl rfl rfl) <| oe [508, 505] [] (A4.AN hb46 rfl rfl rfl (Bd hb47 q0 qb)) <| ov [509, 500] (Bd hb46 q0 q1) <| ov [500] (Ag q0) <| oe [500, 3] [] (A4.AN rfl rfl rfl rfl (Ag q0)) <| oe [501, 500] [] (A4.AN rfl rfl rfl rfl (Ax CD q0 qi)) <| oe [502, 500] [] (A4.AN rfl rfl rfl rfl (Ag q0)) <| oe [500] [] (A4.A2 (want := true) hb50 rfl rfl rfl rfl) <| oe [501] [] (A4.A2 (want := true) hb50 rfl rfl rfl rfl) <| oe [502] [] (A4.A2 (want := true) hb50 rfl rfl rfl rfl) <| oe [503] [] (A4.A2 (want := true) hb50 rfl rfl rfl rfl) <| oe [504] [] (A4.A2 (want := true) hb50 rfl rfl rfl rfl) <| oe [508, 505] [] (A4.AN rfl rfl rfl rfl (Bd hb50 q0 qb)) <| ov [509, 500] (Bd rfl q0 q1) .nil) fun _ a w h => ?_
                  exact ⟨false, hF, h.sub [0, 1, 2, 3, 4] (by rfl)⟩
        · clear h hF
          rintro a w ⟨x23, hF, h⟩
          unfold AV.j3 at hF
          show Code.wp Tryd.prog _ _ a w
          refine DN h hF 4 [2] [0, 1, 2, 3] (fun hb24 hF h => ?_) (fun hb24 hF h => ?_)
          · refine AU mixed hn hG h [501, 500] (ov [0] (Ag q0) <| ov [500] (Bi Tryd.underlying5 Tryd.underlying3 q0) <| ov [500] (Ax BC q0 qi) <| ov [500] (Ak q0) <| ov [] (Ak qi) .nil) fun _ a w h => ?_
            refine wp_ret ?_
            obtain rfl := Option.some.inj hF
            exact ⟨.inl rfl, Gw h (rs := [.tmp 4, .tmp 5]) (Vs := [(Ab .i64 (IntKind.wrap .i64 ((IntKind.wrap .i64 ((a_0.getD a_1.toNat 0).toNat : Int)) + 2000000))), (Ab .i64 1)]) Tryd.results67 (by decide) ⟨(By 0 rfl), (By 1 rfl), trivial⟩ [] [] rfl rfl rfl⟩
          · refine wp_skip ?_
            show Code.wp Tryd.prog _ _ a w
            refine AU mixed hn hG h [0, 1, 2, 3, 500] (ov [2] (Ag q0) <| ov [500] (Bi Tryd.underlying5 Tryd.underlying3 q0) <| ov [500] (Ax (En (by decide)) q0 qi) <| ov [500] (Ak q0) .nil) fun _ a w h => ?_
            refine wp_seq ?_
            refine AU mixed hn hG h [0, 1, 2, 3, 4, 500] (ov [3] (Ag q0) <| ov [500] (Ax B4 q0 qi) .nil) fun _ a w h => ?_
            refine BY (fun a w => ∃ (x25 : Int), AV.j4 a_0 a_1 x18 x25 = some r ∧ A0 c [.slot 0 (AF a_0), .slot 1 (Ab .i64 a_1), .slot 6 (Ab .u8 ((a_0.getD a_1.toNat 0).toNat : Int)), .slot 7 (Ab .i64 x18), .slot 10 (Ab .i64 x25)] a w) ?_ ?_
            · refine DN h hF 5 [0, 1, 2, 3] [0, 1, 2, 3, 4] (fun hb44 hF h => ?_) (fun hb44 hF h => ?_)
              · refine CK mixed hn hG h [0, 1, 2, 3, 500] (ov [2] (Ag q0) <| ov [500] (Bi Tryd.underlying5 Tryd.underlying3 q0) <| ov [500] (Ax (En (by decide)) q0 qi) <| ov [500] (Ak q0) .nil) fun _ a w h => ?_
                exact ⟨(IntKind.wrap .i64 ((a_0.getD a_1.toNat 0).toNat : Int)).tmod 16, hF, h.sub [0, 1, 2, 3, 4] (by rfl)⟩
              · refine wp_skip ?_
                exact ⟨(IntKind.wrap .i64 ((a_0.getD a_1.toNat 0).toNat : Int)).tmod 32, hF, h.sub [0, 1, 2, 3, 4] (by rfl)⟩
            · clear h hF
              rintro a w ⟨x25, hF, h⟩
              unfold AV.j4 at hF
              show Code.wp Tryd.prog _ _ a w
              refine wp_seq ?_
              refine AU mixed hn hG h [0, 1, 2, 3, 4, 500] (ov [3] (Ag q0) <| ov [500] (Ax B4 q0 qi) .nil) fun _ a w h => ?_
              refine BY (fun a w => ∃ (x26 : Int), AV.j5 a_0 a_1 x18 x26 = some r ∧ A0 c [.slot 0 (AF a_0), .slot 1 (Ab .i64 a_1), .slot 7 (Ab .i64 x18), .slot 10 (Ab .i64 x26)] a w) ?_ ?_
              · refine DN h hF 5 [0, 1, 2, 3] [0, 1, 3, 4] (fun hb43 hF h => ?_) (fun hb43 hF h => ?_)
                · refine CK mixed hn hG h [0, 1, 3, 500] (ov [2] (Ag q0) <| ov [500] (Bi Tryd.underlying5 Tryd.underlying3 q0) <| ov [500] (Ax (En (by decide)) q0 qi) <| ov [500] (Ak q0) .nil) fun _ a w h => ?_
                  exact ⟨(IntKind.wrap .i64 ((a_0.getD a_1.toNat 0).toNat : Int)).tmod 8, hF, h.sub [0, 1, 2, 3] (by rfl)⟩
                · refine wp_skip ?_
                  exact ⟨x25, hF, h.sub [0, 1, 2, 3] (by rfl)⟩
              · clear h hF
                rintro a w ⟨x26, hF, h⟩
                unfold AV.j5 at hF
                show Code.wp Tryd.prog _ _ a w
                refine wp_seq ?_
                refine AU mixed hn hG h [0, 1, 2, 3, 500] (ov [] (Ak qi) .nil) fun _ a w h => ?_
                refine wp_block ?_
                obtain ⟨cr37, hl38, hF⟩ := bind_some hF
                refine wp_mono (Ci (R := Int × Int) (S := Int × Int) (fun s a w => A0 c [.slot 0 (AF a_0), .slot 1 (Ab .i64 a_1), .slot 7 (Ab .i64 x18), .slot 10 (Ab .i64 s.1), .slot 11 (Ab .i64 s.2)] a w) (fun res e a w => match res with | .next s => e = .exit 1 ∧ A0 c [.slot 7 (Ab .i64 x18), .slot 10 (Ab .i64 s.1)] a w | .ret r => e = .ret ∧ DF Tryd.prog Tryd.f67 c (DJ [(Ab .i64 r.1), (Ab .i64 r.2)]) (fun _ => []) a w) ?_ _ (x26, 1) _ _ _ (h.sub [0, 1, 2, 3, 4] (by rfl)) hl38) ?_
                · clear hl38 hF h
                  intro s a w o h hF
                  obtain ⟨x29, x30⟩ := s
                  change AV.b1 a_0 a_1 x18 x29 x30 = some o at hF
                  unfold AV.b1 at hF
                  change A0 c [.slot 0 (AF a_0), .slot 1 (Ab .i64 a_1), .slot 7 (Ab .i64 x18), .slot 10 (Ab .i64 x29), .slot 11 (Ab .i64 x30)] a w at h
                  refine wp_seq ?_
                  refine AU mixed hn hG h [0, 1, 2, 3, 4, 500] (ov [4] (Ag q0) <| ov [2] (Ag q0) <| ov [501, 500] (Ax Cj q0 q1) .nil) fun _ a w h => ?_
                  refine DN h hF 5 [0, 1, 2, 3, 4] [0, 1, 2, 3, 4] (fun hb35 hF h => ?_) (fun hb35 hF h => ?_)
                  · refine wp_skip ?_
                    show Code.wp Tryd.prog _ _ a w
                    refine wp_seq ?_
                    refine wp_block ?_
                    obtain ⟨hv36, hF⟩ := AH hF
                    refine CK mixed hn hG h [0, 1, 2, 500, 4] (ov [3] (Ag q0) <| ov [500] (Ax FZ q0 qi) <| ov [0] (Ag q0) <| ov [1] (Ag q0) <| ov [4] (Ag q0) <| ov [501, 500] (Ax BC q0 q1) <| ov [503, 500] (CB Tryd.underlying9 q0 q1 hv36) <| ov [500] (Bi Tryd.underlying5 Tryd.underlying3 q0) <| ov [500] (Ax (En (by decide)) q0 qi) <| ov [507, 500] (Ax BC q0 q1) <| od [500] 3 (Ak q0) .nil) fun _ a w h => ?_
                    show Code.wp Tryd.prog _ _ a w
                    refine CK mixed hn hG h [0, 1, 2, 3, 500] (ov [4] (Ag q0) <| ov [500] (Ax BC q0 qi) <| od [500] 4 (Ak q0) .nil) fun _ a w h => ?_
                    obtain rfl := Option.some.inj hF
                    exact ⟨rfl, h.sub [0, 1, 2, 3, 4] (by rfl)⟩
                  · refine wp_exit ?_
                    obtain rfl := Option.some.inj hF
                    exact ⟨CV _, rfl, h.sub [2, 3] (by rfl)⟩
                · clear hl38
                  intro e a w hq
                  cases cr37 with
                  | ret r39 =>
                    obtain ⟨rfl, hq⟩ := hq
                    obtain rfl := Option.some.inj hF
                    exact ⟨.inl rfl, hq⟩
                  | next s40 =>
                    obtain ⟨y41, y42⟩ := s40
                    obtain ⟨rfl, h⟩ := hq
                    change A0 c [.slot 7 (Ab .i64 x18), .slot 10 (Ab .i64 y41)] a w at h
                    refine BT ?_
                    show Code.wp Tryd.prog _ _ a w
                    refine AU mixed hn hG h [501, 500] (ov [1] (Ag q0) <| ov [0] (Ag q0) <| ov [500] (Ax BC q0 qi) <| ov [502] (Ak q0) <| ov [501] (Ak q0) .nil) fun _ a w h => ?_
                    refine wp_ret ?_
                    obtain rfl := Option.some.inj hF
                    exact ⟨.inl rfl, Gw h (rs := [.tmp 4, .tmp 5]) (Vs := [(Ab .i64 y41), (Ab .i64 (IntKind.wrap .i64 (x18 + 1)))]) Tryd.results67 (by decide) ⟨(By 0 rfl), (By 1 rfl), trivial⟩ [] [] rfl rfl rfl⟩

def B5.b1 (a_0 : List UInt8) (x11 : Int) (x12 : List (Int)) : Option (Ds (List (Int)) (Int × (List (Int)))) := (if (decide (x11 < (a_0.length : Int))) = true then ((AV a_0 x11).bind fun r22 => (if x12.length + [r22.1].length ≤ Bw ∧ (x12.length + [r22.1].length) * 8 ≤ 140737488355328 then some (.cont (IntKind.wrap .i64 (x11 + r22.2), x12 ++ [r22.1])) else none)) else some (.brk (x11, x12)))
def B5 (a_0 : List UInt8) : Option (List (Int)) := ((Cs (fun s : Int × (List (Int)) => B5.b1 a_0 s.1 s.2) (((a_0.length : Int) - 0 : Int).toNat + 2) (0, [])).bind fun cr => match cr with | .ret r => some r | .next (y29, y30) => some y30)
theorem GV {a_0 : List UInt8} {r : (List (Int))} (hF : B5 a_0 = some r) : AX Tryd.prog KG 55 [(AF a_0)] [] (fun _ => []) (Ai (iC .i64) r) := by
  refine AX.intro 25 Tryd.func55 rfl Tryd.ntmps55 (Nat.le_of_ble_eq_true rfl) ?_
  intro c a w hG hn h
  unfold B5 at hF
  change A0 c [.slot 0 (AF a_0)] a w at h
  refine AU mixed hn hG h [0] (ov [] (Ak (B9 (ec _))) .nil) fun _ a w h => ?_
  refine AU mixed hn hG h [0, 500] (ov [] (Ak (B9 (ec _))) .nil) fun _ a w h => ?_
  refine wp_seq ?_
  refine AU mixed hn hG h [0, 1, 500] (ov [] (Ak qi) .nil) fun _ a w h => ?_
  refine wp_block ?_
  obtain ⟨q6, h⟩ : ∃ q6 : Value, A0 c [.slot 0 (AF a_0), .slot 3 (Bf q6), .slot 4 (Ab .i64 0), .res (acc q6 3 1 (iC .i64) [])] a w := ⟨.slice none 0 0, (h.Mn 3 1 (iC .i64)).sub [0, 1, 2, 3] (by rfl)⟩
  obtain ⟨cr25, hl26, hF⟩ := bind_some hF
  refine wp_mono (Ci (R := (List (Int))) (S := Int × (List (Int))) (fun s a w => ∃ q13 : Value, A0 c [.slot 0 (AF a_0), .slot 3 (Bf q13), .slot 4 (Ab .i64 s.1), .res (acc q13 3 1 (iC .i64) s.2)] a w) (fun res e a w => match res with | .next s => e = .exit 0 ∧ ∃ q13 : Value, A0 c [.slot 3 (Bf q13), .res (acc q13 3 1 (iC .i64) s.2)] a w | .ret r => e = .ret ∧ DF Tryd.prog Tryd.f55 c (Ai (iC .i64) r) (fun _ => []) a w) ?_ _ (0, []) _ _ _ ⟨q6, (h.sub [0, 1, 2, 3] (by rfl))⟩ hl26) ?_
  · clear hl26 hF h
    intro s a w o h hF
    obtain ⟨x11, x12⟩ := s
    obtain ⟨q13, h⟩ := h
    change B5.b1 a_0 x11 x12 = some o at hF
    unfold B5.b1 at hF
    change A0 c [.slot 0 (AF a_0), .slot 3 (Bf q13), .slot 4 (Ab .i64 x11), .res (acc q13 3 1 (iC .i64) x12)] a w at h
    refine wp_seq ?_
    refine AU mixed hn hG h [0, 1, 2, 500, 3] (ov [2] (Ag q0) <| ov [0] (Ag q0) <| ov [500] (CU Tryd.underlying9 q0) <| ov [502, 500] (Ax B6 q0 q1) .nil) fun _ a w h => ?_
    refine DN h hF 3 [0, 1, 2, 4] [0, 1, 2, 4] (fun hb21 hF h => ?_) (fun hb21 hF h => ?_)
    · refine wp_skip ?_
      show Code.wp Tryd.prog _ _ a w
      refine wp_block ?_
      obtain ⟨r22, hr22, hF⟩ := bind_some hF
      refine AU mixed hn hG h [0, 1, 2, 501, 500, 3] (ov [0] (Ag q0) <| ov [2] (Ag q0) <| oc [501, 500] [] Tryd.call67 (Ia hr22) ⟨q0, q1, trivial⟩ <| ov [500] (Ag q0) <| ov [500] (CH q0 rfl) <| ov [501] (CH q0 rfl) <| ov [501] (Ak q0) <| ov [501] (Ak q0) .nil) fun _ a w h => ?_
      obtain ⟨hv23, hF⟩ := AH hF
      refine AU mixed hn hG h [0, 500, 2, 4, 501] (ov [1] (Ag q0) <| ov [3] (Ag q0) <| ov [500] (El (xs := [.tmp 18]) (ys := [r22.1]) _ rfl Tryd.underlying140 Tryd.sizeOf3 Tryd.zeroValue3 rfl rfl (by decide) (by decide) ⟨⟨_, q0, (Bc (Lr _ _))⟩, trivial⟩ (Ii .i64)) <| og [502, 500] [5] [.slot 20 3 100000 (fun v1_ _ => (Bf v1_)), .res 3 100000 (fun v1_ _ => (acc (v1_) 3 1 (iC .i64) (x12 ++ [r22.1])))] (A4.plain (GZ (i := Tryd.t3) Tryd.underlying140 Tryd.type3 rfl (Ii .i64) (by decide) rfl q0 q1 hv23) rfl) <| og [501] [1] [.slot 3 3 100000 (fun v1_ _ => (Bf v1_))] (fun {β} => (A4.drop _ (A4.plain (Ak (V := (Bf (β 3))) q0) rfl))) .nil) fun b24 a w h => ?_
      refine CK mixed hn hG h [0, 1, 500, 4] (ov [2] (Ag q0) <| ov [3] (Ag q0) <| ov [501, 500] (Ax BC q0 q1) <| od [500] 2 (Ak q0) .nil) fun _ a w h => ?_
      obtain rfl := Option.some.inj hF
      exact ⟨rfl, (b24 3), h.sub [0, 1, 2, 3] (by rfl)⟩
    · refine wp_exit ?_
      obtain rfl := Option.some.inj hF
      exact ⟨CV _, rfl, q13, h.sub [1, 3] (by rfl)⟩
  · clear hl26
    intro e a w hq
    cases cr25 with
    | ret r27 =>
      obtain ⟨rfl, hq⟩ := hq
      obtain rfl := Option.some.inj hF
      exact ⟨.inl rfl, hq⟩
    | next s28 =>
      obtain ⟨y29, y30⟩ := s28
      obtain ⟨rfl, q13, h⟩ := hq
      change A0 c [.slot 3 (Bf q13), .res (acc q13 3 1 (iC .i64) y30)] a w at h
      refine BT ?_
      show Code.wp Tryd.prog _ _ a w
      refine AU mixed hn hG h [500, 1] (ov [0] (Ag q0) <| ov [500] (Ak q0) .nil) fun _ a w h => ?_
      refine wp_ret ?_
      obtain rfl := Option.some.inj hF
      exact ⟨.inl rfl, Cv h Tryd.results55 (MX 0 1 rfl rfl) [] [] rfl rfl rfl⟩

def Dm.b1 (x5 : Int) (x6 : List UInt8) : Option (Ds (List UInt8) (Int × (List UInt8))) := (if (decide ((15 : Int) < x5)) = true then (if (0 : Int) ≤ (IntKind.wrap .i64 (x5.tdiv 16)).tmod 16 ∧ (IntKind.wrap .i64 (x5.tdiv 16)).tmod 16 ≤ IntKind.wrap .i64 (((IntKind.wrap .i64 (x5.tdiv 16)).tmod 16) + 1) ∧ IntKind.wrap .i64 (((IntKind.wrap .i64 (x5.tdiv 16)).tmod 16) + 1) ≤ ([48, 49, 50, 51, 52, 53, 54, 55, 56, 57, 97, 98, 99, 100, 101, 102] : List UInt8).length then (if ((([48, 49, 50, 51, 52, 53, 54, 55, 56, 57, 97, 98, 99, 100, 101, 102] : List UInt8).take (IntKind.wrap .i64 (((IntKind.wrap .i64 (x5.tdiv 16)).tmod 16) + 1)).toNat).drop ((IntKind.wrap .i64 (x5.tdiv 16)).tmod 16).toNat).length + x6.length ≤ Bw then some (.cont (IntKind.wrap .i64 (x5.tdiv 16), ((([48, 49, 50, 51, 52, 53, 54, 55, 56, 57, 97, 98, 99, 100, 101, 102] : List UInt8).take (IntKind.wrap .i64 (((IntKind.wrap .i64 (x5.tdiv 16)).tmod 16) + 1)).toNat).drop ((IntKind.wrap .i64 (x5.tdiv 16)).tmod 16).toNat) ++ x6)) else none) else none) else some (.brk (x5, x6)))
def Dm (a_0 : Int) : Option (List UInt8) := (if (0 : Int) ≤ a_0.tmod 16 ∧ a_0.tmod 16 ≤ IntKind.wrap .i64 ((a_0.tmod 16) + 1) ∧ IntKind.wrap .i64 ((a_0.tmod 16) + 1) ≤ ([48, 49, 50, 51, 52, 53, 54, 55, 56, 57, 97, 98, 99, 100, 101, 102] : List UInt8).length then ((Cs (fun s : Int × (List UInt8) => Dm.b1 s.1 s.2) ((a_0 - 15 : Int).toNat + 2) (a_0, (([48, 49, 50, 51, 52, 53, 54, 55, 56, 57, 97, 98, 99, 100, 101, 102] : List UInt8).take (IntKind.wrap .i64 ((a_0.tmod 16) + 1)).toNat).drop (a_0.tmod 16).toNat)).bind fun cr => match cr with | .ret r => some r | .next (y19, y20) => some y20) else none)
theorem GA {a_0 : Int} {r : (List UInt8)} (hF : Dm a_0 = some r) : AX Tryd.prog KG 56 [(Ab .i64 a_0)] [] (fun _ => []) (AF r) := by
  refine AX.intro 23 Tryd.func56 rfl Tryd.ntmps56 (Nat.le_of_ble_eq_true rfl) ?_
  intro c a w hG hn h
  unfold Dm at hF
  change A0 c [.slot 0 (Ab .i64 a_0)] a w at h
  refine AU mixed hn hG h [0] (ov [] (Ak (B9 (sc _ (by decide)))) .nil) fun _ a w h => ?_
  obtain ⟨hv1, hF⟩ := AH hF
  refine AU mixed hn hG h [0, 500] (ov [0] (Ag q0) <| ov [500] (Ax (En (by decide)) q0 qi) <| ov [0] (Ag q0) <| ov [500] (Ax (En (by decide)) q0 qi) <| ov [500] (Ax BC q0 qi) <| ov [503, 500] (Dg (a := a_0.tmod 16) (b := IntKind.wrap .i64 ((a_0.tmod 16) + 1)) Tryd.underlying9 (B9 (sc _ (by decide))) ⟨_, q0⟩ ⟨_, q1⟩ hv1) <| ov [500] (Ak q0) .nil) fun _ a w h => ?_
  refine wp_seq ?_
  refine wp_block ?_
  obtain ⟨cr15, hl16, hF⟩ := bind_some hF
  refine wp_mono (Ci (R := (List UInt8)) (S := Int × (List UInt8)) (fun s a w => A0 c [.slot 0 (Ab .i64 s.1), .slot 3 (AF s.2)] a w) (fun res e a w => match res with | .next s => e = .exit 0 ∧ A0 c [.slot 3 (AF s.2)] a w | .ret r => e = .ret ∧ DF Tryd.prog Tryd.f56 c (AF r) (fun _ => []) a w) ?_ _ (a_0, (([48, 49, 50, 51, 52, 53, 54, 55, 56, 57, 97, 98, 99, 100, 101, 102] : List UInt8).take (IntKind.wrap .i64 ((a_0.tmod 16) + 1)).toNat).drop (a_0.tmod 16).toNat) _ _ _ (h.sub [0, 1] (by rfl)) hl16) ?_
  · clear hl16 hF h
    intro s a w o h hF
    obtain ⟨x5, x6⟩ := s
    change Dm.b1 x5 x6 = some o at hF
    unfold Dm.b1 at hF
    change A0 c [.slot 0 (Ab .i64 x5), .slot 3 (AF x6)] a w at h
    refine wp_seq ?_
    refine AU mixed hn hG h [0, 1, 500] (ov [0] (Ag q0) <| ov [500] (Ax CD q0 qi) .nil) fun _ a w h => ?_
    refine DN h hF 2 [0, 1] [0, 1] (fun hb12 hF h => ?_) (fun hb12 hF h => ?_)
    · refine wp_skip ?_
      show Code.wp Tryd.prog _ _ a w
      refine wp_block ?_
      refine AU mixed hn hG h [500, 1] (ov [0] (Ag q0) <| ov [500] (Ax (GQ (by decide)) q0 qi) <| od [500] 0 (Ak q0) .nil) fun _ a w h => ?_
      obtain ⟨hv13, hF⟩ := AH hF
      obtain ⟨hv14, hF⟩ := AH hF
      refine CK mixed hn hG h [0, 500] (ov [0] (Ag q0) <| ov [500] (Ax (En (by decide)) q0 qi) <| ov [0] (Ag q0) <| ov [500] (Ax (En (by decide)) q0 qi) <| ov [500] (Ax BC q0 qi) <| ov [503, 500] (Dg (a := (IntKind.wrap .i64 (x5.tdiv 16)).tmod 16) (b := IntKind.wrap .i64 (((IntKind.wrap .i64 (x5.tdiv 16)).tmod 16) + 1)) Tryd.underlying9 (B9 (sc _ (by decide))) ⟨_, q0⟩ ⟨_, q1⟩ hv13) <| ov [1] (Ag q0) <| ov [501, 500] (Ax (A3 hv14) q0 q1) <| od [500] 1 (Ak q0) .nil) fun _ a w h => ?_
      obtain rfl := Option.some.inj hF
      exact ⟨rfl, h.sub [0, 1] (by rfl)⟩
    · refine wp_exit ?_
      obtain rfl := Option.some.inj hF
      exact ⟨CV _, rfl, h.sub [1] (by rfl)⟩
  · clear hl16
    intro e a w hq
    cases cr15 with
    | ret r17 =>
      obtain ⟨rfl, hq⟩ := hq
      obtain rfl := Option.some.inj hF
      exact ⟨.inl rfl, hq⟩
    | next s18 =>
      obtain ⟨y19, y20⟩ := s18
      obtain ⟨rfl, h⟩ := hq
      change A0 c [.slot 3 (AF y20)] a w at h
      refine BT ?_
      show Code.wp Tryd.prog _ _ a w
      refine AU mixed hn hG h [500] (ov [0] (Ag q0) <| ov [500] (Ak q0) .nil) fun _ a w h => ?_
      refine wp_ret ?_
      obtain rfl := Option.some.inj hF
      exact ⟨.inl rfl, Cv h Tryd.results56 (By 0 rfl) [] [] rfl rfl rfl⟩

def Bg.j2 (x18 : Int) (x56 : List UInt8) : Option (Ds (List UInt8) ((List UInt8) × Int)) := some (.cont (x56, IntKind.wrap .i64 (x18 + 1)))
def Bg.j3 (r1 : (List (Int))) (x17 : List UInt8) (x18 : Int) (x60 : Bool) : Option (Ds (List UInt8) ((List UInt8) × Int)) := (if x60 = true then (if x17.length + [Dn (IntKind.wrap .u8 (r1.getD x18.toNat default))].length ≤ Bw then Bg.j2 x18 (x17 ++ [Dn (IntKind.wrap .u8 (r1.getD x18.toNat default))]) else none) else (if (decide ((2000000 : Int) ≤ (r1.getD x18.toNat default))) = true then (if x17.length + [92, 120].length ≤ Bw then ((Dm (IntKind.wrap .i64 ((r1.getD x18.toNat default) - 2000000))).bind fun r65 => (if (x17 ++ [92, 120]).length + r65.length ≤ Bw then (if ((x17 ++ [92, 120]) ++ r65).length + [59].length ≤ Bw then Bg.j2 x18 (((x17 ++ [92, 120]) ++ r65) ++ [59]) else none) else none)) else none) else (if x17.length + [92, 117].length ≤ Bw then ((Dm (r1.getD x18.toNat default)).bind fun r69 => (if (x17 ++ [92, 117]).length + r69.length ≤ Bw then (if ((x17 ++ [92, 117]) ++ r69).length + [59].length ≤ Bw then Bg.j2 x18 (((x17 ++ [92, 117]) ++ r69) ++ [59]) else none) else none)) else none)))
def Bg.j1 (r1 : (List (Int))) (x17 : List UInt8) (x18 : Int) (x41 : Bool) : Option (Ds (List UInt8) ((List UInt8) × Int)) := (if x41 = true then (if x17.length + [92].length ≤ Bw then (if (x17 ++ [92]).length + [Dn (IntKind.wrap .u8 (r1.getD x18.toNat default))].length ≤ Bw then Bg.j2 x18 ((x17 ++ [92]) ++ [Dn (IntKind.wrap .u8 (r1.getD x18.toNat default))]) else none) else none) else (if (decide ((32 : Int) ≤ (r1.getD x18.toNat default))) = true then Bg.j3 r1 x17 x18 (decide ((r1.getD x18.toNat default) ≤ (126 : Int))) else Bg.j3 r1 x17 x18 false))
def Bg.b1 (r1 : (List (Int))) (x17 : List UInt8) (x18 : Int) : Option (Ds (List UInt8) ((List UInt8) × Int)) := (if (decide (x18 < (r1.length : Int))) = true then (if (0 : Int) ≤ x18 ∧ x18 < r1.length then (if (decide ((r1.getD x18.toNat default) = (34 : Int))) = true then Bg.j1 r1 x17 x18 true else Bg.j1 r1 x17 x18 (decide ((r1.getD x18.toNat default) = (92 : Int)))) else none) else some (.brk (x17, x18)))
def Bg (a_0 : List UInt8) : Option (List UInt8) := ((B5 a_0).bind fun r1 => ((Cs (fun s : (List UInt8) × Int => Bg.b1 r1 s.1 s.2) (((r1.length : Int) - 0 : Int).toNat + 2) ([34], 0)).bind fun cr => match cr with | .ret r => some r | .next (y78, y79) => (if y78.length + [34].length ≤ Bw then some (y78 ++ [34]) else none)))
theorem Hy {a_0 : List UInt8} {r : (List UInt8)} (hF : Bg a_0 = some r) : AX Tryd.prog KG 40 [(AF a_0)] [] (fun _ => []) (AF r) := by
  refine AX.intro 56 Tryd.func40 rfl Tryd.ntmps40 (Nat.le_of_ble_eq_true rfl) ?_
  intro c a w hG hn h
  unfold Bg at hF
  change A0 c [.slot 0 (AF a_0)] a w at h
  refine AU mixed hn hG h [0] (ov [] (Ak (B9 (sc _ (by decide)))) .nil) fun _ a w h => ?_
  refine AU mixed hn hG h [0, 500] (ov [] (Ak (B9 (sc _ (by decide)))) .nil) fun _ a w h => ?_
  refine wp_seq ?_
  obtain ⟨r1, hr1, hF⟩ := bind_some hF
  refine AU mixed hn hG h [1, 502, 501, 500] (ov [0] (Ag q0) <| oc [500] [] Tryd.call55 (GV hr1) ⟨q0, trivial⟩ <| ov [500] (Bm Tryd.underlying140 q0) <| ov [] (Ag qi) .nil) fun _ a w h => ?_
  refine wp_block ?_
  obtain ⟨cr74, hl75, hF⟩ := bind_some hF
  refine wp_mono (Ci (R := (List UInt8)) (S := (List UInt8) × Int) (fun s a w => A0 c [.slot 3 (AF s.1), .slot 7 (Ai (iC .i64) r1), .slot 8 (Ab .i64 (r1.length : Int)), .slot 9 (Ab .i64 s.2)] a w) (fun res e a w => match res with | .next s => e = .exit 0 ∧ A0 c [.slot 3 (AF s.1)] a w | .ret r => e = .ret ∧ DF Tryd.prog Tryd.f40 c (AF r) (fun _ => []) a w) ?_ _ ([34], 0) _ _ _ (h.sub [0, 1, 2, 3] (by rfl)) hl75) ?_
  · clear hl75 hF h
    intro s a w o h hF
    obtain ⟨x17, x18⟩ := s
    change Bg.b1 r1 x17 x18 = some o at hF
    unfold Bg.b1 at hF
    change A0 c [.slot 3 (AF x17), .slot 7 (Ai (iC .i64) r1), .slot 8 (Ab .i64 (r1.length : Int)), .slot 9 (Ab .i64 x18)] a w at h
    refine AU mixed hn hG h [0, 1, 2, 3, 500] (ov [3, 2] (Ax B6 q0 q1) .nil) fun _ a w h => ?_
    refine wp_seq ?_
    refine DN h hF 4 [0, 1, 2, 3] [0, 1, 2, 3] (fun hb39 hF h => ?_) (fun hb39 hF h => ?_)
    · refine wp_skip ?_
      show Code.wp Tryd.prog _ _ a w
      refine wp_seq ?_
      refine wp_block ?_
      obtain ⟨hv40, hF⟩ := AH hF
      refine AU mixed hn hG h [0, 500, 1, 2, 3] (ov [1, 3] (BL Tryd.underlying140 Tryd.sizeOf3 (Ii .i64) q0 q1 hv40) <| ov [500] (Ef [] Tryd.isAgg3 q0) <| ov [500] (Ak q0) .nil) fun _ a w h => ?_
      refine wp_seq ?_
      refine BY (fun a w => ∃ (x41 : Bool), Bg.j1 r1 x17 x18 x41 = some o ∧ A0 c [.slot 3 (AF x17), .slot 5 (Ab .i64 (r1.getD x18.toNat default)), .slot 7 (Ai (iC .i64) r1), .slot 8 (Ab .i64 (r1.length : Int)), .slot 9 (Ab .i64 x18), .slot 18 (An x41)] a w) ?_ ?_
      · rcases Bool.eq_false_or_eq_true (decide ((r1.getD x18.toNat default) = (34 : Int))) with hb73 | hb73
        · replace hF := CZ hb73 hF
          refine CK mixed hn hG h [0, 1, 2, 3, 4, 500] (ov [1] (Ag q0) <| ov [500] (Ax B4 q0 qi) <| ov [500] (Ag q0) <| oe [500] [] (A4.A2 (want := false) hb73 rfl rfl rfl rfl) <| oe [501] [] (A4.A2 (want := false) hb73 rfl rfl rfl rfl) <| ov [502] (Bj hb73 q0 qb) .nil) fun _ a w h => ?_
          exact ⟨true, hF, h.sub [0, 1, 2, 3, 4, 5] (by rfl)⟩
        · replace hF := C0 hb73 hF
          refine CK mixed hn hG h [0, 1, 2, 3, 4, 500] (ov [1] (Ag q0) <| ov [500] (Ax B4 q0 qi) <| ov [500] (Ag q0) <| oe [500, 1] [] (A4.AN hb73 rfl rfl rfl (Ag q0)) <| oe [501, 500] [] (A4.AN hb73 rfl rfl rfl (Ax B4 q0 qi)) <| ov [502, 500] (Bd hb73 q0 q1) .nil) fun _ a w h => ?_
          exact ⟨decide ((r1.getD x18.toNat default) = (92 : Int)), hF, h.sub [0, 1, 2, 3, 4, 5] (by rfl)⟩
      · clear h hF
        rintro a w ⟨x41, hF, h⟩
        unfold Bg.j1 at hF
        show Code.wp Tryd.prog _ _ a w
        refine BY (fun a w => ∃ (x56 : List UInt8), Bg.j2 x18 x56 = some o ∧ A0 c [.slot 3 (AF x56), .slot 7 (Ai (iC .i64) r1), .slot 8 (Ab .i64 (r1.length : Int)), .slot 9 (Ab .i64 x18)] a w) ?_ ?_
        · refine DN h hF 5 [0, 1, 2, 3, 4] [0, 1, 2, 3, 4] (fun hb57 hF h => ?_) (fun hb57 hF h => ?_)
          · obtain ⟨hv58, hF⟩ := AH hF
            obtain ⟨hv59, hF⟩ := AH hF
            refine CK mixed hn hG h [500, 2, 3, 4] (ov [0] (Ag q0) <| ov [500] (Ax (A3 hv58) q0 (B9 (sc _ (by decide)))) <| ov [1] (Ag q0) <| ov [500] (Bi Tryd.underlying3 Tryd.underlying5 q0) <| ov [500] (El (xs := [.tmp 22]) (ys := [Dn (IntKind.wrap .u8 (r1.getD x18.toNat default))]) _ rfl Tryd.underlying62 Tryd.sizeOf5 Tryd.zeroValue5 rfl rfl (by decide) (by decide) ⟨⟨_, q0, (Fg _)⟩, trivial⟩ Fo) <| ov [500] (D1 Tryd.underlying62 Tryd.underlying5 Tryd.underlying9 q0) <| ov [504, 500] (Ax (A3 hv59) q0 q1) <| od [500] 0 (Ak q0) .nil) fun _ a w h => ?_
            exact ⟨(x17 ++ [92]) ++ [Dn (IntKind.wrap .u8 (r1.getD x18.toNat default))], hF, h.sub [0, 1, 2, 3] (by rfl)⟩
          · refine wp_seq ?_
            refine BY (fun a w => ∃ (x60 : Bool), Bg.j3 r1 x17 x18 x60 = some o ∧ A0 c [.slot 3 (AF x17), .slot 5 (Ab .i64 (r1.getD x18.toNat default)), .slot 7 (Ai (iC .i64) r1), .slot 8 (Ab .i64 (r1.length : Int)), .slot 9 (Ab .i64 x18), .slot 31 (An x60)] a w) ?_ ?_
            · rcases Bool.eq_false_or_eq_true (decide ((32 : Int) ≤ (r1.getD x18.toNat default))) with hb72 | hb72
              · replace hF := CZ hb72 hF
                refine CK mixed hn hG h [0, 1, 2, 3, 4, 500] (ov [1] (Ag q0) <| ov [500] (Ax CW q0 qi) <| ov [500] (Ag q0) <| oe [500, 1] [] (A4.AN hb72 rfl rfl rfl (Ag q0)) <| oe [501, 500] [] (A4.AN hb72 rfl rfl rfl (Ax Cj q0 qi)) <| ov [502, 500] (Bj hb72 q0 q1) .nil) fun _ a w h => ?_
                exact ⟨decide ((r1.getD x18.toNat default) ≤ (126 : Int)), hF, h.sub [0, 1, 2, 3, 4, 5] (by rfl)⟩
              · replace hF := C0 hb72 hF
                refine CK mixed hn hG h [0, 1, 2, 3, 4, 500] (ov [1] (Ag q0) <| ov [500] (Ax CW q0 qi) <| ov [500] (Ag q0) <| oe [500] [] (A4.A2 (want := true) hb72 rfl rfl rfl rfl) <| oe [501] [] (A4.A2 (want := true) hb72 rfl rfl rfl rfl) <| ov [502] (Bd hb72 q0 qb) .nil) fun _ a w h => ?_
                exact ⟨false, hF, h.sub [0, 1, 2, 3, 4, 5] (by rfl)⟩
            · clear h hF
              rintro a w ⟨x60, hF, h⟩
              unfold Bg.j3 at hF
              show Code.wp Tryd.prog _ _ a w
              refine DN h hF 5 [0, 1, 2, 3, 4] [0, 1, 2, 3, 4] (fun hb61 hF h => ?_) (fun hb61 hF h => ?_)
              · obtain ⟨hv62, hF⟩ := AH hF
                refine CK mixed hn hG h [500, 2, 3, 4] (ov [0] (Ag q0) <| ov [1] (Ag q0) <| ov [500] (Bi Tryd.underlying3 Tryd.underlying5 q0) <| ov [500] (El (xs := [.tmp 34]) (ys := [Dn (IntKind.wrap .u8 (r1.getD x18.toNat default))]) _ rfl Tryd.underlying62 Tryd.sizeOf5 Tryd.zeroValue5 rfl rfl (by decide) (by decide) ⟨⟨_, q0, (Fg _)⟩, trivial⟩ Fo) <| ov [500] (D1 Tryd.underlying62 Tryd.underlying5 Tryd.underlying9 q0) <| ov [504, 500] (Ax (A3 hv62) q0 q1) <| od [500] 0 (Ak q0) .nil) fun _ a w h => ?_
                exact ⟨x17 ++ [Dn (IntKind.wrap .u8 (r1.getD x18.toNat default))], hF, h.sub [0, 1, 2, 3] (by rfl)⟩
              · refine AU mixed hn hG h [0, 1, 2, 3, 4, 500] (ov [1] (Ag q0) <| ov [500] (Ax CW q0 qi) .nil) fun _ a w h => ?_
                refine DN h hF 5 [0, 1, 2, 3, 4] [0, 1, 2, 3, 4] (fun hb63 hF h => ?_) (fun hb63 hF h => ?_)
                · obtain ⟨hv64, hF⟩ := AH hF
                  obtain ⟨r65, hr65, hF⟩ := bind_some hF
                  obtain ⟨hv66, hF⟩ := AH hF
                  obtain ⟨hv67, hF⟩ := AH hF
                  refine CK mixed hn hG h [500, 2, 3, 4] (ov [0] (Ag q0) <| ov [500] (Ax (A3 hv64) q0 (B9 (sc _ (by decide)))) <| ov [1] (Ag q0) <| ov [500] (Ax DR q0 qi) <| oc [500] [] Tryd.call56 (GA hr65) ⟨q0, trivial⟩ <| ov [503, 500] (Ax (A3 hv66) q0 q1) <| ov [500] (Ax (A3 hv67) q0 (B9 (sc _ (by decide)))) <| od [500] 0 (Ak q0) .nil) fun _ a w h => ?_
                  exact ⟨((x17 ++ [92, 120]) ++ r65) ++ [59], hF, h.sub [0, 1, 2, 3] (by rfl)⟩
                · obtain ⟨hv68, hF⟩ := AH hF
                  obtain ⟨r69, hr69, hF⟩ := bind_some hF
                  obtain ⟨hv70, hF⟩ := AH hF
                  obtain ⟨hv71, hF⟩ := AH hF
                  refine CK mixed hn hG h [500, 2, 3, 4] (ov [0] (Ag q0) <| ov [500] (Ax (A3 hv68) q0 (B9 (sc _ (by decide)))) <| ov [1] (Ag q0) <| oc [500] [] Tryd.call56 (GA hr69) ⟨q0, trivial⟩ <| ov [502, 500] (Ax (A3 hv70) q0 q1) <| ov [500] (Ax (A3 hv71) q0 (B9 (sc _ (by decide)))) <| od [500] 0 (Ak q0) .nil) fun _ a w h => ?_
                  exact ⟨((x17 ++ [92, 117]) ++ r69) ++ [59], hF, h.sub [0, 1, 2, 3] (by rfl)⟩
        · clear h hF
          rintro a w ⟨x56, hF, h⟩
          unfold Bg.j2 at hF
          show Code.wp Tryd.prog _ _ a w
          refine CK mixed hn hG h [0, 1, 2, 500] (ov [3] (Ax BC q0 qi) <| od [500] 3 (Ag q0) .nil) fun _ a w h => ?_
          obtain rfl := Option.some.inj hF
          exact ⟨rfl, h.sub [0, 1, 2, 3] (by rfl)⟩
    · refine wp_exit ?_
      obtain rfl := Option.some.inj hF
      exact ⟨CV _, rfl, h.sub [0] (by rfl)⟩
  · clear hl75
    intro e a w hq
    cases cr74 with
    | ret r76 =>
      obtain ⟨rfl, hq⟩ := hq
      obtain rfl := Option.some.inj hF
      exact ⟨.inl rfl, hq⟩
    | next s77 =>
      obtain ⟨y78, y79⟩ := s77
      obtain ⟨rfl, h⟩ := hq
      change A0 c [.slot 3 (AF y78)] a w at h
      refine BT ?_
      show Code.wp Tryd.prog _ _ a w
      obtain ⟨hv80, hF⟩ := AH hF
      refine AU mixed hn hG h [500] (ov [0] (Ag q0) <| ov [500] (Ax (A3 hv80) q0 (B9 (sc _ (by decide)))) <| ov [500] (Ak q0) .nil) fun _ a w h => ?_
      refine wp_ret ?_
      obtain rfl := Option.some.inj hF
      exact ⟨.inl rfl, Cv h Tryd.results40 (By 0 rfl) [] [] rfl rfl rfl⟩

def E0 (a_0 : List UInt8) : Option (List UInt8) := ((Bg a_0).bind fun r1 => some r1)
theorem ES {a_0 : List UInt8} {r : (List UInt8)} (hF : E0 a_0 = some r) : AX Tryd.prog KG 25 [(AF a_0)] [] (fun _ => []) (AF r) := by
  refine AX.intro 5 Tryd.func25 rfl Tryd.ntmps25 (Nat.le_of_ble_eq_true rfl) ?_
  intro c a w hG hn h
  unfold E0 at hF
  change A0 c [.slot 0 (AF a_0)] a w at h
  refine AU mixed hn hG h [0] (ov [] (Ak (B9 (sc _ (by decide)))) .nil) fun _ a w h => ?_
  obtain ⟨r1, hr1, hF⟩ := bind_some hF
  refine AU mixed hn hG h [500] (ov [0] (Ag q0) <| oc [500] [] Tryd.call40 (Hy hr1) ⟨q0, trivial⟩ <| ov [500] (Ak q0) .nil) fun _ a w h => ?_
  refine wp_ret ?_
  obtain rfl := Option.some.inj hF
  exact ⟨.inl rfl, Cv h Tryd.results25 (By 0 rfl) [] [] rfl rfl rfl⟩

def BU.j2 (a_0 : Ap) (x4 : List UInt8) : Option (List UInt8) := (if [101, 118, 101, 110, 116, 32].length + x4.length ≤ Bw then (if ([101, 118, 101, 110, 116, 32] ++ x4).length + [32].length ≤ Bw then ((E0 a_0.Bb).bind fun r7 => (if (([101, 118, 101, 110, 116, 32] ++ x4) ++ [32]).length + r7.length ≤ Bw then (if ((([101, 118, 101, 110, 116, 32] ++ x4) ++ [32]) ++ r7).length + [32].length ≤ Bw then ((Df a_0.BB).bind fun r10 => (if (((([101, 118, 101, 110, 116, 32] ++ x4) ++ [32]) ++ r7) ++ [32]).length + r10.length ≤ Bw then some ((((([101, 118, 101, 110, 116, 32] ++ x4) ++ [32]) ++ r7) ++ [32]) ++ r10) else none)) else none) else none)) else none) else none)
def BU.j1 (a_0 : Ap) (x2 : Bool) : Option (List UInt8) := (if x2 = true then (if (0 : Int) ≤ IntKind.wrap .i64 (a_0.Bv - 1) ∧ IntKind.wrap .i64 (a_0.Bv - 1) < [[112, 97, 105, 100], [100, 105, 115, 112, 97, 116, 99, 104, 101, 100], [117, 112, 100, 97, 116, 101, 100], [115, 108, 97, 115, 104, 101, 100], [97, 99, 99, 101, 112, 116, 101, 100], [115, 116, 111, 112, 112, 101, 100], [98, 114, 111, 107, 101, 110], [112, 114, 111, 118, 101, 110], [112, 114, 111, 99, 101, 115, 115, 101, 100], [115, 97, 105, 100]].length then BU.j2 a_0 ([[112, 97, 105, 100], [100, 105, 115, 112, 97, 116, 99, 104, 101, 100], [117, 112, 100, 97, 116, 101, 100], [115, 108, 97, 115, 104, 101, 100], [97, 99, 99, 101, 112, 116, 101, 100], [115, 116, 111, 112, 112, 101, 100], [98, 114, 111, 107, 101, 110], [112, 114, 111, 118, 101, 110], [112, 114, 111, 99, 101, 115, 115, 101, 100], [115, 97, 105, 100]].getD (IntKind.wrap .i64 (a_0.Bv - 1)).toNat default) else none) else BU.j2 a_0 [110, 111, 110, 101])
def BU (a_0 : Ap) : Option (List UInt8) := (if (decide ((1 : Int) ≤ a_0.Bv)) = true then BU.j1 a_0 (decide (a_0.Bv ≤ (10 : Int))) else BU.j1 a_0 false)
theorem FK {a_0 : Ap} {r : (List UInt8)} (hF : BU a_0 = some r) : AX Tryd.prog KG 10 [(Co [one (Ab .i64 a_0.Bv), one (AF a_0.Bb), one (Ab .u64 a_0.BB), Af 32 a_0.BH])] [] (fun _ => []) (AF r) := by
  refine AX.intro 32 Tryd.func10 rfl Tryd.ntmps10 (Nat.le_of_ble_eq_true rfl) ?_
  intro c a w hG hn h
  unfold BU at hF
  change A0 c [.slot 0 (Co [one (Ab .i64 a_0.Bv), one (AF a_0.Bb), one (Ab .u64 a_0.BB), Af 32 a_0.BH])] a w at h
  refine AU mixed hn hG h [502, 501] (ob [0] (DL q0 (BD _)) <| ov [] (Ak (B9 (sc _ (by decide)))) .nil) fun b1 a w h => ?_
  refine AU mixed hn hG h [0, 500, 1] (ov [] (El (xs := [.const (.string ⟨#[112, 97, 105, 100]⟩), .const (.string ⟨#[100, 105, 115, 112, 97, 116, 99, 104, 101, 100]⟩), .const (.string ⟨#[117, 112, 100, 97, 116, 101, 100]⟩), .const (.string ⟨#[115, 108, 97, 115, 104, 101, 100]⟩), .const (.string ⟨#[97, 99, 99, 101, 112, 116, 101, 100]⟩), .const (.string ⟨#[115, 116, 111, 112, 112, 101, 100]⟩), .const (.string ⟨#[98, 114, 111, 107, 101, 110]⟩), .const (.string ⟨#[112, 114, 111, 118, 101, 110]⟩), .const (.string ⟨#[112, 114, 111, 99, 101, 115, 115, 101, 100]⟩), .const (.string ⟨#[115, 97, 105, 100]⟩)]) (ys := [[112, 97, 105, 100], [100, 105, 115, 112, 97, 116, 99, 104, 101, 100], [117, 112, 100, 97, 116, 101, 100], [115, 108, 97, 115, 104, 101, 100], [97, 99, 99, 101, 112, 116, 101, 100], [115, 116, 111, 112, 112, 101, 100], [98, 114, 111, 107, 101, 110], [112, 114, 111, 118, 101, 110], [112, 114, 111, 99, 101, 115, 115, 101, 100], [115, 97, 105, 100]]) _ rfl Tryd.underlying87 Tryd.sizeOf9 Tryd.zeroValue9 rfl rfl (by decide) (by decide) ⟨⟨_, (B9 (sc _ (by decide))), (Bc (Bt _))⟩, ⟨_, (B9 (sc _ (by decide))), (Bc (Bt _))⟩, ⟨_, (B9 (sc _ (by decide))), (Bc (Bt _))⟩, ⟨_, (B9 (sc _ (by decide))), (Bc (Bt _))⟩, ⟨_, (B9 (sc _ (by decide))), (Bc (Bt _))⟩, ⟨_, (B9 (sc _ (by decide))), (Bc (Bt _))⟩, ⟨_, (B9 (sc _ (by decide))), (Bc (Bt _))⟩, ⟨_, (B9 (sc _ (by decide))), (Bc (Bt _))⟩, ⟨_, (B9 (sc _ (by decide))), (Bc (Bt _))⟩, ⟨_, (B9 (sc _ (by decide))), (Bc (Bt _))⟩, trivial⟩ DU) <| ov [500] (Ak q0) .nil) fun _ a w h => ?_
  refine AU mixed hn hG h [0, 1, 500, 2] (ov [] (Ak (B9 (sc _ (by decide)))) .nil) fun _ a w h => ?_
  refine wp_seq ?_
  refine wp_seq ?_
  refine BY (fun a w => ∃ (x2 : Bool), BU.j1 a_0 x2 = some r ∧ A0 c [.slot 1 (BG (b1 0) 0), .slot 3 (Ai F1 [[112, 97, 105, 100], [100, 105, 115, 112, 97, 116, 99, 104, 101, 100], [117, 112, 100, 97, 116, 101, 100], [115, 108, 97, 115, 104, 101, 100], [97, 99, 99, 101, 112, 116, 101, 100], [115, 116, 111, 112, 112, 101, 100], [98, 114, 111, 107, 101, 110], [112, 114, 111, 118, 101, 110], [112, 114, 111, 99, 101, 115, 115, 101, 100], [115, 97, 105, 100]]), .slot 4 (AF [110, 111, 110, 101]), .slot 13 (An x2), .res (lb (b1 0) 48 [one (Ab .i64 a_0.Bv), one (AF a_0.Bb), one (Ab .u64 a_0.BB), Af 32 a_0.BH])] a w) ?_ ?_
  · rcases Bool.eq_false_or_eq_true (decide ((1 : Int) ≤ a_0.Bv)) with hb14 | hb14
    · replace hF := CZ hb14 hF
      refine CK mixed hn hG h [0, 1, 2, 500, 3] (ov [0] (Ah (p := (b1 0)) (n := 1) 0 0 Tryd.underlying48 rfl Tryd.sizeOf3 (by decide) q0 rfl) <| ov [500, 3] (AE [] [one (AF a_0.Bb), one (Ab .u64 a_0.BB), Af 32 a_0.BH] 1 Tryd.isAgg3 q0 rfl rfl) <| ov [500] (Ax CW q0 qi) <| ov [500] (Ag q0) <| oe [500, 0] [] (A4.AN hb14 rfl rfl rfl (Ah (p := (b1 0)) (n := 1) 0 0 Tryd.underlying48 rfl Tryd.sizeOf3 (by decide) q0 rfl)) <| oe [501, 500, 3] [] (A4.AN hb14 rfl rfl rfl (AE [] [one (AF a_0.Bb), one (Ab .u64 a_0.BB), Af 32 a_0.BH] 1 Tryd.isAgg3 q0 rfl rfl)) <| oe [502, 500] [] (A4.AN hb14 rfl rfl rfl (Ax Cj q0 qi)) <| ov [503, 500] (Bj hb14 q0 q1) .nil) fun _ a w h => ?_
      exact ⟨decide (a_0.Bv ≤ (10 : Int)), hF, h.sub [0, 1, 2, 3, 4] (by rfl)⟩
    · replace hF := C0 hb14 hF
      refine CK mixed hn hG h [0, 1, 2, 500, 3] (ov [0] (Ah (p := (b1 0)) (n := 1) 0 0 Tryd.underlying48 rfl Tryd.sizeOf3 (by decide) q0 rfl) <| ov [500, 3] (AE [] [one (AF a_0.Bb), one (Ab .u64 a_0.BB), Af 32 a_0.BH] 1 Tryd.isAgg3 q0 rfl rfl) <| ov [500] (Ax CW q0 qi) <| ov [500] (Ag q0) <| oe [500] [] (A4.A2 (want := true) hb14 rfl rfl rfl rfl) <| oe [501] [] (A4.A2 (want := true) hb14 rfl rfl rfl rfl) <| oe [502] [] (A4.A2 (want := true) hb14 rfl rfl rfl rfl) <| ov [503] (Bd hb14 q0 qb) .nil) fun _ a w h => ?_
      exact ⟨false, hF, h.sub [0, 1, 2, 3, 4] (by rfl)⟩
  · clear h hF
    rintro a w ⟨x2, hF, h⟩
    unfold BU.j1 at hF
    show Code.wp Tryd.prog _ _ a w
    refine BY (fun a w => ∃ (x4 : List UInt8), BU.j2 a_0 x4 = some r ∧ A0 c [.slot 1 (BG (b1 0) 0), .slot 4 (AF x4), .res (lb (b1 0) 48 [one (Ab .i64 a_0.Bv), one (AF a_0.Bb), one (Ab .u64 a_0.BB), Af 32 a_0.BH])] a w) ?_ ?_
    · refine DN h hF 3 [0, 1, 4] [0, 2, 4] (fun hb12 hF h => ?_) (fun hb12 hF h => ?_)
      · obtain ⟨hv13, hF⟩ := AH hF
        refine CK mixed hn hG h [0, 500, 2] (ov [1] (Ag q0) <| ov [0] (Ah (p := (b1 0)) (n := 1) 0 0 Tryd.underlying48 rfl Tryd.sizeOf3 (by decide) q0 rfl) <| ov [500, 2] (AE [] [one (AF a_0.Bb), one (Ab .u64 a_0.BB), Af 32 a_0.BH] 1 Tryd.isAgg3 q0 rfl rfl) <| ov [500] (Ax DR q0 qi) <| ov [503, 500] (BL Tryd.underlying87 Tryd.sizeOf9 DU q0 q1 hv13) <| ov [500] (Ef [] Tryd.isAgg9 q0) <| ov [500] (Ak q0) .nil) fun _ a w h => ?_
        exact ⟨[[112, 97, 105, 100], [100, 105, 115, 112, 97, 116, 99, 104, 101, 100], [117, 112, 100, 97, 116, 101, 100], [115, 108, 97, 115, 104, 101, 100], [97, 99, 99, 101, 112, 116, 101, 100], [115, 116, 111, 112, 112, 101, 100], [98, 114, 111, 107, 101, 110], [112, 114, 111, 118, 101, 110], [112, 114, 111, 99, 101, 115, 115, 101, 100], [115, 97, 105, 100]].getD (IntKind.wrap .i64 (a_0.Bv - 1)).toNat default, hF, h.sub [0, 1, 2] (by rfl)⟩
      · refine wp_skip ?_
        exact ⟨[110, 111, 110, 101], hF, h.sub [0, 1, 2] (by rfl)⟩
    · clear h hF
      rintro a w ⟨x4, hF, h⟩
      unfold BU.j2 at hF
      show Code.wp Tryd.prog _ _ a w
      obtain ⟨hv5, hF⟩ := AH hF
      obtain ⟨hv6, hF⟩ := AH hF
      obtain ⟨r7, hr7, hF⟩ := bind_some hF
      obtain ⟨hv8, hF⟩ := AH hF
      obtain ⟨hv9, hF⟩ := AH hF
      obtain ⟨r10, hr10, hF⟩ := bind_some hF
      obtain ⟨hv11, hF⟩ := AH hF
      refine AU mixed hn hG h [500] (ov [1] (Ag q0) <| ov [500] (Ax (A3 hv5) (B9 (sc _ (by decide))) q0) <| ov [500] (Ax (A3 hv6) q0 (B9 (sc _ (by decide)))) <| ov [0] (Ah (p := (b1 0)) (n := 1) 0 1 Tryd.underlying48 rfl Tryd.sizeOf9 (by decide) q0 rfl) <| ov [500, 2] (AE [one (Ab .i64 a_0.Bv)] [one (Ab .u64 a_0.BB), Af 32 a_0.BH] 1 Tryd.isAgg9 q0 rfl rfl) <| oc [500] [] Tryd.call25 (ES hr7) ⟨q0, trivial⟩ <| ov [503, 500] (Ax (A3 hv8) q0 q1) <| ov [500] (Ax (A3 hv9) q0 (B9 (sc _ (by decide)))) <| ov [0] (Ah (p := (b1 0)) (n := 1) 0 2 Tryd.underlying48 rfl Tryd.sizeOf23 (by decide) q0 rfl) <| ov [500, 2] (AE [one (Ab .i64 a_0.Bv), one (AF a_0.Bb)] [Af 32 a_0.BH] 1 Tryd.isAgg23 q0 rfl rfl) <| oc [500] [] Tryd.call24 (CM hr10) ⟨q0, trivial⟩ <| ov [503, 500] (Ax (A3 hv11) q0 q1) <| ov [500] (Ak q0) .nil) fun _ a w h => ?_
      refine wp_ret ?_
      obtain rfl := Option.some.inj hF
      exact ⟨.inl rfl, Cv h Tryd.results10 (By 0 rfl) [] [] rfl rfl rfl⟩

def Ee (a_0 : Int) (a_1 : Int) : Option Int := (if (decide (a_0 < a_1)) = true then some 0 else some (IntKind.wrap .u64 (a_0 - a_1)))
theorem FM {a_0 : Int} {a_1 : Int} {r : Int} (hF : Ee a_0 a_1 = some r) : AX Tryd.prog KG 41 [(Ab .u64 a_0), (Ab .u64 a_1)] [] (fun _ => []) (Ab .u64 r) := by
  refine AX.intro 11 Tryd.func41 rfl Tryd.ntmps41 (Nat.le_of_ble_eq_true rfl) ?_
  intro c a w hG hn h
  unfold Ee at hF
  change A0 c [.slot 0 (Ab .u64 a_0), .slot 1 (Ab .u64 a_1)] a w at h
  refine AU mixed hn hG h [0, 1] (ov [] (Ak qi) .nil) fun _ a w h => ?_
  refine wp_seq ?_
  refine AU mixed hn hG h [0, 1, 500] (ov [1] (Ag q0) <| ov [0] (Ag q0) <| ov [501, 500] (Ax CD q0 q1) .nil) fun _ a w h => ?_
  refine DN h hF 2 [] [0, 1] (fun hb1 hF h => ?_) (fun hb1 hF h => ?_)
  · refine AU mixed hn hG h [500] (ov [] (Ak qi) .nil) fun _ a w h => ?_
    refine wp_ret ?_
    obtain rfl := Option.some.inj hF
    exact ⟨.inl rfl, Cv h Tryd.results41 (By 0 rfl) [] [] rfl rfl rfl⟩
  · refine wp_skip ?_
    show Code.wp Tryd.prog _ _ a w
    refine AU mixed hn hG h [500] (ov [0] (Ag q0) <| ov [1] (Ag q0) <| ov [501, 500] (Ax DR q0 q1) <| ov [500] (Ak q0) .nil) fun _ a w h => ?_
    refine wp_ret ?_
    obtain rfl := Option.some.inj hF
    exact ⟨.inl rfl, Cv h Tryd.results41 (By 0 rfl) [] [] rfl rfl rfl⟩

def FU (a_0 : Aw) : Option (Int × Int) := ((Ee a_0.BO a_0.BQ).bind fun r2 => ((Ee a_0.BP a_0.Bx).bind fun r3 => some (r2, r3)))
theorem H9 {a_0 : Aw} {r : Int × Int} (hF : FU a_0 = some r) : AX Tryd.prog KG 26 [(Co [one (Ab .u32 a_0.Bp), one (AF a_0.Bb), one (Ab .u64 a_0.Dq), one (Ab .u64 a_0.BP), one (Ab .u64 a_0.Bx), one (Ab .u64 a_0.BO), one (Ab .u64 a_0.BQ)])] [] (fun _ => []) (DJ [(Ab .u64 r.1), (Ab .u64 r.2)]) := by
  refine AX.intro 14 Tryd.func26 rfl Tryd.ntmps26 (Nat.le_of_ble_eq_true rfl) ?_
  intro c a w hG hn h
  unfold FU at hF
  change A0 c [.slot 0 (Co [one (Ab .u32 a_0.Bp), one (AF a_0.Bb), one (Ab .u64 a_0.Dq), one (Ab .u64 a_0.BP), one (Ab .u64 a_0.Bx), one (Ab .u64 a_0.BO), one (Ab .u64 a_0.BQ)])] a w at h
  refine AU mixed hn hG h [503, 502] (ob [0] (DL q0 (BD _)) <| ov [] (Ak qi) <| ov [] (Ak qi) .nil) fun b1 a w h => ?_
  obtain ⟨r2, hr2, hF⟩ := bind_some hF
  obtain ⟨r3, hr3, hF⟩ := bind_some hF
  refine AU mixed hn hG h [501, 500] (ov [0] (Ah (p := (b1 0)) (n := 1) 0 5 Tryd.underlying77 rfl Tryd.sizeOf23 (by decide) q0 rfl) <| ov [500, 1] (AE [one (Ab .u32 a_0.Bp), one (AF a_0.Bb), one (Ab .u64 a_0.Dq), one (Ab .u64 a_0.BP), one (Ab .u64 a_0.Bx)] [one (Ab .u64 a_0.BQ)] 1 Tryd.isAgg23 q0 rfl rfl) <| ov [0] (Ah (p := (b1 0)) (n := 1) 0 6 Tryd.underlying77 rfl Tryd.sizeOf23 (by decide) q0 rfl) <| ov [500, 1] (AE [one (Ab .u32 a_0.Bp), one (AF a_0.Bb), one (Ab .u64 a_0.Dq), one (Ab .u64 a_0.BP), one (Ab .u64 a_0.Bx), one (Ab .u64 a_0.BO)] [] 1 Tryd.isAgg23 q0 rfl rfl) <| oc [502, 500] [] Tryd.call41 (FM hr2) ⟨q0, q1, trivial⟩ <| ov [0] (Ah (p := (b1 0)) (n := 1) 0 3 Tryd.underlying77 rfl Tryd.sizeOf23 (by decide) q0 rfl) <| ov [500, 1] (AE [one (Ab .u32 a_0.Bp), one (AF a_0.Bb), one (Ab .u64 a_0.Dq)] [one (Ab .u64 a_0.Bx), one (Ab .u64 a_0.BO), one (Ab .u64 a_0.BQ)] 1 Tryd.isAgg23 q0 rfl rfl) <| ov [0] (Ah (p := (b1 0)) (n := 1) 0 4 Tryd.underlying77 rfl Tryd.sizeOf23 (by decide) q0 rfl) <| ov [500, 1] (AE [one (Ab .u32 a_0.Bp), one (AF a_0.Bb), one (Ab .u64 a_0.Dq), one (Ab .u64 a_0.BP)] [one (Ab .u64 a_0.BO), one (Ab .u64 a_0.BQ)] 1 Tryd.isAgg23 q0 rfl rfl) <| oc [502, 500] [] Tryd.call41 (FM hr3) ⟨q0, q1, trivial⟩ <| ov [505] (Ak q0) <| ov [501] (Ak q0) .nil) fun _ a w h => ?_
  refine wp_ret ?_
  obtain rfl := Option.some.inj hF
  exact ⟨.inl rfl, Gw h (rs := [.tmp 2, .tmp 3]) (Vs := [(Ab .u64 r2), (Ab .u64 r3)]) Tryd.results26 (by decide) ⟨(By 0 rfl), (By 1 rfl), trivial⟩ [] [] rfl rfl rfl⟩

def EG (a_0 : Int) : Option (List UInt8) := ((Da (IntKind.wrap .u64 a_0)).bind fun r1 => some r1)
theorem ET {a_0 : Int} {r : (List UInt8)} (hF : EG a_0 = some r) : AX Tryd.prog KG 27 [(Ab .i64 a_0)] [] (fun _ => []) (AF r) := by
  refine AX.intro 6 Tryd.func27 rfl Tryd.ntmps27 (Nat.le_of_ble_eq_true rfl) ?_
  intro c a w hG hn h
  unfold EG at hF
  change A0 c [.slot 0 (Ab .i64 a_0)] a w at h
  refine AU mixed hn hG h [0] (ov [] (Ak (B9 (sc _ (by decide)))) .nil) fun _ a w h => ?_
  obtain ⟨r1, hr1, hF⟩ := bind_some hF
  refine AU mixed hn hG h [500] (ov [0] (Ag q0) <| ov [500] (Bi Tryd.underlying3 Tryd.underlying23 q0) <| oc [500] [] Tryd.call39 (F4 hr1) ⟨q0, trivial⟩ <| ov [500] (Ak q0) .nil) fun _ a w h => ?_
  refine wp_ret ?_
  obtain rfl := Option.some.inj hF
  exact ⟨.inl rfl, Cv h Tryd.results27 (By 0 rfl) [] [] rfl rfl rfl⟩

def CS.b1 (a_0 : List UInt8) (x7 : List UInt8) (x8 : Int) : Option (Ds (List UInt8) ((List UInt8) × Int)) := (if (decide (x8 < (32 : Int))) = true then (if (0 : Int) ≤ x8 ∧ x8 < 32 then (if (0 : Int) ≤ IntKind.wrap .u8 (((a_0.getD x8.toNat 0).toNat : Int).tdiv 16) ∧ IntKind.wrap .u8 (((a_0.getD x8.toNat 0).toNat : Int).tdiv 16) ≤ IntKind.wrap .u8 ((IntKind.wrap .u8 (((a_0.getD x8.toNat 0).toNat : Int).tdiv 16)) + 1) ∧ IntKind.wrap .u8 ((IntKind.wrap .u8 (((a_0.getD x8.toNat 0).toNat : Int).tdiv 16)) + 1) ≤ ([48, 49, 50, 51, 52, 53, 54, 55, 56, 57, 97, 98, 99, 100, 101, 102] : List UInt8).length then (if x7.length + ((([48, 49, 50, 51, 52, 53, 54, 55, 56, 57, 97, 98, 99, 100, 101, 102] : List UInt8).take (IntKind.wrap .u8 ((IntKind.wrap .u8 (((a_0.getD x8.toNat 0).toNat : Int).tdiv 16)) + 1)).toNat).drop (IntKind.wrap .u8 (((a_0.getD x8.toNat 0).toNat : Int).tdiv 16)).toNat).length ≤ Bw then (if (0 : Int) ≤ ((a_0.getD x8.toNat 0).toNat : Int).tmod 16 ∧ ((a_0.getD x8.toNat 0).toNat : Int).tmod 16 ≤ IntKind.wrap .u8 ((((a_0.getD x8.toNat 0).toNat : Int).tmod 16) + 1) ∧ IntKind.wrap .u8 ((((a_0.getD x8.toNat 0).toNat : Int).tmod 16) + 1) ≤ ([48, 49, 50, 51, 52, 53, 54, 55, 56, 57, 97, 98, 99, 100, 101, 102] : List UInt8).length then (if (x7 ++ ((([48, 49, 50, 51, 52, 53, 54, 55, 56, 57, 97, 98, 99, 100, 101, 102] : List UInt8).take (IntKind.wrap .u8 ((IntKind.wrap .u8 (((a_0.getD x8.toNat 0).toNat : Int).tdiv 16)) + 1)).toNat).drop (IntKind.wrap .u8 (((a_0.getD x8.toNat 0).toNat : Int).tdiv 16)).toNat)).length + ((([48, 49, 50, 51, 52, 53, 54, 55, 56, 57, 97, 98, 99, 100, 101, 102] : List UInt8).take (IntKind.wrap .u8 ((((a_0.getD x8.toNat 0).toNat : Int).tmod 16) + 1)).toNat).drop (((a_0.getD x8.toNat 0).toNat : Int).tmod 16).toNat).length ≤ Bw then some (.cont ((x7 ++ ((([48, 49, 50, 51, 52, 53, 54, 55, 56, 57, 97, 98, 99, 100, 101, 102] : List UInt8).take (IntKind.wrap .u8 ((IntKind.wrap .u8 (((a_0.getD x8.toNat 0).toNat : Int).tdiv 16)) + 1)).toNat).drop (IntKind.wrap .u8 (((a_0.getD x8.toNat 0).toNat : Int).tdiv 16)).toNat)) ++ ((([48, 49, 50, 51, 52, 53, 54, 55, 56, 57, 97, 98, 99, 100, 101, 102] : List UInt8).take (IntKind.wrap .u8 ((((a_0.getD x8.toNat 0).toNat : Int).tmod 16) + 1)).toNat).drop (((a_0.getD x8.toNat 0).toNat : Int).tmod 16).toNat), IntKind.wrap .i64 (x8 + 1))) else none) else none) else none) else none) else none) else some (.brk (x7, x8)))
def CS (a_0 : List UInt8) : Option (List UInt8) := ((Cs (fun s : (List UInt8) × Int => CS.b1 a_0 s.1 s.2) ((32 - 0 : Int).toNat + 2) ([], 0)).bind fun cr => match cr with | .ret r => some r | .next (y27, y28) => some y27)
theorem HL {a_0 : List UInt8} {r : (List UInt8)} (hF : CS a_0 = some r) : AX Tryd.prog KG 42 [(Co [Af 32 a_0])] [] (fun _ => []) (AF r) := by
  refine AX.intro 33 Tryd.func42 rfl Tryd.ntmps42 (Nat.le_of_ble_eq_true rfl) ?_
  intro c a w hG hn h
  unfold CS at hF
  change A0 c [.slot 0 (Co [Af 32 a_0])] a w at h
  refine AU mixed hn hG h [502, 501] (ob [0] (DL q0 (BD _)) <| ov [] (Ak (B9 (sc _ (by decide)))) .nil) fun b1 a w h => ?_
  refine AU mixed hn hG h [0, 500, 1] (ov [] (Ak (B9 (sc _ (by decide)))) .nil) fun _ a w h => ?_
  refine wp_seq ?_
  refine AU mixed hn hG h [0, 1, 500, 2] (ov [] (Ak qi) .nil) fun _ a w h => ?_
  refine wp_block ?_
  obtain ⟨cr23, hl24, hF⟩ := bind_some hF
  refine wp_mono (Ci (R := (List UInt8)) (S := (List UInt8) × Int) (fun s a w => A0 c [.slot 1 (BG (b1 0) 0), .slot 3 (AF s.1), .slot 4 (Ab .i64 s.2), .res (lb (b1 0) 33 [Af 32 a_0])] a w) (fun res e a w => match res with | .next s => e = .exit 0 ∧ A0 c [.slot 3 (AF s.1)] a w | .ret r => e = .ret ∧ DF Tryd.prog Tryd.f42 c (AF r) (fun _ => []) a w) ?_ _ ([], 0) _ _ _ (h.sub [0, 1, 2, 3] (by rfl)) hl24) ?_
  · clear hl24 hF h
    intro s a w o h hF
    obtain ⟨x7, x8⟩ := s
    change CS.b1 a_0 x7 x8 = some o at hF
    unfold CS.b1 at hF
    change A0 c [.slot 1 (BG (b1 0) 0), .slot 3 (AF x7), .slot 4 (Ab .i64 x8), .res (lb (b1 0) 33 [Af 32 a_0])] a w at h
    refine wp_seq ?_
    refine AU mixed hn hG h [0, 1, 2, 500, 3] (ov [2] (Ag q0) <| ov [500] (Ax B6 q0 qi) .nil) fun _ a w h => ?_
    refine DN h hF 3 [0, 1, 2, 4] [0, 1, 2, 4] (fun hb17 hF h => ?_) (fun hb17 hF h => ?_)
    · refine wp_skip ?_
      show Code.wp Tryd.prog _ _ a w
      refine wp_seq ?_
      refine wp_block ?_
      obtain ⟨hv18, hF⟩ := AH hF
      obtain ⟨hv19, hF⟩ := AH hF
      obtain ⟨hv20, hF⟩ := AH hF
      obtain ⟨hv21, hF⟩ := AH hF
      obtain ⟨hv22, hF⟩ := AH hF
      refine CK mixed hn hG h [0, 500, 2, 3] (ov [1] (Ag q0) <| ov [2] (Ag q0) <| ov [0, 500] (Cu Tryd.underlying33 Tryd.sizeOf5 q0 q1 hv18) <| ov [500, 3] (E2 (i := x8) [] [] 1 Tryd.isAgg5 q0 rfl rfl hv18) <| ov [500] (Ax (GQ (by decide)) q0 qi) <| ov [2] (Ag q0) <| ov [0, 500] (Cu Tryd.underlying33 Tryd.sizeOf5 q0 q1 hv18) <| ov [500, 3] (E2 (i := x8) [] [] 1 Tryd.isAgg5 q0 rfl rfl hv18) <| ov [500] (Ax (GQ (by decide)) q0 qi) <| ov [500] (Ax BC q0 qi) <| ov [505, 500] (Dg (a := IntKind.wrap .u8 (((a_0.getD x8.toNat 0).toNat : Int).tdiv 16)) (b := IntKind.wrap .u8 ((IntKind.wrap .u8 (((a_0.getD x8.toNat 0).toNat : Int).tdiv 16)) + 1)) Tryd.underlying9 (B9 (sc _ (by decide))) ⟨_, q0⟩ ⟨_, q1⟩ hv19) <| ov [510, 500] (Ax (A3 hv20) q0 q1) <| ov [2] (Ag q0) <| ov [0, 500] (Cu Tryd.underlying33 Tryd.sizeOf5 q0 q1 hv18) <| ov [500, 3] (E2 (i := x8) [] [] 1 Tryd.isAgg5 q0 rfl rfl hv18) <| ov [500] (Ax (En (by decide)) q0 qi) <| ov [2] (Ag q0) <| ov [0, 500] (Cu Tryd.underlying33 Tryd.sizeOf5 q0 q1 hv18) <| ov [500, 3] (E2 (i := x8) [] [] 1 Tryd.isAgg5 q0 rfl rfl hv18) <| ov [500] (Ax (En (by decide)) q0 qi) <| ov [500] (Ax BC q0 qi) <| ov [505, 500] (Dg (a := ((a_0.getD x8.toNat 0).toNat : Int).tmod 16) (b := IntKind.wrap .u8 ((((a_0.getD x8.toNat 0).toNat : Int).tmod 16) + 1)) Tryd.underlying9 (B9 (sc _ (by decide))) ⟨_, q0⟩ ⟨_, q1⟩ hv21) <| ov [510, 500] (Ax (A3 hv22) q0 q1) <| od [500] 1 (Ak q0) .nil) fun _ a w h => ?_
      show Code.wp Tryd.prog _ _ a w
      refine CK mixed hn hG h [0, 1, 500, 3] (ov [2] (Ag q0) <| ov [500] (Ax BC q0 qi) <| od [500] 2 (Ak q0) .nil) fun _ a w h => ?_
      obtain rfl := Option.some.inj hF
      exact ⟨rfl, h.sub [0, 1, 2, 3] (by rfl)⟩
    · refine wp_exit ?_
      obtain rfl := Option.some.inj hF
      exact ⟨CV _, rfl, h.sub [1] (by rfl)⟩
  · clear hl24
    intro e a w hq
    cases cr23 with
    | ret r25 =>
      obtain ⟨rfl, hq⟩ := hq
      obtain rfl := Option.some.inj hF
      exact ⟨.inl rfl, hq⟩
    | next s26 =>
      obtain ⟨y27, y28⟩ := s26
      obtain ⟨rfl, h⟩ := hq
      change A0 c [.slot 3 (AF y27)] a w at h
      refine BT ?_
      show Code.wp Tryd.prog _ _ a w
      refine AU mixed hn hG h [500] (ov [0] (Ag q0) <| ov [500] (Ak q0) .nil) fun _ a w h => ?_
      refine wp_ret ?_
      obtain rfl := Option.some.inj hF
      exact ⟨.inl rfl, Cv h Tryd.results42 (By 0 rfl) [] [] rfl rfl rfl⟩

def Gz (a_0 : List UInt8) : Option (List UInt8) := ((CS a_0).bind fun r2 => (if (0 : Int) ≤ 0 ∧ (0 : Int) ≤ 8 ∧ (8 : Int) ≤ r2.length then some ((r2.take 8).drop (0 : Int).toNat) else none))
theorem Hx {a_0 : List UInt8} {r : (List UInt8)} (hF : Gz a_0 = some r) : AX Tryd.prog KG 28 [(Co [Af 32 a_0])] [] (fun _ => []) (AF r) := by
  refine AX.intro 6 Tryd.func28 rfl Tryd.ntmps28 (Nat.le_of_ble_eq_true rfl) ?_
  intro c a w hG hn h
  unfold Gz at hF
  change A0 c [.slot 0 (Co [Af 32 a_0])] a w at h
  refine AU mixed hn hG h [502, 501] (ob [0] (DL q0 (BD _)) <| ov [] (Ak (B9 (sc _ (by decide)))) .nil) fun b1 a w h => ?_
  obtain ⟨r2, hr2, hF⟩ := bind_some hF
  obtain ⟨hv3, hF⟩ := AH hF
  refine AU mixed hn hG h [500] (ov [0, 1] (CO 1 Tryd.isAgg33 Tryd.sizeOf33 q0) <| oc [500] [] Tryd.call42 (HL hr2) ⟨q0, trivial⟩ <| ov [500] (Dg (a := 0) (b := 8) Tryd.underlying9 q0 rfl ⟨_, qi⟩ hv3) <| ov [500] (Ak q0) .nil) fun _ a w h => ?_
  refine wp_ret ?_
  obtain rfl := Option.some.inj hF
  exact ⟨.inl rfl, Cv h Tryd.results28 (By 0 rfl) [] [] rfl rfl rfl⟩
end Go.Proofs.YtemnhknjphjpnaaDoor
