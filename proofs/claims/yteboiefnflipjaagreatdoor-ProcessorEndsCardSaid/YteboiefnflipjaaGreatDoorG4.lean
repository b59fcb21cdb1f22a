/- The functions' Lean twins and contracts, printed by this session's own program: part 4. -/
import Derived.Test.YteboiefnflipjaaGreatDoorG3
namespace Go.Proofs.YteboiefnflipjaaGreatDoor
open _root_.Go.Proofs.Tryz
open Go Go.RowKit Go.Proofs
set_option maxRecDepth 100000
set_option maxHeartbeats 4000000
set_option linter.unusedVariables false
set_option linter.unusedSimpArgs false
def Bv.j2 (a_1 : Ae) (a_2 : Int) (r8 : (List UInt8) × (Option AP)) (r9 : Int) (x11 : Bool) : Option (Ae × Int × (Option AP)) := (if x11 = true then some (a_1, 37, r8.2) else (if (0 : Int) ≤ r9 ∧ r9 < a_1.AH.length then ((CX a_1 ((a_1.AH.getD r9.toNat default).Cw) a_2).bind fun r14 => (if (!decide (r14 = (0 : Int))) = true then some (a_1, r14, r8.2) else ((BW a_1.AH).bind fun r16 => (if (0 : Int) ≤ r9 ∧ r9 < r16.length then some ((Ae.mk a_1.BZ a_1.CA a_1.Ch a_1.B3 a_1.CE a_1.BI a_1.BY (r16.set r9.toNat (Ag.mk ((r16.getD r9.toNat default).BP) 2 ((r16.getD r9.toNat default).Cw))) a_1.BU a_1.Ds), 0, r8.2) else none)))) else none))
def Bv.j1 (L_0 : Option AP) (a_1 : Ae) (a_2 : Int) (a_3 : Ai) (x6 : Bool) : Option (Ae × Int × (Option AP)) := (if x6 = true then some (a_1, 38, L_0) else ((EV L_0 a_3).bind fun r8 => ((DT a_1 r8.1).bind fun r9 => (if (decide (r9 < (0 : Int))) = true then Bv.j2 a_1 a_2 r8 r9 true else (if (0 : Int) ≤ r9 ∧ r9 < a_1.AH.length then Bv.j2 a_1 a_2 r8 r9 (!decide (((a_1.AH.getD r9.toNat default).BX) = (1 : Int))) else none)))))
def Bv (L_0 : Option AP) (a_1 : Ae) (a_2 : Int) (a_3 : Ai) : Option (Ae × Int × (Option AP)) := ((CF a_1).bind fun r4 => (if (!decide (r4 = (0 : Int))) = true then some (a_1, r4, L_0) else (if (!decide (a_3.Fk = a_1.CA)) = true then Bv.j1 L_0 a_1 a_2 a_3 true else Bv.j1 L_0 a_1 a_2 a_3 (!decide (a_3.CK = a_1.BZ)))))
theorem IM {p_0 : Value} {L_0 : Option AP} {a_1 : Ae} {a_2 : Int} {a_3 : Ai} {r : Ae × Int × (Option AP)} (hF : Bv L_0 a_1 a_2 a_3 = some r) : Az prog KG 25 [(Am p_0), (AG (Ae.ck a_1)), (Ab .u64 a_2), (AG (Ai.ck a_3))] [(AO p_0 L_0)] (fun _ => [AO p_0 r.2.2]) (CV [(AG (Ae.ck r.1)), (Ab .i64 r.2.1)]) := by
 refine Az.intro 72 func25 rfl ntmps25 (Nat.le_of_ble_eq_true rfl) ?_
 intro c a w hG hn h
 unfold Bv at hF
 change Ar c [.slot 0 (Am p_0), .slot 1 (AG (Ae.ck a_1)), .slot 2 (Ab .u64 a_2), .slot 3 (AG (Ai.ck a_3)), .res (AO p_0 L_0)] a w at h
 refine Ao mixed hn hG h [0, 2, 506, 504, 502, 4, 505, 503, 501] (ob [1] (BF q0 (Al _)) <| ob [3] (BF q0 (Al _)) <| ob [] (AJ zeroValue41 Qy) <| ov [] (Ad qi) .nil) fun b1 a w h => ?_
 refine wp_seq ?_
 obtain ⟨r4, hr4, hF⟩ := bind_some hF
 refine Ao mixed hn hG h [0, 1, 2, 3, 4, 500, 5, 6, 7, 8] (ov [2, 6] (AA 1 isAgg41 sizeOf41 q0) <| oc [500] [] call56 (GI hr4) ⟨q0, trivial⟩ <| ov [500] (Ad q0) .nil) fun _ a w h => ?_
 refine Ao mixed hn hG h [0, 1, 2, 3, 4, 5, 500, 6, 7, 8, 9] (ov [5] (Aa q0) <| ov [500] (Ak C2 q0 qi) .nil) fun _ a w h => ?_
 refine DL h hF 6 [2, 4, 5, 7, 8, 10] [0, 1, 2, 3, 4, 7, 8, 9, 10] (fun hb5 hF h => ?_) (fun hb5 hF h => ?_)
 ·refine Ao mixed hn hG h [1, 500, 3, 501] (ov [0, 4] (AA 1 isAgg41 sizeOf41 q0) <| ov [2] (Aa q0) <| ou [1, 501] 5 (Aq sizeOf41 q0 q1 (Al _)) <| ov [501] (Ad q0) .nil) fun _ a w h => ?_
  refine wp_ret ?_
  obtain rfl := Option.some.inj hF
  exact ⟨.inl rfl, Es h (rs := [.cell 8 41, .tmp 9]) (Vs := [(AG (Ae.ck a_1)), (Ab .i64 r4)]) results25 (by decide) ⟨(Bs 0 3 rfl rfl isAgg41 sizeOf41 rfl), (Bc 1 rfl), trivial⟩ [2] [(AO p_0 L_0)] rfl rfl rfl⟩
 ·refine wp_skip ?_
  show Code.wp prog _ _ a w
  refine wp_seq ?_
  refine wp_seq ?_
  refine wp_cut (fun a w => ∃ (x6 : Bool), Bv.j1 L_0 a_1 a_2 a_3 x6 = some r ∧ Ar c [.slot 0 (Am p_0), .slot 2 (Ab .u64 a_2), .slot 5 (Au (b1 0) 0), .slot 7 (Au (b1 1) 0), .slot 8 (Au (b1 2) 0), .slot 30 (AE x6), .res (AO p_0 L_0), .res (lb (b1 0) 41 (Ae.ck a_1)), .res (lb (b1 1) 31 (Ai.ck a_3)), .res (lb (b1 2) 41 [one (Ab .u32 (0 : Int)), one (Ab .u32 (0 : Int)), Af 32 (List.replicate 32 0), one (An (dC 32) []), one (Ab .u64 (0 : Int)), Af 32 (List.replicate 32 0), one (An Av.ck []), one (An Ag.ck []), one (AE false), one (AE false)])] a w) ?_ ?_
  ·rcases Bool.eq_false_or_eq_true (!decide (a_3.Fk = a_1.CA)) with hb20 | hb20
   ·replace hF := EM hb20 hF
    refine CY mixed hn hG h [0, 1, 2, 3, 4, 500, 5, 6, 7, 8] (ov [3] (Aj (p := (b1 1)) (n := 1) 0 2 underlying31 rfl sizeOf29 (by decide) q0 rfl) <| ov [500, 7] (AB ((Ai.ck a_3).take 2) ((Ai.ck a_3).drop 3) 1 isAgg29 q0 rfl rfl) <| ov [2] (Aj (p := (b1 0)) (n := 1) 0 1 underlying41 rfl sizeOf29 (by decide) q0 rfl) <| ov [500, 6] (AB [one (Ab .u32 a_1.BZ)] ((Ae.ck a_1).drop 2) 1 isAgg29 q0 rfl rfl) <| ov [502, 500] (Ak C2 q0 q1) <| ov [500] (Aa q0) <| oe [500] [] (AV.AZ (want := false) hb20 rfl rfl rfl rfl) <| oe [501] [] (AV.AZ (want := false) hb20 rfl rfl rfl rfl) <| oe [502] [] (AV.AZ (want := false) hb20 rfl rfl rfl rfl) <| oe [503] [] (AV.AZ (want := false) hb20 rfl rfl rfl rfl) <| oe [504] [] (AV.AZ (want := false) hb20 rfl rfl rfl rfl) <| ov [505] (Bu hb20 q0 qb) .nil) fun _ a w h => ?_
    exact ⟨true, hF, h.sub [0, 1, 2, 3, 4, 5, 6, 7, 8, 9] (by rfl)⟩
   ·replace hF := EO hb20 hF
    refine CY mixed hn hG h [0, 1, 2, 3, 4, 500, 5, 6, 7, 8] (ov [3] (Aj (p := (b1 1)) (n := 1) 0 2 underlying31 rfl sizeOf29 (by decide) q0 rfl) <| ov [500, 7] (AB ((Ai.ck a_3).take 2) ((Ai.ck a_3).drop 3) 1 isAgg29 q0 rfl rfl) <| ov [2] (Aj (p := (b1 0)) (n := 1) 0 1 underlying41 rfl sizeOf29 (by decide) q0 rfl) <| ov [500, 6] (AB [one (Ab .u32 a_1.BZ)] ((Ae.ck a_1).drop 2) 1 isAgg29 q0 rfl rfl) <| ov [502, 500] (Ak C2 q0 q1) <| ov [500] (Aa q0) <| oe [500, 3] [] (AV.AT hb20 rfl rfl rfl (Aj (p := (b1 1)) (n := 1) 0 0 underlying31 rfl sizeOf29 (by decide) q0 rfl)) <| oe [501, 500, 7] [] (AV.AT hb20 rfl rfl rfl (AB [] ((Ai.ck a_3).drop 1) 1 isAgg29 q0 rfl rfl)) <| oe [502, 2] [] (AV.AT hb20 rfl rfl rfl (Aj (p := (b1 0)) (n := 1) 0 0 underlying41 rfl sizeOf29 (by decide) q0 rfl)) <| oe [503, 500, 6] [] (AV.AT hb20 rfl rfl rfl (AB [] ((Ae.ck a_1).drop 1) 1 isAgg29 q0 rfl rfl)) <| oe [504, 502, 500] [] (AV.AT hb20 rfl rfl rfl (Ak C2 q0 q1)) <| ov [505, 500] (Bq hb20 q0 q1) .nil) fun _ a w h => ?_
    exact ⟨!decide (a_3.CK = a_1.BZ), hF, h.sub [0, 1, 2, 3, 4, 5, 6, 7, 8, 9] (by rfl)⟩
  ·clear h hF
   rintro a w ⟨x6, hF, h⟩
   unfold Bv.j1 at hF
   show Code.wp prog _ _ a w
   refine DL h hF 5 [2, 4, 6, 7, 9] [0, 1, 2, 3, 4, 6, 7, 8, 9] (fun hb7 hF h => ?_) (fun hb7 hF h => ?_)
   ·refine Ao mixed hn hG h [1, 500, 2, 501] (ov [0, 3] (AA 1 isAgg41 sizeOf41 q0) <| ou [1, 500] 4 (Aq sizeOf41 q0 q1 (Al _)) <| ov [] (Ad qi) .nil) fun _ a w h => ?_
    refine wp_ret ?_
    obtain rfl := Option.some.inj hF
    exact ⟨.inl rfl, Es h (rs := [.cell 8 41, .tmp 9]) (Vs := [(AG (Ae.ck a_1)), (Ab .i64 38)]) results25 (by decide) ⟨(Bs 0 3 rfl rfl isAgg41 sizeOf41 rfl), (Bc 1 rfl), trivial⟩ [2] [(AO p_0 L_0)] rfl rfl rfl⟩
   ·refine wp_skip ?_
    show Code.wp prog _ _ a w
    obtain ⟨r8, hr8, hF⟩ := bind_some hF
    obtain ⟨r9, hr9, hF⟩ := bind_some hF
    refine Ao mixed hn hG h [1, 2, 4, 500, 6, 8, 502] (ov [2, 6] (AA 1 isAgg41 sizeOf41 q0) <| ov [0] (Aa q0) <| ov [3, 7] (AA 1 isAgg31 sizeOf31 q0) <| oc [501, 500] [5] call64 (FX hr8) ⟨q0, q1, trivial⟩ <| oc [504, 501] [] call41 (Ff hr9) ⟨q0, q1, trivial⟩ <| ov [500] (Ad q0) .nil) fun _ a w h => ?_
    refine wp_seq ?_
    refine wp_seq ?_
    refine wp_cut (fun a w => ∃ (x11 : Bool), Bv.j2 a_1 a_2 r8 r9 x11 = some r ∧ Ar c [.slot 2 (Ab .u64 a_2), .slot 5 (Au (b1 0) 0), .slot 8 (Au (b1 2) 0), .slot 11 (Ab .i64 r9), .slot 47 (AE x11), .res (lb (b1 0) 41 (Ae.ck a_1)), .res (lb (b1 2) 41 [one (Ab .u32 (0 : Int)), one (Ab .u32 (0 : Int)), Af 32 (List.replicate 32 0), one (An (dC 32) []), one (Ab .u64 (0 : Int)), Af 32 (List.replicate 32 0), one (An Av.ck []), one (An Ag.ck []), one (AE false), one (AE false)]), .res (AO p_0 r8.2)] a w) ?_ ?_
    ·rcases Bool.eq_false_or_eq_true (decide (r9 < (0 : Int))) with hb19 | hb19
     ·replace hF := EM hb19 hF
      refine CY mixed hn hG h [0, 1, 2, 3, 500, 4, 5, 6] (ov [3] (Aa q0) <| ov [500] (Ak Bl q0 qi) <| ov [500] (Aa q0) <| oe [500] [] (AV.AZ (want := false) hb19 rfl rfl rfl rfl) <| oe [501] [] (AV.AZ (want := false) hb19 rfl rfl rfl rfl) <| oe [502] [] (AV.AZ (want := false) hb19 rfl rfl rfl rfl) <| oe [503] [] (AV.AZ (want := false) hb19 rfl rfl rfl rfl) <| oe [504] [] (AV.AZ (want := false) hb19 rfl rfl rfl rfl) <| oe [505] [] (AV.AZ (want := false) hb19 rfl rfl rfl rfl) <| oe [506] [] (AV.AZ (want := false) hb19 rfl rfl rfl rfl) <| ov [507] (Bu hb19 q0 qb) .nil) fun _ a w h => ?_
      exact ⟨true, hF, h.sub [0, 1, 2, 3, 4, 5, 6, 7] (by rfl)⟩
     ·replace hF := EO hb19 hF
      obtain ⟨hv10, hF⟩ := Ay hF
      refine CY mixed hn hG h [0, 1, 2, 3, 500, 4, 5, 6] (ov [3] (Aa q0) <| ov [500] (Ak Bl q0 qi) <| ov [500] (Aa q0) <| oe [500, 1] [] (AV.AT hb19 rfl rfl rfl (Aj (p := (b1 0)) (n := 1) 0 69 underlying41 rfl sizeOf39 (by decide) q0 rfl)) <| oe [501, 500, 4] [] (AV.AT hb19 rfl rfl rfl (AB ((Ae.ck a_1).take 7) ((Ae.ck a_1).drop 8) 1 isAgg39 q0 rfl rfl)) <| oe [502, 3] [] (AV.AT hb19 rfl rfl rfl (Aa q0)) <| oe [503, 501, 500] [] (AV.AT hb19 rfl rfl rfl (AL underlying39 sizeOf110 Ag.lens q0 q1 hv10)) <| oe [504, 500] [] (AV.AT hb19 rfl rfl rfl (Ct (n := 1) [Af 32 ((a_1.AH.getD r9.toNat default).BP)] _ underlying110 rfl sizeOf3 (by decide) q0 rfl)) <| oe [505, 500] [] (AV.AT hb19 rfl rfl rfl (BH [Af 32 ((a_1.AH.getD r9.toNat default).Cw)] isAgg3 q0)) <| oe [506, 500] [] (AV.AT hb19 rfl rfl rfl (Ak C2 q0 qi)) <| ov [507, 500] (Bq hb19 q0 q1) .nil) fun _ a w h => ?_
      exact ⟨!decide (((a_1.AH.getD r9.toNat default).BX) = (1 : Int)), hF, h.sub [0, 1, 2, 3, 4, 5, 6, 7] (by rfl)⟩
    ·clear h hF
     rintro a w ⟨x11, hF, h⟩
     unfold Bv.j2 at hF
     show Code.wp prog _ _ a w
     refine DL h hF 4 [1, 2, 5, 6, 7] [0, 1, 2, 3, 5, 6, 7] (fun hb12 hF h => ?_) (fun hb12 hF h => ?_)
     ·refine Ao mixed hn hG h [1, 500, 501, 4] (ov [0, 2] (AA 1 isAgg41 sizeOf41 q0) <| ou [1, 500] 3 (Aq sizeOf41 q0 q1 (Al _)) <| ov [] (Ad qi) .nil) fun _ a w h => ?_
      refine wp_ret ?_
      obtain rfl := Option.some.inj hF
      exact ⟨.inl rfl, Es h (rs := [.cell 8 41, .tmp 9]) (Vs := [(AG (Ae.ck a_1)), (Ab .i64 37)]) results25 (by decide) ⟨(Bs 0 2 rfl rfl isAgg41 sizeOf41 rfl), (Bc 1 rfl), trivial⟩ [3] [(AO p_0 r8.2)] rfl rfl rfl⟩
     ·refine wp_skip ?_
      show Code.wp prog _ _ a w
      refine wp_seq ?_
      obtain ⟨hv13, hF⟩ := Ay hF
      obtain ⟨r14, hr14, hF⟩ := bind_some hF
      refine Ao mixed hn hG h [1, 2, 3, 500, 4, 5, 6] (ov [1, 4] (AA 1 isAgg41 sizeOf41 q0) <| ov [1] (Aj (p := (b1 0)) (n := 1) 0 69 underlying41 rfl sizeOf39 (by decide) q0 rfl) <| ov [500, 4] (AB ((Ae.ck a_1).take 7) ((Ae.ck a_1).drop 8) 1 isAgg39 q0 rfl rfl) <| ov [3] (Aa q0) <| ov [501, 500] (AL underlying39 sizeOf110 Ag.lens q0 q1 hv13) <| ov [500] (Ct (n := 32) ((Ag.ck (a_1.AH.getD r9.toNat default)).take 2) _ underlying110 rfl sizeOf33 (by decide) q0 rfl) <| ov [500] (BM [Af 32 ((a_1.AH.getD r9.toNat default).Cw)] [] isAgg33 sizeOf33 q0 rfl) <| ov [0] (Aa q0) <| oc [507, 501, 500] [] call58 (Eu hr14) ⟨q0, q1, q2, trivial⟩ <| ov [500] (Ad q0) .nil) fun _ a w h => ?_
      refine Ao mixed hn hG h [0, 1, 2, 3, 500, 4, 5, 6] (ov [3] (Aa q0) <| ov [500] (Ak C2 q0 qi) .nil) fun _ a w h => ?_
      refine DL h hF 4 [0, 1, 3, 5, 6, 7] [0, 1, 2, 5, 6, 7] (fun hb15 hF h => ?_) (fun hb15 hF h => ?_)
      ·refine Ao mixed hn hG h [1, 500, 501, 5] (ov [0, 3] (AA 1 isAgg41 sizeOf41 q0) <| ov [2] (Aa q0) <| ou [1, 501] 4 (Aq sizeOf41 q0 q1 (Al _)) <| ov [501] (Ad q0) .nil) fun _ a w h => ?_
       refine wp_ret ?_
       obtain rfl := Option.some.inj hF
       exact ⟨.inl rfl, Es h (rs := [.cell 8 41, .tmp 9]) (Vs := [(AG (Ae.ck a_1)), (Ab .i64 r14)]) results25 (by decide) ⟨(Bs 0 2 rfl rfl isAgg41 sizeOf41 rfl), (Bc 1 rfl), trivial⟩ [3] [(AO p_0 r8.2)] rfl rfl rfl⟩
      ·refine wp_skip ?_
       show Code.wp prog _ _ a w
       obtain ⟨r16, hr16, hF⟩ := bind_some hF
       refine Ao mixed hn hG h [0, 1, 2, 500, 4, 5, 502] (ov [0] (Aj (p := (b1 0)) (n := 1) 0 69 underlying41 rfl sizeOf39 (by decide) q0 rfl) <| ov [500, 3] (AB ((Ae.ck a_1).take 7) ((Ae.ck a_1).drop 8) 1 isAgg39 q0 rfl rfl) <| og [500] [] [.slot 64 2 100000 (fun v1_ _ => (Am v1_)), .res 2 100000 (fun v1_ _ => (own (v1_) 110 65 Ag.ck r16))] (AV.plain (Jo call59 (Ez hr16) ⟨q0, trivial⟩) rfl) <| ov [0] (Aj (p := (b1 0)) (n := 1) 0 69 underlying41 rfl sizeOf39 (by decide) q0 rfl) <| og [500, 502, 501] [3] [.res 2 100000 (fun v1_ _ => (lb (b1 0) 41 [one (Ab .u32 a_1.BZ), one (Ab .u32 a_1.CA), Af 32 a_1.Ch, one (An (dC 32) a_1.B3), one (Ab .u64 a_1.CE), Af 32 a_1.BI, one (An Av.ck a_1.BY), one (Am (v1_)), one (AE a_1.BU), one (AE a_1.Ds)]))] (fun {β} => (AV.plain (B7 ((Ae.ck a_1).take 7) [one (An Ag.ck a_1.AH)] ((Ae.ck a_1).drop 8) [one (Am ((β 2)))] sizeOf39 q0 (IB 1 2 rfl rfl Kr) (Gc _) rfl rfl rfl) rfl)) .nil) fun b17 a w h => ?_
       obtain ⟨hv18, hF⟩ := Ay hF
       refine Ao mixed hn hG h [0, 1, 3, 4, 5, 500] (ov [0] (Aj (p := (b1 0)) (n := 1) 0 69 underlying41 rfl sizeOf39 (by decide) q0 rfl) <| ov [500, 3] (AB ((Ae.ck a_1).take 7) ((Ae.ck a_1).drop 8) 1 isAgg39 q0 rfl rfl) <| ov [2] (Aa q0) <| ov [501, 6, 500] (Gp 0 1 underlying39 sizeOf110 rfl rfl q2 hv18) <| ov [500] (Ih (n := 1) (r9.toNat * 65) (r9.toNat * 65 + 32) underlying110 rfl sizeOf3 (by decide) q0 rfl) <| ou [500] 6 (HM (i := r9) (c := Ag.ck) (z := (Ag.mk ((r16.getD r9.toNat default).BP) 2 ((r16.getD r9.toNat default).Cw))) Ag.lens [Af 32 ((r16.getD r9.toNat default).BP)] [one (Ab .i64 ((r16.getD r9.toNat default).BX))] [Af 32 ((r16.getD r9.toNat default).Cw)] [one (Ab .i64 2)] sizeOf3 q0 qi (Ap (AK _ _)) rfl rfl rfl rfl rfl hv18) .nil) fun _ a w h => ?_
       refine Ao mixed hn hG h [1, 500, 501, 4] (oe [0, 2] [5] (AV.plain (Ba.Kq (K8 [(acc (b17 2) 110 65 Ag.ck (r16.set r9.toNat (Ag.mk ((r16.getD r9.toNat default).BP) 2 ((r16.getD r9.toNat default).Cw))))] 1 isAgg41 sizeOf41 q0 rfl rfl (.IU (.IU (.IU (.IU (.IU (.IU (.IU (.sub 0 rfl (.IU (.IU .nil)))))))))))) rfl) <| ou [1, 501] 3 (Aq sizeOf41 q0 q1 (Al _)) <| ov [] (Ad qi) .nil) fun _ a w h => ?_
       refine wp_ret ?_
       obtain rfl := Option.some.inj hF
       exact ⟨.inl rfl, Es h (rs := [.cell 8 41, .tmp 9]) (Vs := [(AG [one (Ab .u32 a_1.BZ), one (Ab .u32 a_1.CA), Af 32 a_1.Ch, one (An (dC 32) a_1.B3), one (Ab .u64 a_1.CE), Af 32 a_1.BI, one (An Av.ck a_1.BY), one (An Ag.ck (r16.set r9.toNat (Ag.mk ((r16.getD r9.toNat default).BP) 2 ((r16.getD r9.toNat default).Cw)))), one (AE a_1.BU), one (AE a_1.Ds)]), (Ab .i64 0)]) results25 (by decide) ⟨(Bs 0 2 rfl rfl isAgg41 sizeOf41 rfl), (Bc 1 rfl), trivial⟩ [3] [(AO p_0 r8.2)] rfl rfl rfl⟩

def G2 (a_0 : EJ) : Option A9 := (if (I1 a_0) = true then some (A9.mk 11 [] [] [] (0 : Int) (0 : Int) (0 : Int) (AR.mk (0 : Int) [] [] []) (AS.mk (0 : Int) (List.replicate 32 0) (List.replicate 32 0) (AR.mk (0 : Int) [] [] [])) (AS.mk (0 : Int) (List.replicate 32 0) (List.replicate 32 0) (AR.mk (0 : Int) [] [] [])) (Cm.mk (0 : Int) (List.replicate 32 0) (0 : Int) (AR.mk (0 : Int) [] [] [])) ((Dk a_0).BP) ((Dk a_0).B4) ((Dk a_0).Fa) (Ai.mk (0 : Int) (0 : Int) (0 : Int) [] [] [])) else (if (KH a_0) = true then some (A9.mk 12 [] [] [] (0 : Int) (0 : Int) (0 : Int) (AR.mk (0 : Int) [] [] []) (AS.mk (0 : Int) (List.replicate 32 0) (List.replicate 32 0) (AR.mk (0 : Int) [] [] [])) (AS.mk (0 : Int) (List.replicate 32 0) (List.replicate 32 0) (AR.mk (0 : Int) [] [] [])) (Cm.mk (0 : Int) (List.replicate 32 0) (0 : Int) (AR.mk (0 : Int) [] [] [])) (List.replicate 32 0) (0 : Int) [] ((HT a_0).CN)) else some (A9.mk (0 : Int) [] [] [] (0 : Int) (0 : Int) (0 : Int) (AR.mk (0 : Int) [] [] []) (AS.mk (0 : Int) (List.replicate 32 0) (List.replicate 32 0) (AR.mk (0 : Int) [] [] [])) (AS.mk (0 : Int) (List.replicate 32 0) (List.replicate 32 0) (AR.mk (0 : Int) [] [] [])) (Cm.mk (0 : Int) (List.replicate 32 0) (0 : Int) (AR.mk (0 : Int) [] [] [])) (List.replicate 32 0) (0 : Int) [] (Ai.mk (0 : Int) (0 : Int) (0 : Int) [] [] []))))
theorem Ll {a_0 : EJ} {r : A9} (hF : G2 a_0 = some r) : Az prog KG 40 [(Dw a_0)] [] (fun _ => []) (AG (A9.ck r)) := by
 refine Az.intro 180 func40 rfl ntmps40 (Nat.le_of_ble_eq_true rfl) ?_
 intro c a w hG hn h
 unfold G2 at hF
 change Ar c [.slot 0 (Dw a_0)] a w at h
 refine Ao mixed hn hG h [0, 501, 500] (ob [] (AJ zeroValue106 Np) .nil) fun b1 a w h => ?_
 refine wp_seq ?_
 refine Ao mixed hn hG h [0, 1, 503, 500, 2, 501] (ov [0] (Aa q0) <| ov [500] (M6 q0) <| ov [500] (Aa q0) <| ov [500] (AQ q0 rfl) <| ov [501] (AQ q0 rfl) <| ob [] (AJ zeroValue153 Ox) <| og [501, 503] [500] [.res 5 100000 (fun v1_ _ => (lb (v1_) 153 [one (As HD.CK), one (As HD.Fk), one (Ab .u64 HD.HV), one (Ab .u64 HD.Dl), one (Ab .i64 HD.Bh.B4), one (An (dC 32) HD.Bh.C1), one (An (dC 32) HD.Bh.Cp), one (An (dC 32) HD.Bh.DE)]))] (AV.plain (Aq sizeOf153 q0 q1 (Al _)) rfl) <| ov [503] (Ad q0) .nil) fun b2 a w h => ?_
 refine Ao mixed hn hG h [0, 1, 2, 500, 4, 5] (ov [3] (Aa q0) .nil) fun _ a w h => ?_
 refine D6 h 3 rfl (fun hb3 => ?_) (fun hb3 => ?_)
 ·cases hb3
 ·skip
  replace h := h.LO [0, 1, 4]
  refine wp_skip ?_
  show Code.wp prog _ _ a w
  refine wp_seq ?_
  refine Ao mixed hn hG h [0, 1, 503, 500, 2, 501] (ov [0] (Aa q0) <| ov [500] (M5 q0) <| ov [500] (Aa q0) <| ov [500] (AQ q0 rfl) <| ov [501] (AQ q0 rfl) <| ob [] (AJ zeroValue156 z156) <| og [501, 503] [500] [.res 5 100000 (fun v1_ _ => (lb (v1_) 156 (DH.ck Pj)))] (AV.plain (Aq sizeOf156 q0 q1 (Al _)) rfl) <| ov [503] (Ad q0) .nil) fun b4 a w h => ?_
  refine Ao mixed hn hG h [0, 1, 2, 500, 4, 5] (ov [3] (Aa q0) .nil) fun _ a w h => ?_
  refine D6 h 3 rfl (fun hb5 => ?_) (fun hb5 => ?_)
  ·cases hb5
  ·skip
   replace h := h.LO [0, 1, 4]
   refine wp_skip ?_
   show Code.wp prog _ _ a w
   refine wp_seq ?_
   refine Ao mixed hn hG h [0, 1, 503, 500, 2, 501] (ov [0] (Aa q0) <| ov [500] (M4 q0) <| ov [500] (Aa q0) <| ov [500] (AQ q0 rfl) <| ov [501] (AQ q0 rfl) <| ob [] (AJ zeroValue159 z159) <| og [501, 503] [500] [.res 5 100000 (fun v1_ _ => (lb (v1_) 159 (D7.ck Ph)))] (AV.plain (Aq sizeOf159 q0 q1 (Al _)) rfl) <| ov [503] (Ad q0) .nil) fun b6 a w h => ?_
   refine Ao mixed hn hG h [0, 1, 2, 500, 4, 5] (ov [3] (Aa q0) .nil) fun _ a w h => ?_
   refine D6 h 3 rfl (fun hb7 => ?_) (fun hb7 => ?_)
   ·cases hb7
   ·skip
    replace h := h.LO [0, 1, 4]
    refine wp_skip ?_
    show Code.wp prog _ _ a w
    refine wp_seq ?_
    refine Ao mixed hn hG h [0, 1, 503, 500, 2, 501] (ov [0] (Aa q0) <| ov [500] (M3 q0) <| ov [500] (Aa q0) <| ov [500] (AQ q0 rfl) <| ov [501] (AQ q0 rfl) <| ob [] (AJ zeroValue162 z162) <| og [501, 503] [500] [.res 5 100000 (fun v1_ _ => (lb (v1_) 162 [one (As Ix.CK), one (As Ix.I2), one (Ab .u64 Ix.Dl), one (Ab .i64 Ix.Bh.B4), one (An (dC 32) Ix.Bh.C1), one (An (dC 32) Ix.Bh.Cp), one (An (dC 32) Ix.Bh.DE)]))] (AV.plain (Aq sizeOf162 q0 q1 (Al _)) rfl) <| ov [503] (Ad q0) .nil) fun b8 a w h => ?_
    refine Ao mixed hn hG h [0, 1, 2, 500, 4, 5] (ov [3] (Aa q0) .nil) fun _ a w h => ?_
    refine D6 h 3 rfl (fun hb9 => ?_) (fun hb9 => ?_)
    ·cases hb9
    ·skip
     replace h := h.LO [0, 1, 4]
     refine wp_skip ?_
     show Code.wp prog _ _ a w
     refine wp_seq ?_
     refine Ao mixed hn hG h [0, 1, 503, 500, 2, 501] (ov [0] (Aa q0) <| ov [500] (M1 q0) <| ov [500] (Aa q0) <| ov [500] (AQ q0 rfl) <| ov [501] (AQ q0 rfl) <| ob [] (AJ zeroValue165 Ow) <| og [501, 503] [500] [.res 5 100000 (fun v1_ _ => (lb (v1_) 165 (AS.ck Pg.Cf)))] (AV.plain (Aq sizeOf165 q0 q1 (Al _)) rfl) <| ov [503] (Ad q0) .nil) fun b10 a w h => ?_
     refine Ao mixed hn hG h [0, 1, 2, 500, 4, 5] (ov [3] (Aa q0) .nil) fun _ a w h => ?_
     refine D6 h 3 rfl (fun hb11 => ?_) (fun hb11 => ?_)
     ·cases hb11
     ·skip
      replace h := h.LO [0, 1, 4]
      refine wp_skip ?_
      show Code.wp prog _ _ a w
      refine wp_seq ?_
      refine Ao mixed hn hG h [0, 1, 503, 500, 2, 501] (ov [0] (Aa q0) <| ov [500] (M0 q0) <| ov [500] (Aa q0) <| ov [500] (AQ q0 rfl) <| ov [501] (AQ q0 rfl) <| ob [] (AJ zeroValue168 z168) <| og [501, 503] [500] [.res 5 100000 (fun v1_ _ => (lb (v1_) 168 (Cq.ck Pf)))] (AV.plain (Aq sizeOf168 q0 q1 (Al _)) rfl) <| ov [503] (Ad q0) .nil) fun b12 a w h => ?_
      refine Ao mixed hn hG h [0, 1, 2, 500, 4, 5] (ov [3] (Aa q0) .nil) fun _ a w h => ?_
      refine D6 h 3 rfl (fun hb13 => ?_) (fun hb13 => ?_)
      ·cases hb13
      ·skip
       replace h := h.LO [0, 1, 4]
       refine wp_skip ?_
       show Code.wp prog _ _ a w
       refine wp_seq ?_
       refine Ao mixed hn hG h [0, 1, 503, 500, 2, 501] (ov [0] (Aa q0) <| ov [500] (MZ q0) <| ov [500] (Aa q0) <| ov [500] (AQ q0 rfl) <| ov [501] (AQ q0 rfl) <| ob [] (AJ zeroValue171 z171) <| og [501, 503] [500] [.res 5 100000 (fun v1_ _ => (lb (v1_) 171 (C4.ck Pe)))] (AV.plain (Aq sizeOf171 q0 q1 (Al _)) rfl) <| ov [503] (Ad q0) .nil) fun b14 a w h => ?_
       refine Ao mixed hn hG h [0, 1, 2, 500, 4, 5] (ov [3] (Aa q0) .nil) fun _ a w h => ?_
       refine D6 h 3 rfl (fun hb15 => ?_) (fun hb15 => ?_)
       ·cases hb15
       ·skip
        replace h := h.LO [0, 1, 4]
        refine wp_skip ?_
        show Code.wp prog _ _ a w
        refine wp_seq ?_
        refine Ao mixed hn hG h [0, 1, 503, 500, 2, 501] (ov [0] (Aa q0) <| ov [500] (MY q0) <| ov [500] (Aa q0) <| ov [500] (AQ q0 rfl) <| ov [501] (AQ q0 rfl) <| ob [] (AJ zeroValue173 z173) <| og [501, 503] [500] [.res 5 100000 (fun v1_ _ => (lb (v1_) 173 (AS.ck Pd.Cf)))] (AV.plain (Aq sizeOf173 q0 q1 (Al _)) rfl) <| ov [503] (Ad q0) .nil) fun b16 a w h => ?_
        refine Ao mixed hn hG h [0, 1, 2, 500, 4, 5] (ov [3] (Aa q0) .nil) fun _ a w h => ?_
        refine D6 h 3 rfl (fun hb17 => ?_) (fun hb17 => ?_)
        ·cases hb17
        ·skip
         replace h := h.LO [0, 1, 4]
         refine wp_skip ?_
         show Code.wp prog _ _ a w
         refine wp_seq ?_
         refine Ao mixed hn hG h [0, 1, 503, 500, 2, 501] (ov [0] (Aa q0) <| ov [500] (MX q0) <| ov [500] (Aa q0) <| ov [500] (AQ q0 rfl) <| ov [501] (AQ q0 rfl) <| ob [] (AJ zeroValue176 Ov) <| og [501, 503] [500] [.res 5 100000 (fun v1_ _ => (lb (v1_) 176 [one (Ab .u32 FN.I4.BE), Af 32 FN.I4.ED, Af 32 FN.I4.Dq, one (Ab .i64 FN.I4.Bh.B4), one (An (dC 32) FN.I4.Bh.C1), one (An (dC 32) FN.I4.Bh.Cp), one (An (dC 32) FN.I4.Bh.DE), one (Ab .u32 FN.I3.BE), Af 32 FN.I3.ED, Af 32 FN.I3.Dq, one (Ab .i64 FN.I3.Bh.B4), one (An (dC 32) FN.I3.Bh.C1), one (An (dC 32) FN.I3.Bh.Cp), one (An (dC 32) FN.I3.Bh.DE)]))] (AV.plain (Aq sizeOf176 q0 q1 (Al _)) rfl) <| ov [503] (Ad q0) .nil) fun b18 a w h => ?_
         refine Ao mixed hn hG h [0, 1, 2, 500, 4, 5] (ov [3] (Aa q0) .nil) fun _ a w h => ?_
         refine D6 h 3 rfl (fun hb19 => ?_) (fun hb19 => ?_)
         ·cases hb19
         ·skip
          replace h := h.LO [0, 1, 4]
          refine wp_skip ?_
          show Code.wp prog _ _ a w
          refine wp_seq ?_
          refine Ao mixed hn hG h [0, 1, 503, 500, 2, 501] (ov [0] (Aa q0) <| ov [500] (MW q0) <| ov [500] (Aa q0) <| ov [500] (AQ q0 rfl) <| ov [501] (AQ q0 rfl) <| ob [] (AJ zeroValue179 Ou) <| og [501, 503] [500] [.res 5 100000 (fun v1_ _ => (lb (v1_) 179 (Cm.ck Pc.EL)))] (AV.plain (Aq sizeOf179 q0 q1 (Al _)) rfl) <| ov [503] (Ad q0) .nil) fun b20 a w h => ?_
          refine Ao mixed hn hG h [0, 1, 2, 500, 4, 5] (ov [3] (Aa q0) .nil) fun _ a w h => ?_
          refine D6 h 3 rfl (fun hb21 => ?_) (fun hb21 => ?_)
          ·cases hb21
          ·skip
           replace h := h.LO [0, 1, 4]
           refine wp_skip ?_
           show Code.wp prog _ _ a w
           refine wp_seq ?_
           refine Ao mixed hn hG h [0, 1, 503, 500, 2, 501] (ov [0] (Aa q0) <| ov [500] (MV q0) <| ov [500] (Aa q0) <| ov [500] (AQ q0 rfl) <| ov [501] (AQ q0 rfl) <| ob [] (AJ zeroValue182 z182) <| og [501, 503] [500] [.res 5 100000 (fun v1_ _ => (lb (v1_) 182 [Af 32 ((Dk a_0).BP), one (Ab .u32 ((Dk a_0).B4)), one (An (dC 32) ((Dk a_0).Fa))]))] (AV.plain (Aq sizeOf182 q0 q1 (Al _)) rfl) <| ov [503] (Ad q0) .nil) fun b22 a w h => ?_
           refine Ao mixed hn hG h [0, 1, 2, 500, 4, 5] (ov [3] (Aa q0) .nil) fun _ a w h => ?_
           refine DL h hF 3 [1, 2, 4, 5] [0, 1, 4] (fun hb23 hF h => ?_) (fun hb23 hF h => ?_)
           ·refine Ao mixed hn hG h [0, 500] (ov [1] (Aj (p := (b22 5)) (n := 32) 0 0 underlying182 rfl sizeOf33 (by decide) q0 rfl) <| ov [500, 3] (DB [] [Af 32 ((Dk a_0).BP)] [one (Ab .u32 ((Dk a_0).B4)), one (An (dC 32) ((Dk a_0).Fa))] 1 isAgg33 sizeOf33 q0 rfl rfl rfl) <| ov [1] (Aj (p := (b22 5)) (n := 1) 0 32 underlying182 rfl sizeOf29 (by decide) q0 rfl) <| ov [500, 3] (AB [Af 32 ((Dk a_0).BP)] [one (An (dC 32) ((Dk a_0).Fa))] 1 isAgg29 q0 rfl rfl) <| ov [1] (Aj (p := (b22 5)) (n := 1) 0 33 underlying182 rfl sizeOf27 (by decide) q0 rfl) <| ov [500, 3] (AB [Af 32 ((Dk a_0).BP), one (Ab .u32 ((Dk a_0).B4))] [] 1 isAgg27 q0 rfl rfl) <| ov [504, 502, 500] (Dc [(0, .const (.int .i64 11)), (11, .tmp 164), (12, .tmp 166), (13, .tmp 168)] rfl Od Np ⟨[], [one (Ab .i64 (0 : Int))], [one (As []), one (As []), one (As []), one (Ab .u32 (0 : Int)), one (Ab .u64 (0 : Int)), one (Ab .u64 (0 : Int)), one (Ab .i64 (0 : Int)), one (An (dC 32) []), one (An (dC 32) []), one (An (dC 32) []), one (Ab .u32 (0 : Int)), Af 32 (List.replicate 32 0), Af 32 (List.replicate 32 0), one (Ab .i64 (0 : Int)), one (An (dC 32) []), one (An (dC 32) []), one (An (dC 32) []), one (Ab .u32 (0 : Int)), Af 32 (List.replicate 32 0), Af 32 (List.replicate 32 0), one (Ab .i64 (0 : Int)), one (An (dC 32) []), one (An (dC 32) []), one (An (dC 32) []), one (Ab .u32 (0 : Int)), Af 32 (List.replicate 32 0), one (Ab .i64 (0 : Int)), one (Ab .i64 (0 : Int)), one (An (dC 32) []), one (An (dC 32) []), one (An (dC 32) []), Af 32 (List.replicate 32 0), one (Ab .u32 (0 : Int)), one (An (dC 32) []), one (Ab .u32 (0 : Int)), one (Ab .u32 (0 : Int)), one (Ab .u32 (0 : Int)), one (As []), one (As []), one (As [])], [one (Ab .i64 11)], _, rfl, by kernel_rfl, rfl, qi, (Ap (AK _ _)), ⟨[one (Ab .i64 11), one (As []), one (As []), one (As []), one (Ab .u32 (0 : Int)), one (Ab .u64 (0 : Int)), one (Ab .u64 (0 : Int)), one (Ab .i64 (0 : Int)), one (An (dC 32) []), one (An (dC 32) []), one (An (dC 32) []), one (Ab .u32 (0 : Int)), Af 32 (List.replicate 32 0), Af 32 (List.replicate 32 0), one (Ab .i64 (0 : Int)), one (An (dC 32) []), one (An (dC 32) []), one (An (dC 32) []), one (Ab .u32 (0 : Int)), Af 32 (List.replicate 32 0), Af 32 (List.replicate 32 0), one (Ab .i64 (0 : Int)), one (An (dC 32) []), one (An (dC 32) []), one (An (dC 32) []), one (Ab .u32 (0 : Int)), Af 32 (List.replicate 32 0), one (Ab .i64 (0 : Int)), one (Ab .i64 (0 : Int)), one (An (dC 32) []), one (An (dC 32) []), one (An (dC 32) [])], [Af 32 (List.replicate 32 0)], [one (Ab .u32 (0 : Int)), one (An (dC 32) []), one (Ab .u32 (0 : Int)), one (Ab .u32 (0 : Int)), one (Ab .u32 (0 : Int)), one (As []), one (As []), one (As [])], [Af 32 ((Dk a_0).BP)], _, rfl, by kernel_rfl, rfl, q0, (Al _), ⟨[one (Ab .i64 11), one (As []), one (As []), one (As []), one (Ab .u32 (0 : Int)), one (Ab .u64 (0 : Int)), one (Ab .u64 (0 : Int)), one (Ab .i64 (0 : Int)), one (An (dC 32) []), one (An (dC 32) []), one (An (dC 32) []), one (Ab .u32 (0 : Int)), Af 32 (List.replicate 32 0), Af 32 (List.replicate 32 0), one (Ab .i64 (0 : Int)), one (An (dC 32) []), one (An (dC 32) []), one (An (dC 32) []), one (Ab .u32 (0 : Int)), Af 32 (List.replicate 32 0), Af 32 (List.replicate 32 0), one (Ab .i64 (0 : Int)), one (An (dC 32) []), one (An (dC 32) []), one (An (dC 32) []), one (Ab .u32 (0 : Int)), Af 32 (List.replicate 32 0), one (Ab .i64 (0 : Int)), one (Ab .i64 (0 : Int)), one (An (dC 32) []), one (An (dC 32) []), one (An (dC 32) []), Af 32 ((Dk a_0).BP)], [one (Ab .u32 (0 : Int))], [one (An (dC 32) []), one (Ab .u32 (0 : Int)), one (Ab .u32 (0 : Int)), one (Ab .u32 (0 : Int)), one (As []), one (As []), one (As [])], [one (Ab .u32 ((Dk a_0).B4))], _, rfl, by kernel_rfl, rfl, q1, (Ap (AK _ _)), ⟨[one (Ab .i64 11), one (As []), one (As []), one (As []), one (Ab .u32 (0 : Int)), one (Ab .u64 (0 : Int)), one (Ab .u64 (0 : Int)), one (Ab .i64 (0 : Int)), one (An (dC 32) []), one (An (dC 32) []), one (An (dC 32) []), one (Ab .u32 (0 : Int)), Af 32 (List.replicate 32 0), Af 32 (List.replicate 32 0), one (Ab .i64 (0 : Int)), one (An (dC 32) []), one (An (dC 32) []), one (An (dC 32) []), one (Ab .u32 (0 : Int)), Af 32 (List.replicate 32 0), Af 32 (List.replicate 32 0), one (Ab .i64 (0 : Int)), one (An (dC 32) []), one (An (dC 32) []), one (An (dC 32) []), one (Ab .u32 (0 : Int)), Af 32 (List.replicate 32 0), one (Ab .i64 (0 : Int)), one (Ab .i64 (0 : Int)), one (An (dC 32) []), one (An (dC 32) []), one (An (dC 32) []), Af 32 ((Dk a_0).BP), one (Ab .u32 ((Dk a_0).B4))], [one (An (dC 32) [])], [one (Ab .u32 (0 : Int)), one (Ab .u32 (0 : Int)), one (Ab .u32 (0 : Int)), one (As []), one (As []), one (As [])], [one (An (dC 32) ((Dk a_0).Fa))], _, rfl, by kernel_rfl, rfl, q2, (Ap (Ku _ _)), rfl⟩⟩⟩⟩) <| ou [0, 500] 2 (Aq sizeOf106 q0 q1 (Al _)) .nil) fun _ a w h => ?_
            refine wp_ret ?_
            obtain rfl := Option.some.inj hF
            exact ⟨.inl rfl, BG h results40 (Bs 0 1 rfl rfl isAgg106 sizeOf106 (by kernel_rfl)) [] [] rfl rfl rfl⟩
           ·refine wp_skip ?_
            show Code.wp prog _ _ a w
            refine wp_seq ?_
            refine Ao mixed hn hG h [1, 503, 500, 2, 501] (ov [0] (Aa q0) <| ov [500] (M7 q0) <| ov [500] (Aa q0) <| ov [500] (AQ q0 rfl) <| ov [501] (AQ q0 rfl) <| ob [] (AJ zeroValue148 z148) <| og [501, 503] [500] [.res 5 100000 (fun v1_ _ => (lb (v1_) 148 (Ai.ck ((HT a_0).CN))))] (AV.plain (Aq sizeOf148 q0 q1 (Al _)) rfl) <| ov [503] (Ad q0) .nil) fun b24 a w h => ?_
            refine Ao mixed hn hG h [0, 1, 500, 3, 4] (ov [2] (Aa q0) .nil) fun _ a w h => ?_
            refine DL h hF 2 [0, 1, 3, 4] [0, 3] (fun hb25 hF h => ?_) (fun hb25 hF h => ?_)
            ·refine Ao mixed hn hG h [0, 500] (ov [1] (Aj (p := (b24 5)) (n := 6) 0 0 underlying148 rfl sizeOf31 (by decide) q0 rfl) <| ov [500, 3] (DB [] (Ai.ck ((HT a_0).CN)) [] 1 isAgg31 sizeOf31 q0 rfl rfl rfl) <| ov [500] (Dc [(0, .const (.int .i64 12)), (14, .tmp 177)] rfl Od Np ⟨[], [one (Ab .i64 (0 : Int))], [one (As []), one (As []), one (As []), one (Ab .u32 (0 : Int)), one (Ab .u64 (0 : Int)), one (Ab .u64 (0 : Int)), one (Ab .i64 (0 : Int)), one (An (dC 32) []), one (An (dC 32) []), one (An (dC 32) []), one (Ab .u32 (0 : Int)), Af 32 (List.replicate 32 0), Af 32 (List.replicate 32 0), one (Ab .i64 (0 : Int)), one (An (dC 32) []), one (An (dC 32) []), one (An (dC 32) []), one (Ab .u32 (0 : Int)), Af 32 (List.replicate 32 0), Af 32 (List.replicate 32 0), one (Ab .i64 (0 : Int)), one (An (dC 32) []), one (An (dC 32) []), one (An (dC 32) []), one (Ab .u32 (0 : Int)), Af 32 (List.replicate 32 0), one (Ab .i64 (0 : Int)), one (Ab .i64 (0 : Int)), one (An (dC 32) []), one (An (dC 32) []), one (An (dC 32) []), Af 32 (List.replicate 32 0), one (Ab .u32 (0 : Int)), one (An (dC 32) []), one (Ab .u32 (0 : Int)), one (Ab .u32 (0 : Int)), one (Ab .u32 (0 : Int)), one (As []), one (As []), one (As [])], [one (Ab .i64 12)], _, rfl, by kernel_rfl, rfl, qi, (Ap (AK _ _)), ⟨[one (Ab .i64 12), one (As []), one (As []), one (As []), one (Ab .u32 (0 : Int)), one (Ab .u64 (0 : Int)), one (Ab .u64 (0 : Int)), one (Ab .i64 (0 : Int)), one (An (dC 32) []), one (An (dC 32) []), one (An (dC 32) []), one (Ab .u32 (0 : Int)), Af 32 (List.replicate 32 0), Af 32 (List.replicate 32 0), one (Ab .i64 (0 : Int)), one (An (dC 32) []), one (An (dC 32) []), one (An (dC 32) []), one (Ab .u32 (0 : Int)), Af 32 (List.replicate 32 0), Af 32 (List.replicate 32 0), one (Ab .i64 (0 : Int)), one (An (dC 32) []), one (An (dC 32) []), one (An (dC 32) []), one (Ab .u32 (0 : Int)), Af 32 (List.replicate 32 0), one (Ab .i64 (0 : Int)), one (Ab .i64 (0 : Int)), one (An (dC 32) []), one (An (dC 32) []), one (An (dC 32) []), Af 32 (List.replicate 32 0), one (Ab .u32 (0 : Int)), one (An (dC 32) [])], [one (Ab .u32 (0 : Int)), one (Ab .u32 (0 : Int)), one (Ab .u32 (0 : Int)), one (As []), one (As []), one (As [])], [], (Ai.ck ((HT a_0).CN)), _, rfl, by kernel_rfl, rfl, q0, (Al _), rfl⟩⟩) <| ou [0, 500] 2 (Aq sizeOf106 q0 q1 (Al _)) .nil) fun _ a w h => ?_
             refine wp_ret ?_
             obtain rfl := Option.some.inj hF
             exact ⟨.inl rfl, BG h results40 (Bs 0 1 rfl rfl isAgg106 sizeOf106 (by kernel_rfl)) [] [] rfl rfl rfl⟩
            ·refine wp_skip ?_
             show Code.wp prog _ _ a w
             refine Ao mixed hn hG h [0, 500] (ov [] (Dc [] rfl Od Np rfl) <| ou [0, 500] 1 (Aq sizeOf106 q0 q1 (Al _)) .nil) fun _ a w h => ?_
             refine wp_ret ?_
             obtain rfl := Option.some.inj hF
             exact ⟨.inl rfl, BG h results40 (Bs 0 1 rfl rfl isAgg106 sizeOf106 (by kernel_rfl)) [] [] rfl rfl rfl⟩

def FZ (a_0 : Ae) (a_1 : Int) (a_2 : EJ) : Option (Ae × Int) := ((G2 a_2).bind fun r3 => (if (decide (r3.Pp = (11 : Int))) = true then ((Bb none a_0 a_1 r3.BP r3.B4 r3.Fa).bind fun r6 => some (r6.1, r6.2.1)) else ((Bv none a_0 a_1 r3.CN).bind fun r7 => some (r7.1, r7.2.1))))
theorem Lk {a_0 : Ae} {a_1 : Int} {a_2 : EJ} {r : Ae × Int} (hF : FZ a_0 a_1 a_2 = some r) : Az prog KG 11 [(AG (Ae.ck a_0)), (Ab .u64 a_1), (Dw a_2)] [] (fun _ => []) (CV [(AG (Ae.ck r.1)), (Ab .i64 r.2)]) := by
 refine Az.intro 32 func11 rfl ntmps11 (Nat.le_of_ble_eq_true rfl) ?_
 intro c a w hG hn h
 unfold FZ at hF
 change Ar c [.slot 0 (AG (Ae.ck a_0)), .slot 1 (Ab .u64 a_1), .slot 2 (Dw a_2)] a w at h
 refine Ao mixed hn hG h [1, 2, 504, 502, 503, 501] (ob [0] (BF q0 (Al _)) <| ob [] (AJ zeroValue41 Qy) <| ov [] (Ad qi) .nil) fun b1 a w h => ?_
 obtain ⟨r3, hr3, hF⟩ := bind_some hF
 refine Ao mixed hn hG h [0, 2, 3, 502, 4, 5, 500] (ov [1] (Aa q0) <| oc [500] [] call40 (Ll hr3) ⟨q0, trivial⟩ <| ob [] (AJ zeroValue106 Np) <| og [501, 502] [500] [.res 2 100000 (fun v1_ _ => (lb (v1_) 106 (A9.ck r3)))] (AV.plain (Aq sizeOf106 q0 q1 (Al _)) rfl) .nil) fun b4 a w h => ?_
 refine wp_seq ?_
 refine Ao mixed hn hG h [0, 1, 2, 3, 500, 4, 5, 6] (ov [3] (Aj (p := (b4 2)) (n := 1) 0 0 underlying106 rfl sizeOf3 (by decide) q0 rfl) <| ov [500, 6] (AB [] ((A9.ck r3).drop 1) 1 isAgg3 q0 rfl rfl) <| ov [500] (Ak C3 q0 qi) .nil) fun _ a w h => ?_
 refine DL h hF 4 [0, 1, 2, 3, 5, 6, 7] [0, 1, 2, 3, 5, 6, 7] (fun hb5 hF h => ?_) (fun hb5 hF h => ?_)
 ·replace h := h.snoc Hf
  replace h := h.sub [0, 1, 2, 3, 4, 5, 6, 7] (by rfl)
  change Ar c [.slot 1 (Ab .u64 a_1), .slot 3 (Au (b1 0) 0), .slot 6 (Au (b1 1) 0), .slot 8 (Au (b4 2) 0), .res (lb (b1 0) 41 (Ae.ck a_0)), .res (lb (b1 1) 41 [one (Ab .u32 (0 : Int)), one (Ab .u32 (0 : Int)), Af 32 (List.replicate 32 0), one (An (dC 32) []), one (Ab .u64 (0 : Int)), Af 32 (List.replicate 32 0), one (An Av.ck []), one (An Ag.ck []), one (AE false), one (AE false)]), .res (lb (b4 2) 106 (A9.ck r3)), .res (AO (.pointer none) none)] a w at h
  obtain ⟨r6, hr6, hF⟩ := bind_some hF
  refine Ao mixed hn hG h [2, 500, 501, 504] (ov [1, 4] (AA 1 isAgg41 sizeOf41 q0) <| ov [0] (Aa q0) <| ov [3] (Aj (p := (b4 2)) (n := 32) 0 187 underlying106 rfl sizeOf33 (by decide) q0 rfl) <| ov [500, 6] (DB ((A9.ck r3).take 32) [Af 32 r3.BP] ((A9.ck r3).drop 33) 1 isAgg33 sizeOf33 q0 rfl (by kernel_rfl) rfl) <| ov [3] (Aj (p := (b4 2)) (n := 1) 0 219 underlying106 rfl sizeOf29 (by decide) q0 rfl) <| ov [500, 6] (AB ((A9.ck r3).take 33) ((A9.ck r3).drop 34) 1 isAgg29 q0 rfl (by kernel_rfl)) <| ov [3] (Aj (p := (b4 2)) (n := 1) 0 220 underlying106 rfl sizeOf27 (by decide) q0 rfl) <| ov [500, 6] (AB ((A9.ck r3).take 34) (Ai.ck r3.CN) 1 isAgg27 q0 rfl (by kernel_rfl)) <| oc [507, 506, 504, 502, 500] [7] call23 (Ia hr6) ⟨(DZ (ec _)), q0, q1, q2, q3, (opt 4 rfl), trivial⟩ <| ov [501] (AQ q0 rfl) <| ov [502] (AQ q0 rfl) <| ou [2, 501] 5 (Aq sizeOf41 q0 q1 (Al _)) <| ov [501] (Ad q0) .nil) fun _ a w h => ?_
  refine wp_ret ?_
  obtain rfl := Option.some.inj hF
  exact ⟨.inl rfl, Es h (rs := [.cell 6 41, .tmp 7]) (Vs := [(AG (Ae.ck r6.1)), (Ab .i64 r6.2.1)]) results11 (by decide) ⟨(Bs 0 2 rfl rfl isAgg41 sizeOf41 rfl), (Bc 1 rfl), trivial⟩ [] [] rfl rfl rfl⟩
 ·refine wp_skip ?_
  show Code.wp prog _ _ a w
  replace h := h.snoc Hf
  replace h := h.sub [0, 1, 2, 3, 4, 5, 6, 7] (by rfl)
  change Ar c [.slot 1 (Ab .u64 a_1), .slot 3 (Au (b1 0) 0), .slot 6 (Au (b1 1) 0), .slot 8 (Au (b4 2) 0), .res (lb (b1 0) 41 (Ae.ck a_0)), .res (lb (b1 1) 41 [one (Ab .u32 (0 : Int)), one (Ab .u32 (0 : Int)), Af 32 (List.replicate 32 0), one (An (dC 32) []), one (Ab .u64 (0 : Int)), Af 32 (List.replicate 32 0), one (An Av.ck []), one (An Ag.ck []), one (AE false), one (AE false)]), .res (lb (b4 2) 106 (A9.ck r3)), .res (AO (.pointer none) none)] a w at h
  obtain ⟨r7, hr7, hF⟩ := bind_some hF
  refine Ao mixed hn hG h [2, 500, 501, 504] (ov [1, 4] (AA 1 isAgg41 sizeOf41 q0) <| ov [0] (Aa q0) <| ov [3] (Aj (p := (b4 2)) (n := 6) 0 221 underlying106 rfl sizeOf31 (by decide) q0 rfl) <| ov [500, 6] (DB ((A9.ck r3).take 35) (Ai.ck r3.CN) [] 1 isAgg31 sizeOf31 q0 rfl (by kernel_rfl) rfl) <| oc [503, 502, 500] [7] call25 (IM hr7) ⟨(DZ (ec _)), q0, q1, q2, trivial⟩ <| ov [501] (AQ q0 rfl) <| ov [502] (AQ q0 rfl) <| ou [2, 501] 5 (Aq sizeOf41 q0 q1 (Al _)) <| ov [501] (Ad q0) .nil) fun _ a w h => ?_
  refine wp_ret ?_
  obtain rfl := Option.some.inj hF
  exact ⟨.inl rfl, Es h (rs := [.cell 6 41, .tmp 7]) (Vs := [(AG (Ae.ck r7.1)), (Ab .i64 r7.2.1)]) results11 (by decide) ⟨(Bs 0 2 rfl rfl isAgg41 sizeOf41 rfl), (Bc 1 rfl), trivial⟩ [] [] rfl rfl rfl⟩

def Bd.b1 (L_2 : DS) (L_3 : DR) (L_5 : EF) (r3 : Ah × (List (EJ)) × (Option AP)) (x8 : Int) (x9 : Ae) : Option (CR (Bool × Ah × DS × DR × Ae × EF) (Int × Ae)) := (if (decide (x8 < (r3.2.1.length : Int))) = true then (if (0 : Int) ≤ x8 ∧ x8 < r3.2.1.length then ((FZ x9 L_5.Dx (r3.2.1.getD x8.toNat default)).bind fun r18 => (if (!decide (r18.2 = (0 : Int))) = true then some (.ret (false, r3.1, L_2, L_3, r18.1, L_5)) else some (.cont (IntKind.wrap .i64 (x8 + 1), r18.1)))) else none) else some (.brk (x8, x9)))
def Bd (a_0 : Int) (L_1 : Ah) (L_2 : DS) (L_3 : DR) (L_4 : Ae) (L_5 : EF) : Option (Bool × Ah × DS × DR × Ae × EF) := ((A3 none L_1 L_2.Dx L_3.Dx L_4 L_5.Dx a_0).bind fun r3 => ((Bf (fun s : Int × Ae => Bd.b1 L_2 L_3 L_5 r3 s.1 s.2) (((r3.2.1.length : Int) - 0 : Int).toNat + 2) (0, L_4)).bind fun cr => match cr with | .ret r => some r | .next (y24, y25) => some (true, r3.1, L_2, L_3, y25, L_5)))
theorem EN {p_1 : Value} {p_2 : Value} {p_3 : Value} {p_4 : Value} {p_5 : Value} {a_0 : Int} {L_1 : Ah} {L_2 : DS} {L_3 : DR} {L_4 : Ae} {L_5 : EF} {r : Bool × Ah × DS × DR × Ae × EF} (hF : Bd a_0 L_1 L_2 L_3 L_4 L_5 = some r) : Az prog KG 9 [(Ab .i64 a_0), (Am p_1), (Am p_2), (Am p_3), (Am p_4), (Am p_5)] [(CI p_1 (some L_1)), (B2 p_2 (some L_2)), (B5 p_3 (some L_3)), (Cz p_4 (some L_4)), (Cr p_5 (some L_5))] (fun _ => [CI p_1 (some r.2.1), B2 p_2 (some r.2.2.1), B5 p_3 (some r.2.2.2.1), Cz p_4 (some r.2.2.2.2.1), Cr p_5 (some r.2.2.2.2.2)]) (AE r.1) := by
 refine Az.intro 38 func9 rfl ntmps9 (Nat.le_of_ble_eq_true rfl) ?_
 intro c a w hG hn h
 unfold Bd at hF
 change Ar c [.slot 0 (Ab .i64 a_0), .slot 1 (Am p_1), .slot 2 (Am p_2), .slot 3 (Am p_3), .slot 4 (Am p_4), .slot 5 (Am p_5), .res (CI p_1 (some L_1)), .res (B2 p_2 (some L_2)), .res (B5 p_3 (some L_3)), .res (Cz p_4 (some L_4)), .res (Cr p_5 (some L_5))] a w at h
 refine Ao mixed hn hG h [0, 1, 2, 3, 4, 5, 6, 7, 8, 9, 10] (ov [] (Ad qb) .nil) fun _ a w h => ?_
 refine Ao mixed hn hG h [0, 1, 2, 3, 4, 5, 6, 7, 8, 9, 10] (ov [] (Ad (DZ (ec _))) .nil) fun _ a w h => ?_
 have hp := h.Hi 6 rfl (fun Φ f w q => Oo Φ f w q)
 replace h := h.B6 1 rfl (V' := Au p_1 0) (fun _ _ h => DG h hp)
 replace h := h.sub [0, 1, 2, 3, 4, 5, 6, 7, 8, 9, 10] (by rfl)
 change Ar c [.slot 0 (Ab .i64 a_0), .slot 1 (Au p_1 0), .slot 2 (Am p_2), .slot 3 (Am p_3), .slot 4 (Am p_4), .slot 5 (Am p_5), .res (lb p_1 43 (Ah.ck L_1)), .res (B2 p_2 (some L_2)), .res (B5 p_3 (some L_3)), .res (Cz p_4 (some L_4)), .res (Cr p_5 (some L_5))] a w at h
 obtain ⟨h1, h⟩ := h.ex 7 rfl
 have hp := h.Hi 7 rfl (fun Φ f w q => KV Φ f w q)
 replace h := h.B6 2 rfl (V' := Au p_2 0) (fun _ _ h => DG h hp)
 replace h := h.sep (R := lb p_2 26 [one (Am h1)]) (S := (acc h1 31 6 Ai.ck L_2.Dx)) 7 rfl
 replace h := h.sub [0, 1, 2, 3, 4, 5, 6, 7, 8, 9, 10, 11] (by rfl)
 change Ar c [.slot 0 (Ab .i64 a_0), .slot 1 (Au p_1 0), .slot 2 (Au p_2 0), .slot 3 (Am p_3), .slot 4 (Am p_4), .slot 5 (Am p_5), .res (lb p_1 43 (Ah.ck L_1)), .res (lb p_2 26 [one (Am h1)]), .res (B5 p_3 (some L_3)), .res (Cz p_4 (some L_4)), .res (Cr p_5 (some L_5)), .res (acc h1 31 6 Ai.ck L_2.Dx)] a w at h
 obtain ⟨h2, h⟩ := h.ex 8 rfl
 have hp := h.Hi 8 rfl (fun Φ f w q => JH Φ f w q)
 replace h := h.B6 3 rfl (V' := Au p_3 0) (fun _ _ h => DG h hp)
 replace h := h.sep (R := lb p_3 27 [one (Am h2)]) (S := (acc h2 33 32 (dC 32) L_3.Dx)) 8 rfl
 replace h := h.sub [0, 1, 2, 3, 4, 5, 6, 7, 8, 9, 10, 11, 12] (by rfl)
 change Ar c [.slot 0 (Ab .i64 a_0), .slot 1 (Au p_1 0), .slot 2 (Au p_2 0), .slot 3 (Au p_3 0), .slot 4 (Am p_4), .slot 5 (Am p_5), .res (lb p_1 43 (Ah.ck L_1)), .res (lb p_2 26 [one (Am h1)]), .res (lb p_3 27 [one (Am h2)]), .res (Cz p_4 (some L_4)), .res (Cr p_5 (some L_5)), .res (acc h1 31 6 Ai.ck L_2.Dx), .res (acc h2 33 32 (dC 32) L_3.Dx)] a w at h
 have hp := h.Hi 9 rfl (fun Φ f w q => KS Φ f w q)
 replace h := h.B6 4 rfl (V' := Au p_4 0) (fun _ _ h => DG h hp)
 replace h := h.sub [0, 1, 2, 3, 4, 5, 6, 7, 8, 9, 10, 11, 12] (by rfl)
 change Ar c [.slot 0 (Ab .i64 a_0), .slot 1 (Au p_1 0), .slot 2 (Au p_2 0), .slot 3 (Au p_3 0), .slot 4 (Au p_4 0), .slot 5 (Am p_5), .res (lb p_1 43 (Ah.ck L_1)), .res (lb p_2 26 [one (Am h1)]), .res (lb p_3 27 [one (Am h2)]), .res (lb p_4 41 (Ae.ck L_4)), .res (Cr p_5 (some L_5)), .res (acc h1 31 6 Ai.ck L_2.Dx), .res (acc h2 33 32 (dC 32) L_3.Dx)] a w at h
 have hp := h.Hi 10 rfl (fun Φ f w q => L7 Φ f w q)
 replace h := h.B6 5 rfl (V' := Au p_5 0) (fun _ _ h => DG h hp)
 replace h := h.sub [0, 1, 2, 3, 4, 5, 6, 7, 8, 9, 10, 11, 12] (by rfl)
 change Ar c [.slot 0 (Ab .i64 a_0), .slot 1 (Au p_1 0), .slot 2 (Au p_2 0), .slot 3 (Au p_3 0), .slot 4 (Au p_4 0), .slot 5 (Au p_5 0), .res (lb p_1 43 (Ah.ck L_1)), .res (lb p_2 26 [one (Am h1)]), .res (lb p_3 27 [one (Am h2)]), .res (lb p_4 41 (Ae.ck L_4)), .res (lb p_5 24 [one (Ab .u64 L_5.Dx)]), .res (acc h1 31 6 Ai.ck L_2.Dx), .res (acc h2 33 32 (dC 32) L_3.Dx)] a w at h
 replace h := h.snoc Hf
 replace h := h.sub [0, 1, 2, 3, 4, 5, 6, 7, 8, 9, 10, 11, 12, 13] (by rfl)
 change Ar c [.slot 0 (Ab .i64 a_0), .slot 1 (Au p_1 0), .slot 2 (Au p_2 0), .slot 3 (Au p_3 0), .slot 4 (Au p_4 0), .slot 5 (Au p_5 0), .res (lb p_1 43 (Ah.ck L_1)), .res (lb p_2 26 [one (Am h1)]), .res (lb p_3 27 [one (Am h2)]), .res (lb p_4 41 (Ae.ck L_4)), .res (lb p_5 24 [one (Ab .u64 L_5.Dx)]), .res (acc h1 31 6 Ai.ck L_2.Dx), .res (acc h2 33 32 (dC 32) L_3.Dx), .res (AO (.pointer none) none)] a w at h
 obtain ⟨r3, hr3, hF⟩ := bind_some hF
 refine wp_seq ?_
 refine CY mixed hn hG h [4, 5, 500, 501, 7, 8, 9, 10, 11, 12, 505] (ov [1, 6] (AA 1 isAgg43 sizeOf43 q0) <| ov [2, 7, 11] (Eh 1 2 isAgg26 q0 rfl rfl) <| ov [3, 8, 12] (Eh 1 2 isAgg27 q0 rfl rfl) <| ov [4, 9] (AA 1 isAgg41 sizeOf41 q0) <| ov [5, 10] (AB [] [] 1 isAgg24 q0 rfl rfl) <| ov [0] (Aa q0) <| oc [505, 504, 503, 502, 501, 500] [13] call10 (Ev hr3) ⟨(DZ (ec _)), q0, q1, q2, q3, (opt 4 rfl), (opt 5 rfl), trivial⟩ <| ov [501] (Aa q0) <| ov [500] (AQ q0 rfl) <| ov [501] (AQ q0 rfl) <| ou [1, 501] 6 (Aq sizeOf43 q0 q1 (Al _)) <| ov [501] (Ad q0) .nil) fun _ a w h => ?_
 replace h := h.conv 3 rfl (R' := CI p_1 (some r3.1)) (Kc (o := (some r3.1)))
 replace h := h.sub [0, 1, 2, 4, 5, 6, 7, 8, 9, 10, 3] (by rfl)
 change Ar c [.slot 4 (Au p_4 0), .slot 5 (Au p_5 0), .slot 8 (An KI r3.2.1), .res (lb p_2 26 [one (Am h1)]), .res (lb p_3 27 [one (Am h2)]), .res (lb p_4 41 (Ae.ck L_4)), .res (lb p_5 24 [one (Ab .u64 L_5.Dx)]), .res (acc h1 31 6 Ai.ck L_2.Dx), .res (acc h2 33 32 (dC 32) L_3.Dx), .res (AO (.pointer none) r3.2.2), .res (CI p_1 (some r3.1))] a w at h
 replace h := h.EY 3 7 rfl rfl (by decide)
 replace h := h.conv 3 rfl (R' := B2 p_2 (some L_2)) (He (v0 := h1) (o := (some L_2)))
 replace h := h.sub [0, 1, 2, 4, 5, 6, 8, 9, 10, 3] (by rfl)
 change Ar c [.slot 4 (Au p_4 0), .slot 5 (Au p_5 0), .slot 8 (An KI r3.2.1), .res (lb p_3 27 [one (Am h2)]), .res (lb p_4 41 (Ae.ck L_4)), .res (lb p_5 24 [one (Ab .u64 L_5.Dx)]), .res (acc h2 33 32 (dC 32) L_3.Dx), .res (AO (.pointer none) r3.2.2), .res (CI p_1 (some r3.1)), .res (B2 p_2 (some L_2))] a w at h
 replace h := h.EY 3 6 rfl rfl (by decide)
 replace h := h.conv 3 rfl (R' := B5 p_3 (some L_3)) (Gu (v0 := h2) (o := (some L_3)))
 replace h := h.sub [0, 1, 2, 4, 5, 7, 8, 9, 3] (by rfl)
 change Ar c [.slot 4 (Au p_4 0), .slot 5 (Au p_5 0), .slot 8 (An KI r3.2.1), .res (lb p_4 41 (Ae.ck L_4)), .res (lb p_5 24 [one (Ab .u64 L_5.Dx)]), .res (AO (.pointer none) r3.2.2), .res (CI p_1 (some r3.1)), .res (B2 p_2 (some L_2)), .res (B5 p_3 (some L_3))] a w at h
 replace h := h.conv 3 rfl (R' := Cz p_4 (some L_4)) (Hd (o := (some L_4)))
 replace h := h.B6 0 rfl (fun _ _ h => DD h)
 replace h := h.sub [0, 1, 2, 4, 5, 6, 7, 8, 3] (by rfl)
 change Ar c [.slot 4 (Am p_4), .slot 5 (Au p_5 0), .slot 8 (An KI r3.2.1), .res (lb p_5 24 [one (Ab .u64 L_5.Dx)]), .res (AO (.pointer none) r3.2.2), .res (CI p_1 (some r3.1)), .res (B2 p_2 (some L_2)), .res (B5 p_3 (some L_3)), .res (Cz p_4 (some L_4))] a w at h
 replace h := h.conv 3 rfl (R' := Cr p_5 (some L_5)) (Iv (o := (some L_5)))
 replace h := h.B6 1 rfl (fun _ _ h => DD h)
 replace h := h.sub [0, 1, 2, 4, 5, 6, 7, 8, 3] (by rfl)
 change Ar c [.slot 4 (Am p_4), .slot 5 (Am p_5), .slot 8 (An KI r3.2.1), .res (AO (.pointer none) r3.2.2), .res (CI p_1 (some r3.1)), .res (B2 p_2 (some L_2)), .res (B5 p_3 (some L_3)), .res (Cz p_4 (some L_4)), .res (Cr p_5 (some L_5))] a w at h
 show Code.wp prog _ _ a w
 refine wp_seq ?_
 refine Ao mixed hn hG h [0, 1, 502, 501, 500, 3, 4, 5, 6, 7, 8] (ov [2] (Aa q0) <| ov [500] (A4 underlying45 q0) <| ov [] (Aa qi) .nil) fun _ a w h => ?_
 refine wp_block ?_
 obtain ⟨cr20, hl21, hF⟩ := bind_some hF
 refine wp_mono (Bw (R := Bool × Ah × DS × DR × Ae × EF) (S := Int × Ae) (fun s a w => Ar c [.slot 4 (Am p_4), .slot 5 (Am p_5), .slot 22 (An KI r3.2.1), .slot 23 (Ab .i64 (r3.2.1.length : Int)), .slot 24 (Ab .i64 s.1), .res (AO (.pointer none) r3.2.2), .res (CI p_1 (some r3.1)), .res (B2 p_2 (some L_2)), .res (B5 p_3 (some L_3)), .res (Cz p_4 (some s.2)), .res (Cr p_5 (some L_5))] a w) (fun res e a w => match res with | .next s => e = .exit 0 ∧ Ar c [.res (AO (.pointer none) r3.2.2), .res (CI p_1 (some r3.1)), .res (B2 p_2 (some L_2)), .res (B5 p_3 (some L_3)), .res (Cz p_4 (some s.2)), .res (Cr p_5 (some L_5))] a w | .ret r => e = .ret ∧ CO prog f9 c (AE r.1) (fun _ => [CI p_1 (some r.2.1), B2 p_2 (some r.2.2.1), B5 p_3 (some r.2.2.2.1), Cz p_4 (some r.2.2.2.2.1), Cr p_5 (some r.2.2.2.2.2)]) a w) ?_ _ (0, L_4) _ _ _ (h.sub [0, 1, 2, 3, 4, 5, 6, 7, 8, 9, 10] (by rfl)) hl21) ?_
 ·clear hl21 hF h
  intro s a w o h hF
  obtain ⟨x8, x9⟩ := s
  change Bd.b1 L_2 L_3 L_5 r3 x8 x9 = some o at hF
  unfold Bd.b1 at hF
  change Ar c [.slot 4 (Am p_4), .slot 5 (Am p_5), .slot 22 (An KI r3.2.1), .slot 23 (Ab .i64 (r3.2.1.length : Int)), .slot 24 (Ab .i64 x8), .res (AO (.pointer none) r3.2.2), .res (CI p_1 (some r3.1)), .res (B2 p_2 (some L_2)), .res (B5 p_3 (some L_3)), .res (Cz p_4 (some x9)), .res (Cr p_5 (some L_5))] a w at h
  refine Ao mixed hn hG h [0, 1, 2, 3, 4, 500, 5, 6, 7, 8, 9, 10] (ov [4, 3] (Ak Bl q0 q1) .nil) fun _ a w h => ?_
  refine wp_seq ?_
  refine DL h hF 5 [0, 1, 2, 3, 4, 6, 7, 8, 9, 10, 11] [0, 1, 2, 3, 4, 6, 7, 8, 9, 10, 11] (fun hb16 hF h => ?_) (fun hb16 hF h => ?_)
  ·refine wp_skip ?_
   show Code.wp prog _ _ a w
   refine wp_seq ?_
   refine wp_block ?_
   obtain ⟨hv17, hF⟩ := Ay hF
   refine Ao mixed hn hG h [0, 1, 500, 2, 3, 4, 5, 6, 7, 8, 9, 10] (ov [2, 4] (AL underlying45 sizeOf20 Lj q0 q1 hv17) <| ov [500] (BH [] isAgg20 q0) <| ov [500] (Ad q0) .nil) fun _ a w h => ?_
   refine Ao mixed hn hG h [0, 1, 2, 3, 4, 5, 6, 7, 8, 9, 10, 11] (ov [] (Ad qi) .nil) fun _ a w h => ?_
   have hp := h.Hi 10 rfl (fun Φ f w q => KS Φ f w q)
   replace h := h.B6 0 rfl (V' := Au p_4 0) (fun _ _ h => DG h hp)
   replace h := h.sub [0, 1, 2, 3, 4, 5, 6, 7, 8, 9, 10, 11] (by rfl)
   change Ar c [.slot 4 (Au p_4 0), .slot 5 (Am p_5), .slot 10 (Dw (r3.2.1.getD x8.toNat default)), .slot 22 (An KI r3.2.1), .slot 23 (Ab .i64 (r3.2.1.length : Int)), .slot 24 (Ab .i64 x8), .res (AO (.pointer none) r3.2.2), .res (CI p_1 (some r3.1)), .res (B2 p_2 (some L_2)), .res (B5 p_3 (some L_3)), .res (lb p_4 41 (Ae.ck x9)), .res (Cr p_5 (some L_5))] a w at h
   have hp := h.Hi 11 rfl (fun Φ f w q => L7 Φ f w q)
   replace h := h.B6 1 rfl (V' := Au p_5 0) (fun _ _ h => DG h hp)
   replace h := h.sub [0, 1, 2, 3, 4, 5, 6, 7, 8, 9, 10, 11] (by rfl)
   change Ar c [.slot 4 (Au p_4 0), .slot 5 (Au p_5 0), .slot 10 (Dw (r3.2.1.getD x8.toNat default)), .slot 22 (An KI r3.2.1), .slot 23 (Ab .i64 (r3.2.1.length : Int)), .slot 24 (Ab .i64 x8), .res (AO (.pointer none) r3.2.2), .res (CI p_1 (some r3.1)), .res (B2 p_2 (some L_2)), .res (B5 p_3 (some L_3)), .res (lb p_4 41 (Ae.ck x9)), .res (lb p_5 24 [one (Ab .u64 L_5.Dx)])] a w at h
   obtain ⟨r18, hr18, hF⟩ := bind_some hF
   refine wp_seq ?_
   refine CY mixed hn hG h [0, 1, 500, 3, 4, 5, 6, 7, 8, 9, 501, 11] (ov [0, 10] (AA 1 isAgg41 sizeOf41 q0) <| ov [1, 11] (AB [] [] 1 isAgg24 q0 rfl rfl) <| ov [2] (Aa q0) <| oc [502, 501, 500] [] call11 (Lk hr18) ⟨q0, q1, q2, trivial⟩ <| ov [500] (Aa q0) <| ov [500] (AQ q0 rfl) <| ov [501] (AQ q0 rfl) <| ou [0, 501] 10 (Aq sizeOf41 q0 q1 (Al _)) <| ov [501] (Ad q0) .nil) fun _ a w h => ?_
   replace h := h.conv 10 rfl (R' := Cz p_4 (some r18.1)) (Hd (o := (some r18.1)))
   replace h := h.B6 0 rfl (fun _ _ h => DD h)
   replace h := h.sub [0, 1, 2, 3, 4, 5, 6, 7, 8, 9, 11, 10] (by rfl)
   change Ar c [.slot 4 (Am p_4), .slot 5 (Au p_5 0), .slot 11 (Ab .i64 r18.2), .slot 22 (An KI r3.2.1), .slot 23 (Ab .i64 (r3.2.1.length : Int)), .slot 24 (Ab .i64 x8), .res (AO (.pointer none) r3.2.2), .res (CI p_1 (some r3.1)), .res (B2 p_2 (some L_2)), .res (B5 p_3 (some L_3)), .res (lb p_5 24 [one (Ab .u64 L_5.Dx)]), .res (Cz p_4 (some r18.1))] a w at h
   replace h := h.conv 10 rfl (R' := Cr p_5 (some L_5)) (Iv (o := (some L_5)))
   replace h := h.B6 1 rfl (fun _ _ h => DD h)
   replace h := h.sub [0, 1, 2, 3, 4, 5, 6, 7, 8, 9, 11, 10] (by rfl)
   change Ar c [.slot 4 (Am p_4), .slot 5 (Am p_5), .slot 11 (Ab .i64 r18.2), .slot 22 (An KI r3.2.1), .slot 23 (Ab .i64 (r3.2.1.length : Int)), .slot 24 (Ab .i64 x8), .res (AO (.pointer none) r3.2.2), .res (CI p_1 (some r3.1)), .res (B2 p_2 (some L_2)), .res (B5 p_3 (some L_3)), .res (Cz p_4 (some r18.1)), .res (Cr p_5 (some L_5))] a w at h
   show Code.wp prog _ _ a w
   refine Ao mixed hn hG h [0, 1, 3, 4, 5, 500, 6, 7, 8, 9, 10, 11] (ov [2] (Aa q0) <| ov [500] (Ak C2 q0 qi) .nil) fun _ a w h => ?_
   refine DL h hF 5 [6, 7, 8, 9, 10, 11] [0, 1, 2, 3, 4, 6, 7, 8, 9, 10, 11] (fun hb19 hF h => ?_) (fun hb19 hF h => ?_)
   ·refine Ao mixed hn hG h [500, 0, 1, 2, 3, 4, 5] (ov [] (Ad qb) .nil) fun _ a w h => ?_
    refine wp_ret ?_
    obtain rfl := Option.some.inj hF
    exact ⟨E2, rfl, BG h results9 (Bc 0 rfl) [2, 3, 4, 5, 6] [(CI p_1 (some r3.1)), (B2 p_2 (some L_2)), (B5 p_3 (some L_3)), (Cz p_4 (some r18.1)), (Cr p_5 (some L_5))] rfl rfl rfl⟩
   ·refine wp_skip ?_
    show Code.wp prog _ _ a w
    refine CY mixed hn hG h [0, 1, 2, 3, 500, 5, 6, 7, 8, 9, 10] (ov [4] (Ak AY q0 qi) <| od [500] 4 (Aa q0) .nil) fun _ a w h => ?_
    obtain rfl := Option.some.inj hF
    exact ⟨rfl, h.sub [0, 1, 2, 3, 4, 5, 6, 7, 8, 9, 10] (by rfl)⟩
  ·refine wp_exit ?_
   obtain rfl := Option.some.inj hF
   exact ⟨BQ _, rfl, h.sub [5, 6, 7, 8, 9, 10] (by rfl)⟩
 ·clear hl21
  intro e a w hq
  cases cr20 with
  | ret r22 =>
   obtain ⟨rfl, hq⟩ := hq
   obtain rfl := Option.some.inj hF
   exact ⟨.inl rfl, hq⟩
  | next s23 =>
   obtain ⟨y24, y25⟩ := s23
   obtain ⟨rfl, h⟩ := hq
   change Ar c [.res (AO (.pointer none) r3.2.2), .res (CI p_1 (some r3.1)), .res (B2 p_2 (some L_2)), .res (B5 p_3 (some L_3)), .res (Cz p_4 (some y25)), .res (Cr p_5 (some L_5))] a w at h
   refine Be ?_
   show Code.wp prog _ _ a w
   refine Ao mixed hn hG h [500, 0, 1, 2, 3, 4, 5] (ov [] (Ad qb) .nil) fun _ a w h => ?_
   refine wp_ret ?_
   obtain rfl := Option.some.inj hF
   exact ⟨.inl rfl, BG h results9 (Bc 0 rfl) [2, 3, 4, 5, 6] [(CI p_1 (some r3.1)), (B2 p_2 (some L_2)), (B5 p_3 (some L_3)), (Cz p_4 (some y25)), (Cr p_5 (some L_5))] rfl rfl rfl⟩

def At.b1 (a_0 : List (List UInt8)) (x22 : Int) (x23 : DS) (x24 : DR) (x25 : List ((List UInt8) × Bool)) : Option (CR Bool (Int × DS × DR × (List ((List UInt8) × Bool)))) := (if (decide (x22 < (a_0.length : Int))) = true then (if (0 : Int) ≤ x22 ∧ x22 < a_0.length then (if (decide ((300 : Int) < ((a_0.getD x22.toNat default).length : Int))) = true then some (.ret true) else ((Fg none (Ai.mk 1 (IntKind.wrap .u32 x22) 2 [97] [98] (a_0.getD x22.toNat default))).bind fun r47 => (if ((GM r47.1 x25).getD false) = true then some (.ret true) else (if x23.Dx.length + [(Ai.mk 1 (IntKind.wrap .u32 x22) 2 [97] [98] (a_0.getD x22.toNat default))].length ≤ CG ∧ (x23.Dx.length + [(Ai.mk 1 (IntKind.wrap .u32 x22) 2 [97] [98] (a_0.getD x22.toNat default))].length) * 64 ≤ 140737488355328 then (if x24.Dx.length + [r47.1].length ≤ CG ∧ (x24.Dx.length + [r47.1].length) * 32 ≤ 140737488355328 then some (.cont (IntKind.wrap .i64 (x22 + 1), ⟨x23.Dx ++ [(Ai.mk 1 (IntKind.wrap .u32 x22) 2 [97] [98] (a_0.getD x22.toNat default))]⟩, ⟨x24.Dx ++ [r47.1]⟩, Gw r47.1 true x25)) else none) else none)))) else none) else some (.brk (x22, x23, x24, x25)))
def At.b2 (a_1 : List (Int)) (x85 : Int) (x86 : DS) (x87 : DR) (x88 : EF) (x89 : Ae) (x90 : Ah) : Option (CR Bool (Int × DS × DR × EF × Ae × Ah)) := (if (decide (x85 < (a_1.length : Int))) = true then (if (0 : Int) ≤ x85 ∧ x85 < a_1.length then ((Bd (if (a_1.getD x85.toNat default) < (0 : Int) then (0 : Int) else (a_1.getD x85.toNat default)) x90 x86 x87 x89 x88).bind fun r103 => (if (!r103.1) = true then some (.ret false) else some (.cont (IntKind.wrap .i64 (x85 + 1), r103.2.2.1, r103.2.2.2.1, r103.2.2.2.2.2, r103.2.2.2.2.1, r103.2.1)))) else none) else some (.brk (x85, x86, x87, x88, x89, x90)))
def At.b3 (y110 : DS) (x119 : Int) (x120 : DR) (x121 : EF) (x122 : Ae) (x123 : Ah) (x124 : DS) : Option (CR Bool (Int × DR × EF × Ae × Ah × DS)) := (if (decide (x119 < (IntKind.wrap .i64 (2 * (y110.Dx.length : Int))))) = true then ((Bd (-1 : Int) x123 x124 x120 x122 x121).bind fun r135 => (if (!r135.1) = true then some (.ret false) else some (.cont (IntKind.wrap .i64 (x119 + 1), r135.2.2.2.1, r135.2.2.2.2.2, r135.2.2.2.2.1, r135.2.1, r135.2.2.1)))) else some (.brk (x119, x120, x121, x122, x123, x124)))
def At.b4 (y142 : DR) (y144 : Ae) (x153 : Int) : Option (CR Bool Int) := (if (decide (x153 < (y142.Dx.length : Int))) = true then (if (0 : Int) ≤ x153 ∧ x153 < y142.Dx.length then ((Dg y144 (y142.Dx.getD x153.toNat default)).bind fun r163 => (if (!decide (r163.1 = (2 : Int))) = true then some (.ret false) else some (.cont (IntKind.wrap .i64 (x153 + 1))))) else none) else some (.brk x153))
def At.j1 (a_0 : List (List UInt8)) (a_1 : List (Int)) (a_2 : Int) (x4 : Bool) : Option Bool := (if x4 = true then some true else ((Bf (fun s : Int × DS × DR × (List ((List UInt8) × Bool)) => At.b1 a_0 s.1 s.2.1 s.2.2.1 s.2.2.2) (((a_0.length : Int) - 0 : Int).toNat + 2) (0, ⟨[]⟩, ⟨[]⟩, [])).bind fun cr => match cr with | .ret r => some r | .next (y60, y61, y62, y63) => ((Gm none y62.Dx).bind fun r65 => ((El 1).bind fun r67 => ((Bf (fun s : Int × DS × DR × EF × Ae × Ah => At.b2 a_1 s.1 s.2.1 s.2.2.1 s.2.2.2.1 s.2.2.2.2.1 s.2.2.2.2.2) (((a_1.length : Int) - 0 : Int).toNat + 2) (0, y61, y62, ⟨a_2⟩, ⟨1, 2, (List.replicate 32 0), [], (0 : Int), (List.replicate 32 0), [(Av.mk r65.1 a_2)], [], false, false⟩, r67)).bind fun cr => match cr with | .ret r => some r | .next (y109, y110, y111, y112, y113, y114) => ((Bf (fun s : Int × DR × EF × Ae × Ah × DS => At.b3 y110 s.1 s.2.1 s.2.2.1 s.2.2.2.1 s.2.2.2.2.1 s.2.2.2.2.2) (((IntKind.wrap .i64 (2 * (y110.Dx.length : Int))) - 0 : Int).toNat + 2) (0, y111, y112, y113, y114, y110)).bind fun cr => match cr with | .ret r => some r | .next (y141, y142, y143, y144, y145, y146) => ((Bf (fun s : Int => At.b4 y142 y144 s) (((y142.Dx.length : Int) - 0 : Int).toNat + 2) 0).bind fun cr => match cr with | .ret r => some r | .next y169 => ((A3 none y145 y146.Dx y142.Dx y144 y143.Dx (-1 : Int)).bind fun r172 => some (decide ((r172.2.1.length : Int) = (0 : Int)))))))))))
def At (a_0 : List (List UInt8)) (a_1 : List (Int)) (a_2 : Int) : Option Bool := ((C8).bind fun r2 => (if (!r2) = true then some false else (if (decide ((7 : Int) < (a_0.length : Int))) = true then At.j1 a_0 a_1 a_2 true else At.j1 a_0 a_1 a_2 (decide ((6 : Int) < (a_1.length : Int))))))
theorem GD {a_0 : List (List UInt8)} {a_1 : List (Int)} {a_2 : Int} {r : Bool} (hF : At a_0 a_1 a_2 = some r) : Az prog KG 3 [(An C9 a_0), (An (iC .i64) a_1), (Ab .u64 a_2)] [] (fun _ => []) (AE r) := by
 refine Az.intro 122 func3 rfl ntmps3 (Nat.le_of_ble_eq_true rfl) ?_
 intro c a w hG hn h
 unfold At at hF
 change Ar c [.slot 0 (An C9 a_0), .slot 1 (An (iC .i64) a_1), .slot 2 (Ab .u64 a_2)] a w at h
 refine Ao mixed hn hG h [0, 1, 502, 501] (ob [2] (BF q0 (Ap (AK _ _))) <| ov [] (Ad qb) .nil) fun b1 a w h => ?_
 refine wp_seq ?_
 obtain ⟨r2, hr2, hF⟩ := bind_some hF
 refine Ao mixed hn hG h [0, 1, 2, 500, 3] (oc [] [] call5 (Jv hr2) trivial <| ov [500] (ID (Hq _) q0) .nil) fun _ a w h => ?_
 refine DL h hF 3 [] [0, 1, 2, 4] (fun hb3 hF h => ?_) (fun hb3 hF h => ?_)
 ·refine Ao mixed hn hG h [500] (ov [] (Ad qb) .nil) fun _ a w h => ?_
  refine wp_ret ?_
  obtain rfl := Option.some.inj hF
  exact ⟨.inl rfl, BG h results3 (Bc 0 rfl) [] [] rfl rfl rfl⟩
 ·refine wp_skip ?_
  show Code.wp prog _ _ a w
  refine wp_seq ?_
  refine wp_seq ?_
  refine wp_cut (fun a w => ∃ (x4 : Bool), At.j1 a_0 a_1 a_2 x4 = some r ∧ Ar c [.slot 0 (An C9 a_0), .slot 1 (An (iC .i64) a_1), .slot 5 (Au (b1 0) 0), .slot 34 (AE x4), .res (lb (b1 0) 24 [one (Ab .u64 a_2)])] a w) ?_ ?_
  ·rcases Bool.eq_false_or_eq_true (decide ((7 : Int) < (a_0.length : Int))) with hb173 | hb173
   ·replace hF := EM hb173 hF
    refine CY mixed hn hG h [0, 1, 2, 500, 3] (ov [0] (Aa q0) <| ov [500] (A4 underlying22 q0) <| ov [500] (Ak Gd q0 qi) <| ov [500] (Aa q0) <| oe [500] [] (AV.AZ (want := false) hb173 rfl rfl rfl rfl) <| oe [501] [] (AV.AZ (want := false) hb173 rfl rfl rfl rfl) <| oe [502] [] (AV.AZ (want := false) hb173 rfl rfl rfl rfl) <| ov [503] (Bu hb173 q0 qb) .nil) fun _ a w h => ?_
    exact ⟨true, hF, h.sub [0, 1, 2, 3, 4] (by rfl)⟩
   ·replace hF := EO hb173 hF
    refine CY mixed hn hG h [0, 1, 2, 500, 3] (ov [0] (Aa q0) <| ov [500] (A4 underlying22 q0) <| ov [500] (Ak Gd q0 qi) <| ov [500] (Aa q0) <| oe [500, 1] [] (AV.AT hb173 rfl rfl rfl (Aa q0)) <| oe [501, 500] [] (AV.AT hb173 rfl rfl rfl (A4 underlying23 q0)) <| oe [502, 500] [] (AV.AT hb173 rfl rfl rfl (Ak Gd q0 qi)) <| ov [503, 500] (Bq hb173 q0 q1) .nil) fun _ a w h => ?_
    exact ⟨decide ((6 : Int) < (a_1.length : Int)), hF, h.sub [0, 1, 2, 3, 4] (by rfl)⟩
  ·clear h hF
   rintro a w ⟨x4, hF, h⟩
   unfold At.j1 at hF
   show Code.wp prog _ _ a w
   refine DL h hF 3 [] [0, 1, 2, 4] (fun hb5 hF h => ?_) (fun hb5 hF h => ?_)
   ·refine Ao mixed hn hG h [500] (ov [] (Ad qb) .nil) fun _ a w h => ?_
    refine wp_ret ?_
    obtain rfl := Option.some.inj hF
    exact ⟨.inl rfl, BG h results3 (Bc 0 rfl) [] [] rfl rfl rfl⟩
   ·refine wp_skip ?_
    show Code.wp prog _ _ a w
    refine Ao mixed hn hG h [0, 1, 2, 501, 3, 500] (ob [] (AJ zeroValue26 Rn) .nil) fun b6 a w h => ?_
    refine Ao mixed hn hG h [0, 1, 2, 3, 501, 4, 5, 500] (ob [] (AJ zeroValue27 Rm) .nil) fun b7 a w h => ?_
    refine Ao mixed hn hG h [0, 1, 2, 3, 4, 500, 5, 6, 7, 501] (og [] [] [.slot 35 0 100000 (fun v1_ _ => (Am (v1_))), .res 0 100000 (fun v1_ _ => (Et (v1_) Ex (fun l => l.length = 32) (fun u y => RP.val (AE y) u) []))] (AV.plain LX rfl) <| og [501] [] [.slot 9 0 100000 (fun v1_ _ => (Am (v1_)))] (fun {β} => (AV.plain (Ad (V := (Am ((β 0)))) q0) rfl)) .nil) fun b8 a w h => ?_
    refine wp_seq ?_
    refine Ao mixed hn hG h [1, 2, 3, 4, 5, 502, 501, 500, 6, 7, 8, 9] (ov [0] (Aa q0) <| ov [500] (A4 underlying22 q0) <| ov [] (Aa qi) .nil) fun _ a w h => ?_
    refine wp_block ?_
    replace h := h.Ij 31 6 Ai.ck
    replace h := h.EY 9 12 rfl rfl (by decide)
    replace h := h.conv 9 rfl (R' := B2 (b6 0) (some ⟨[]⟩)) (He (v0 := (.slice none 0 0)) (o := (some ⟨[]⟩)))
    replace h := h.B6 2 rfl (fun _ _ h => DD h)
    replace h := h.sub [0, 1, 2, 3, 4, 5, 6, 7, 8, 10, 11, 9] (by rfl)
    change Ar c [.slot 1 (An (iC .i64) a_1), .slot 5 (Au (b1 0) 0), .slot 7 (Am (b6 0)), .slot 8 (Au (b7 0) 0), .slot 9 (Am (b8 0)), .slot 36 (An C9 a_0), .slot 37 (Ab .i64 (a_0.length : Int)), .slot 38 (Ab .i64 0), .res (lb (b1 0) 24 [one (Ab .u64 a_2)]), .res (lb (b7 0) 27 [one (Am (.slice none 0 0))]), .res (Et (b8 0) Ex (fun l => l.length = 32) (fun u y => RP.val (AE y) u) []), .res (B2 (b6 0) (some ⟨[]⟩))] a w at h
    replace h := h.Ij 33 32 (dC 32)
    replace h := h.EY 9 12 rfl rfl (by decide)
    replace h := h.conv 9 rfl (R' := B5 (b7 0) (some ⟨[]⟩)) (Gu (v0 := (.slice none 0 0)) (o := (some ⟨[]⟩)))
    replace h := h.B6 3 rfl (fun _ _ h => DD h)
    replace h := h.sub [0, 1, 2, 3, 4, 5, 6, 7, 8, 10, 11, 9] (by rfl)
    change Ar c [.slot 1 (An (iC .i64) a_1), .slot 5 (Au (b1 0) 0), .slot 7 (Am (b6 0)), .slot 8 (Am (b7 0)), .slot 9 (Am (b8 0)), .slot 36 (An C9 a_0), .slot 37 (Ab .i64 (a_0.length : Int)), .slot 38 (Ab .i64 0), .res (lb (b1 0) 24 [one (Ab .u64 a_2)]), .res (Et (b8 0) Ex (fun l => l.length = 32) (fun u y => RP.val (AE y) u) []), .res (B2 (b6 0) (some ⟨[]⟩)), .res (B5 (b7 0) (some ⟨[]⟩))] a w at h
    obtain ⟨cr56, hl57, hF⟩ := bind_some hF
    refine wp_mono (Bw (R := Bool) (S := Int × DS × DR × (List ((List UInt8) × Bool))) (fun s a w => Ar c [.slot 1 (An (iC .i64) a_1), .slot 5 (Au (b1 0) 0), .slot 7 (Am (b6 0)), .slot 8 (Am (b7 0)), .slot 9 (Am (b8 0)), .slot 36 (An C9 a_0), .slot 37 (Ab .i64 (a_0.length : Int)), .slot 38 (Ab .i64 s.1), .res (lb (b1 0) 24 [one (Ab .u64 a_2)]), .res (B2 (b6 0) (some s.2.1)), .res (B5 (b7 0) (some s.2.2.1)), .res (Et (b8 0) Ex (fun l => l.length = 32) (fun u y => RP.val (AE y) u) s.2.2.2)] a w) (fun res e a w => match res with | .next s => e = .exit 0 ∧ Ar c [.slot 1 (An (iC .i64) a_1), .slot 5 (Au (b1 0) 0), .slot 7 (Am (b6 0)), .slot 8 (Am (b7 0)), .res (lb (b1 0) 24 [one (Ab .u64 a_2)]), .res (B2 (b6 0) (some s.2.1)), .res (B5 (b7 0) (some s.2.2.1))] a w | .ret r => e = .ret ∧ CO prog f3 c (AE r) (fun _ => []) a w) ?_ _ (0, ⟨[]⟩, ⟨[]⟩, []) _ _ _ (h.sub [0, 1, 2, 3, 4, 5, 6, 7, 8, 10, 11, 9] (by rfl)) hl57) ?_
    ·clear hl57 hF h
     intro s a w o h hF
     obtain ⟨x22, x23, x24, x25⟩ := s
     change At.b1 a_0 x22 x23 x24 x25 = some o at hF
     unfold At.b1 at hF
     change Ar c [.slot 1 (An (iC .i64) a_1), .slot 5 (Au (b1 0) 0), .slot 7 (Am (b6 0)), .slot 8 (Am (b7 0)), .slot 9 (Am (b8 0)), .slot 36 (An C9 a_0), .slot 37 (Ab .i64 (a_0.length : Int)), .slot 38 (Ab .i64 x22), .res (lb (b1 0) 24 [one (Ab .u64 a_2)]), .res (B2 (b6 0) (some x23)), .res (B5 (b7 0) (some x24)), .res (Et (b8 0) Ex (fun l => l.length = 32) (fun u y => RP.val (AE y) u) x25)] a w at h
     refine Ao mixed hn hG h [0, 1, 2, 3, 4, 5, 6, 7, 500, 8, 9, 10, 11] (ov [7, 6] (Ak Bl q0 q1) .nil) fun _ a w h => ?_
     refine wp_seq ?_
     refine DL h hF 8 [0, 1, 2, 3, 4, 5, 6, 7, 9, 10, 11, 12] [0, 1, 2, 3, 4, 5, 6, 7, 9, 10, 11, 12] (fun hb43 hF h => ?_) (fun hb43 hF h => ?_)
     ·refine wp_skip ?_
      show Code.wp prog _ _ a w
      refine wp_seq ?_
      refine wp_block ?_
      obtain ⟨hv44, hF⟩ := Ay hF
      refine Ao mixed hn hG h [0, 1, 2, 3, 4, 501, 500, 5, 6, 7, 8, 9, 10, 11] (ov [7] (Aa q0) <| ov [5, 7] (AL underlying22 sizeOf9 C5 q0 q1 hv44) <| ov [500] (BH [] isAgg9 q0) <| ov [502] (Ad q0) <| ov [501] (Ad q0) .nil) fun _ a w h => ?_
      refine wp_seq ?_
      refine Ao mixed hn hG h [0, 1, 2, 3, 4, 5, 6, 7, 8, 9, 500, 10, 11, 12, 13] (ov [6] (Aa q0) <| ov [500] (DU underlying9 q0) <| ov [500] (Ak Gd q0 qi) .nil) fun _ a w h => ?_
      refine DL h hF 10 [12, 13] [0, 1, 2, 3, 4, 5, 6, 7, 8, 9, 11, 12, 13, 14] (fun hb45 hF h => ?_) (fun hb45 hF h => ?_)
      ·refine Ao mixed hn hG h [500, 0, 1] (ov [] (Ad qb) .nil) fun _ a w h => ?_
       refine wp_ret ?_
       obtain rfl := Option.some.inj hF
       exact ⟨E2, rfl, BG h results3 (Bc 0 rfl) [] [] rfl rfl rfl⟩
      ·refine wp_skip ?_
       show Code.wp prog _ _ a w
       refine Ao mixed hn hG h [0, 1, 2, 3, 4, 502, 7, 8, 9, 10, 11, 12, 13, 500] (ov [5] (Aa q0) <| ov [500] (AW underlying3 underlying29 q0) <| ov [6] (Aa q0) <| ov [501, 500] (Dc [(0, .const (.int .u32 1)), (1, .tmp 47), (2, .const (.int .u32 2)), (3, .const (.string ⟨#[97]⟩)), (4, .const (.string ⟨#[98]⟩)), (5, .tmp 48)] rfl Q3 z31 ⟨[], [one (Ab .u32 (0 : Int))], [one (Ab .u32 (0 : Int)), one (Ab .u32 (0 : Int)), one (As []), one (As []), one (As [])], [one (Ab .u32 1)], _, rfl, rfl, rfl, qi, (Ap (AK _ _)), ⟨[one (Ab .u32 1)], [one (Ab .u32 (0 : Int))], [one (Ab .u32 (0 : Int)), one (As []), one (As []), one (As [])], [one (Ab .u32 (IntKind.wrap .u32 x22))], _, rfl, rfl, rfl, q0, (Ap (AK _ _)), ⟨[one (Ab .u32 1), one (Ab .u32 (IntKind.wrap .u32 x22))], [one (Ab .u32 (0 : Int))], [one (As []), one (As []), one (As [])], [one (Ab .u32 2)], _, rfl, rfl, rfl, qi, (Ap (AK _ _)), ⟨[one (Ab .u32 1), one (Ab .u32 (IntKind.wrap .u32 x22)), one (Ab .u32 2)], [one (As [])], [one (As []), one (As [])], [one (As [97])], _, rfl, rfl, rfl, (DZ (sc _ (by decide))), (Ap (Du _)), ⟨[one (Ab .u32 1), one (Ab .u32 (IntKind.wrap .u32 x22)), one (Ab .u32 2), one (As [97])], [one (As [])], [one (As [])], [one (As [98])], _, rfl, rfl, rfl, (DZ (sc _ (by decide))), (Ap (Du _)), ⟨[one (Ab .u32 1), one (Ab .u32 (IntKind.wrap .u32 x22)), one (Ab .u32 2), one (As [97]), one (As [98])], [one (As [])], [], [one (As (a_0.getD x22.toNat default))], _, rfl, rfl, rfl, q1, (Ap (Du _)), rfl⟩⟩⟩⟩⟩⟩) <| ob [] (AJ zeroValue31 z31) <| og [501, 502] [500] [.res 4 100000 (fun v1_ _ => (lb (v1_) 31 [one (Ab .u32 1), one (Ab .u32 (IntKind.wrap .u32 x22)), one (Ab .u32 2), one (As [97]), one (As [98]), one (As (a_0.getD x22.toNat default))]))] (AV.plain (Aq sizeOf31 q0 q1 (Al _)) rfl) .nil) fun b46 a w h => ?_
       replace h := h.snoc JG
       replace h := h.sub [0, 1, 2, 3, 4, 5, 6, 7, 8, 9, 10, 11, 12, 13, 14] (by rfl)
       change Ar c [.slot 1 (An (iC .i64) a_1), .slot 5 (Au (b1 0) 0), .slot 7 (Am (b6 0)), .slot 8 (Am (b7 0)), .slot 9 (Am (b8 0)), .slot 12 (Au (b46 4) 0), .slot 36 (An C9 a_0), .slot 37 (Ab .i64 (a_0.length : Int)), .slot 38 (Ab .i64 x22), .res (lb (b1 0) 24 [one (Ab .u64 a_2)]), .res (B2 (b6 0) (some x23)), .res (B5 (b7 0) (some x24)), .res (Et (b8 0) Ex (fun l => l.length = 32) (fun u y => RP.val (AE y) u) x25), .res (lb (b46 4) 31 [one (Ab .u32 1), one (Ab .u32 (IntKind.wrap .u32 x22)), one (Ab .u32 2), one (As [97]), one (As [98]), one (As (a_0.getD x22.toNat default))]), .res (A5 (Value.pointer none) none)] a w at h
       obtain ⟨r47, hr47, hF⟩ := bind_some hF
       refine Ao mixed hn hG h [0, 1, 2, 3, 4, 5, 502, 6, 7, 8, 9, 10, 11, 12, 13, 503, 500] (ov [5, 13] (AA 1 isAgg31 sizeOf31 q0) <| oc [500] [14] call6 (Hk hr47) ⟨(DZ (ec _)), q0, trivial⟩ <| ob [] (AJ zeroValue33 GN) <| og [501, 503] [500] [.res 2 100000 (fun v1_ _ => (lb (v1_) 33 [Af 32 r47.1]))] (AV.plain (Aq sizeOf33 q0 q1 (Al _)) rfl) .nil) fun b48 a w h => ?_
       refine wp_seq ?_
       refine Ao mixed hn hG h [0, 1, 2, 3, 4, 5, 6, 7, 8, 9, 500, 10, 11, 12, 13, 14, 15, 16] (ov [4] (Aa q0) <| ov [6, 16] (AA 1 isAgg33 sizeOf33 q0) <| ov [501, 500, 13] (Ie AE false 2 underlying28 (Il underlying33 underlying5 type5 sizeOf5 isAgg5) zeroValue4 q0 q1 Im rfl LP (fun _ _ _ _ _ h => h.2) (fun _ => rfl)) .nil) fun _ a w h => ?_
       refine DL h hF 10 [12, 13, 16] [0, 1, 2, 3, 4, 5, 6, 7, 8, 9, 11, 12, 13, 14, 15, 16, 17] (fun hb49 hF h => ?_) (fun hb49 hF h => ?_)
       ·refine Ao mixed hn hG h [500, 0, 1, 2] (ov [] (Ad qb) .nil) fun _ a w h => ?_
        refine wp_ret ?_
        obtain rfl := Option.some.inj hF
        exact ⟨E2, rfl, BG h results3 (Bc 0 rfl) [] [] rfl rfl rfl⟩
       ·refine wp_skip ?_
        show Code.wp prog _ _ a w
        refine Ao mixed hn hG h [0, 1, 2, 3, 4, 5, 6, 7, 8, 9, 10, 11, 12, 500, 14, 15, 16] (ov [4] (Aa q0) <| ov [6, 16] (AA 1 isAgg33 sizeOf33 q0) <| ou [501, 500] 13 (GC underlying28 (Il underlying33 underlying5 type5 sizeOf5 isAgg5) q0 q1 Im qb) .nil) fun _ a w h => ?_
        obtain ⟨h50, h⟩ := h.ex 11 rfl
        have hp := h.Hi 11 rfl (fun Φ f w q => KV Φ f w q)
        replace h := h.B6 2 rfl (V' := Au (b6 0) 0) (fun _ _ h => DG h hp)
        replace h := h.sep (R := lb (b6 0) 26 [one (Am h50)]) (S := (acc h50 31 6 Ai.ck x23.Dx)) 11 rfl
        replace h := h.sub [0, 1, 2, 3, 4, 5, 6, 7, 8, 9, 10, 11, 12, 13, 14, 15, 16, 17] (by rfl)
        change Ar c [.slot 1 (An (iC .i64) a_1), .slot 5 (Au (b1 0) 0), .slot 7 (Au (b6 0) 0), .slot 8 (Am (b7 0)), .slot 9 (Am (b8 0)), .slot 12 (Au (b46 4) 0), .slot 13 (Au (b48 2) 0), .slot 36 (An C9 a_0), .slot 37 (Ab .i64 (a_0.length : Int)), .slot 38 (Ab .i64 x22), .res (lb (b1 0) 24 [one (Ab .u64 a_2)]), .res (lb (b6 0) 26 [one (Am h50)]), .res (B5 (b7 0) (some x24)), .res (Et (b8 0) Ex (fun l => l.length = 32) (fun u y => RP.val (AE y) u) (Gw r47.1 true x25)), .res (lb (b46 4) 31 [one (Ab .u32 1), one (Ab .u32 (IntKind.wrap .u32 x22)), one (Ab .u32 2), one (As [97]), one (As [98]), one (As (a_0.getD x22.toNat default))]), .res (A5 (Value.pointer none) r47.2), .res (lb (b48 2) 33 [Af 32 r47.1]), .res (acc h50 31 6 Ai.ck x23.Dx)] a w at h
        obtain ⟨h51, h⟩ := h.ex 12 rfl
        have hp := h.Hi 12 rfl (fun Φ f w q => JH Φ f w q)
        replace h := h.B6 3 rfl (V' := Au (b7 0) 0) (fun _ _ h => DG h hp)
        replace h := h.sep (R := lb (b7 0) 27 [one (Am h51)]) (S := (acc h51 33 32 (dC 32) x24.Dx)) 12 rfl
        replace h := h.sub [0, 1, 2, 3, 4, 5, 6, 7, 8, 9, 10, 11, 12, 13, 14, 15, 16, 17, 18] (by rfl)
        change Ar c [.slot 1 (An (iC .i64) a_1), .slot 5 (Au (b1 0) 0), .slot 7 (Au (b6 0) 0), .slot 8 (Au (b7 0) 0), .slot 9 (Am (b8 0)), .slot 12 (Au (b46 4) 0), .slot 13 (Au (b48 2) 0), .slot 36 (An C9 a_0), .slot 37 (Ab .i64 (a_0.length : Int)), .slot 38 (Ab .i64 x22), .res (lb (b1 0) 24 [one (Ab .u64 a_2)]), .res (lb (b6 0) 26 [one (Am h50)]), .res (lb (b7 0) 27 [one (Am h51)]), .res (Et (b8 0) Ex (fun l => l.length = 32) (fun u y => RP.val (AE y) u) (Gw r47.1 true x25)), .res (lb (b46 4) 31 [one (Ab .u32 1), one (Ab .u32 (IntKind.wrap .u32 x22)), one (Ab .u32 2), one (As [97]), one (As [98]), one (As (a_0.getD x22.toNat default))]), .res (A5 (Value.pointer none) r47.2), .res (lb (b48 2) 33 [Af 32 r47.1]), .res (acc h50 31 6 Ai.ck x23.Dx), .res (acc h51 33 32 (dC 32) x24.Dx)] a w at h
        obtain ⟨hv52, hF⟩ := Ay hF
        obtain ⟨hv53, hF⟩ := Ay hF
        refine CY mixed hn hG h [0, 1, 2, 3, 4, 7, 8, 9, 10, 501, 500, 13, 15, 507, 502] (ov [2, 11] (AB [] [] 1 isAgg26 q0 rfl rfl) <| ov [5, 14] (AA 1 isAgg31 sizeOf31 q0) <| ov [500] (Dn (xs := [.tmp 58]) (ys := [(Ai.mk 1 (IntKind.wrap .u32 x22) 2 [97] [98] (a_0.getD x22.toNat default))]) _ rfl underlying26 sizeOf31 zeroValue31 rfl rfl (by decide) (by decide) ⟨⟨_, q0, (Al _)⟩, trivial⟩ Ai.lens) <| og [502, 500] [17] [.slot 60 3 100000 (fun v1_ _ => (Am v1_)), .res 3 100000 (fun v1_ _ => (acc (v1_) 31 6 Ai.ck (x23.Dx ++ [(Ai.mk 1 (IntKind.wrap .u32 x22) 2 [97] [98] (a_0.getD x22.toNat default))])))] (AV.plain (DO (i := t31) underlying26 type31 rfl Ai.lens (by decide) rfl q0 q1 hv52) rfl) <| ov [3, 12] (AB [] [] 1 isAgg27 q0 rfl rfl) <| ov [6, 16] (AA 1 isAgg33 sizeOf33 q0) <| ov [500] (Dn (xs := [.tmp 62]) (ys := [r47.1]) _ rfl underlying27 sizeOf33 zeroValue33 rfl rfl (by decide) (by decide) ⟨⟨_, q0, (Al _)⟩, trivial⟩ (Bk 32)) <| og [502, 500] [18] [.slot 64 7 100000 (fun v1_ _ => (Am v1_)), .res 7 100000 (fun v1_ _ => (acc (v1_) 33 32 (dC 32) (x24.Dx ++ [r47.1])))] (AV.plain (DO (i := t33) underlying27 type33 rfl (Bk 32) (by decide) rfl q0 q1 hv53) rfl) <| og [2, 506, 505] [11] [.res 3 100000 (fun v1_ _ => (lb (b6 0) 26 [one (Am (v1_))]))] (fun {β} => (AV.plain (B7 [] [one (Am h50)] [] [one (Am ((β 3)))] sizeOf26 q0 (IB 1 2 rfl rfl H0) (Gc _) rfl rfl rfl) rfl)) <| og [3, 502, 501] [12] [.res 7 100000 (fun v1_ _ => (lb (b7 0) 27 [one (Am (v1_))]))] (fun {β} => (AV.plain (B7 [] [one (Am h51)] [] [one (Am ((β 7)))] sizeOf27 q0 (IB 1 2 rfl rfl H0) (Gc _) rfl rfl rfl) rfl)) .nil) fun b54 a w h => ?_
        replace h := h.EY 9 13 rfl rfl (by decide)
        replace h := h.conv 9 rfl (R' := B2 (b6 0) (some ⟨x23.Dx ++ [(Ai.mk 1 (IntKind.wrap .u32 x22) 2 [97] [98] (a_0.getD x22.toNat default))]⟩)) (He (v0 := (b54 3)) (o := (some ⟨x23.Dx ++ [(Ai.mk 1 (IntKind.wrap .u32 x22) 2 [97] [98] (a_0.getD x22.toNat default))]⟩)))
        replace h := h.B6 2 rfl (fun _ _ h => DD h)
        replace h := h.sub [0, 1, 2, 3, 4, 5, 6, 7, 8, 10, 11, 12, 14, 9] (by rfl)
        change Ar c [.slot 1 (An (iC .i64) a_1), .slot 5 (Au (b1 0) 0), .slot 7 (Am (b6 0)), .slot 8 (Au (b7 0) 0), .slot 9 (Am (b8 0)), .slot 36 (An C9 a_0), .slot 37 (Ab .i64 (a_0.length : Int)), .slot 38 (Ab .i64 x22), .res (lb (b1 0) 24 [one (Ab .u64 a_2)]), .res (lb (b7 0) 27 [one (Am (b54 7))]), .res (Et (b8 0) Ex (fun l => l.length = 32) (fun u y => RP.val (AE y) u) (Gw r47.1 true x25)), .res (A5 (Value.pointer none) r47.2), .res (acc (b54 7) 33 32 (dC 32) (x24.Dx ++ [r47.1])), .res (B2 (b6 0) (some ⟨x23.Dx ++ [(Ai.mk 1 (IntKind.wrap .u32 x22) 2 [97] [98] (a_0.getD x22.toNat default))]⟩))] a w at h
        replace h := h.EY 9 12 rfl rfl (by decide)
        replace h := h.conv 9 rfl (R' := B5 (b7 0) (some ⟨x24.Dx ++ [r47.1]⟩)) (Gu (v0 := (b54 7)) (o := (some ⟨x24.Dx ++ [r47.1]⟩)))
        replace h := h.B6 3 rfl (fun _ _ h => DD h)
        replace h := h.sub [0, 1, 2, 3, 4, 5, 6, 7, 8, 10, 11, 13, 9] (by rfl)
        change Ar c [.slot 1 (An (iC .i64) a_1), .slot 5 (Au (b1 0) 0), .slot 7 (Am (b6 0)), .slot 8 (Am (b7 0)), .slot 9 (Am (b8 0)), .slot 36 (An C9 a_0), .slot 37 (Ab .i64 (a_0.length : Int)), .slot 38 (Ab .i64 x22), .res (lb (b1 0) 24 [one (Ab .u64 a_2)]), .res (Et (b8 0) Ex (fun l => l.length = 32) (fun u y => RP.val (AE y) u) (Gw r47.1 true x25)), .res (A5 (Value.pointer none) r47.2), .res (B2 (b6 0) (some ⟨x23.Dx ++ [(Ai.mk 1 (IntKind.wrap .u32 x22) 2 [97] [98] (a_0.getD x22.toNat default))]⟩)), .res (B5 (b7 0) (some ⟨x24.Dx ++ [r47.1]⟩))] a w at h
        show Code.wp prog _ _ a w
        refine CY mixed hn hG h [0, 1, 2, 3, 4, 5, 6, 500, 8, 9, 10, 11, 12] (ov [7] (Ak AY q0 qi) <| od [500] 7 (Aa q0) .nil) fun _ a w h => ?_
        obtain rfl := Option.some.inj hF
        exact ⟨rfl, h.sub [0, 1, 2, 3, 4, 5, 6, 7, 8, 11, 12, 9] (by rfl)⟩
     ·refine wp_exit ?_
      obtain rfl := Option.some.inj hF
      exact ⟨BQ _, rfl, h.sub [0, 1, 2, 3, 8, 9, 10] (by rfl)⟩
    ·clear hl57
     intro e a w hq
     cases cr56 with
     | ret r58 =>
      obtain ⟨rfl, hq⟩ := hq
      obtain rfl := Option.some.inj hF
      exact ⟨.inl rfl, hq⟩
     | next s59 =>
      obtain ⟨y60, y61, y62, y63⟩ := s59
      obtain ⟨rfl, h⟩ := hq
      change Ar c [.slot 1 (An (iC .i64) a_1), .slot 5 (Au (b1 0) 0), .slot 7 (Am (b6 0)), .slot 8 (Am (b7 0)), .res (lb (b1 0) 24 [one (Ab .u64 a_2)]), .res (B2 (b6 0) (some y61)), .res (B5 (b7 0) (some y62))] a w at h
      refine Be ?_
      show Code.wp prog _ _ a w
      obtain ⟨h64, h⟩ := h.ex 6 rfl
      have hp := h.Hi 6 rfl (fun Φ f w q => JH Φ f w q)
      replace h := h.B6 3 rfl (V' := Au (b7 0) 0) (fun _ _ h => DG h hp)
      replace h := h.sep (R := lb (b7 0) 27 [one (Am h64)]) (S := (acc h64 33 32 (dC 32) y62.Dx)) 6 rfl
      replace h := h.sub [0, 1, 2, 3, 4, 5, 6, 7] (by rfl)
      change Ar c [.slot 1 (An (iC .i64) a_1), .slot 5 (Au (b1 0) 0), .slot 7 (Am (b6 0)), .slot 8 (Au (b7 0) 0), .res (lb (b1 0) 24 [one (Ab .u64 a_2)]), .res (B2 (b6 0) (some y61)), .res (lb (b7 0) 27 [one (Am h64)]), .res (acc h64 33 32 (dC 32) y62.Dx)] a w at h
      replace h := h.snoc JG
      replace h := h.sub [0, 1, 2, 3, 4, 5, 6, 7, 8] (by rfl)
      change Ar c [.slot 1 (An (iC .i64) a_1), .slot 5 (Au (b1 0) 0), .slot 7 (Am (b6 0)), .slot 8 (Au (b7 0) 0), .res (lb (b1 0) 24 [one (Ab .u64 a_2)]), .res (B2 (b6 0) (some y61)), .res (lb (b7 0) 27 [one (Am h64)]), .res (acc h64 33 32 (dC 32) y62.Dx), .res (A5 (Value.pointer none) none)] a w at h
      obtain ⟨r65, hr65, hF⟩ := bind_some hF
      refine wp_seq ?_
      refine CY mixed hn hG h [0, 1, 2, 3, 502, 4, 5, 6, 7, 507, 500] (ov [3, 6, 7] (Eh 1 2 isAgg27 q0 rfl rfl) <| oc [500] [8] call7 (IA hr65) ⟨(DZ (ec _)), q0, trivial⟩ <| ov [1, 4] (AB [] [] 1 isAgg24 q0 rfl rfl) <| ov [502, 500] (Dc [(0, .tmp 67), (1, .tmp 68)] rfl Q2 z37 ⟨[], [Af 32 (List.replicate 32 0)], [one (Ab .u64 (0 : Int))], [Af 32 r65.1], _, rfl, rfl, rfl, q0, (Al _), ⟨[Af 32 r65.1], [one (Ab .u64 (0 : Int))], [], [one (Ab .u64 a_2)], _, rfl, rfl, rfl, q1, (Ap (AK _ _)), rfl⟩⟩) <| ov [500] (Dn (xs := [.tmp 69]) (ys := [(Av.mk r65.1 a_2)]) _ rfl underlying38 sizeOf37 zeroValue37 rfl rfl (by decide) (by decide) ⟨⟨_, q0, (Al _)⟩, trivial⟩ Av.lens) <| ov [500] (Dc [(0, .const (.int .u32 1)), (1, .const (.int .u32 2)), (6, .tmp 70)] rfl Qr QC ⟨[], [one (Ab .u32 (0 : Int))], [one (Ab .u32 (0 : Int)), Af 32 (List.replicate 32 0), one (An (dC 32) []), one (Ab .u64 (0 : Int)), Af 32 (List.replicate 32 0), one (An Av.ck []), one (An Ag.ck []), one (AE false), one (AE false)], [one (Ab .u32 1)], _, rfl, rfl, rfl, qi, (Ap (AK _ _)), ⟨[one (Ab .u32 1)], [one (Ab .u32 (0 : Int))], [Af 32 (List.replicate 32 0), one (An (dC 32) []), one (Ab .u64 (0 : Int)), Af 32 (List.replicate 32 0), one (An Av.ck []), one (An Ag.ck []), one (AE false), one (AE false)], [one (Ab .u32 2)], _, rfl, rfl, rfl, qi, (Ap (AK _ _)), ⟨[one (Ab .u32 1), one (Ab .u32 2), Af 32 (List.replicate 32 0), one (An (dC 32) []), one (Ab .u64 (0 : Int)), Af 32 (List.replicate 32 0)], [one (An Av.ck [])], [one (An Ag.ck []), one (AE false), one (AE false)], [one (An Av.ck [(Av.mk r65.1 a_2)])], _, rfl, rfl, rfl, q0, (Ap (Ku _ _)), rfl⟩⟩⟩) <| ob [] (AJ zeroValue41 QC) <| og [501, 502] [500] [.res 6 100000 (fun v1_ _ => (lb (v1_) 41 [one (Ab .u32 1), one (Ab .u32 2), Af 32 (List.replicate 32 0), one (An (dC 32) []), one (Ab .u64 (0 : Int)), Af 32 (List.replicate 32 0), one (An Av.ck [(Av.mk r65.1 a_2)]), one (An Ag.ck []), one (AE false), one (AE false)]))] (AV.plain (Aq sizeOf41 q0 q1 (Al _)) rfl) .nil) fun b66 a w h => ?_
      replace h := h.EY 7 8 rfl rfl (by decide)
      replace h := h.conv 7 rfl (R' := B5 (b7 0) (some y62)) (Gu (v0 := h64) (o := (some y62)))
      replace h := h.B6 3 rfl (fun _ _ h => DD h)
      replace h := h.sub [0, 1, 2, 3, 4, 5, 6, 9, 10, 7] (by rfl)
      change Ar c [.slot 1 (An (iC .i64) a_1), .slot 5 (Au (b1 0) 0), .slot 7 (Am (b6 0)), .slot 8 (Am (b7 0)), .slot 14 (Au (b66 6) 0), .res (lb (b1 0) 24 [one (Ab .u64 a_2)]), .res (B2 (b6 0) (some y61)), .res (A5 (Value.pointer none) r65.2), .res (lb (b66 6) 41 [one (Ab .u32 1), one (Ab .u32 2), Af 32 (List.replicate 32 0), one (An (dC 32) []), one (Ab .u64 (0 : Int)), Af 32 (List.replicate 32 0), one (An Av.ck [(Av.mk r65.1 a_2)]), one (An Ag.ck []), one (AE false), one (AE false)]), .res (B5 (b7 0) (some y62))] a w at h
      show Code.wp prog _ _ a w
      obtain ⟨r67, hr67, hF⟩ := bind_some hF
      refine Ao mixed hn hG h [0, 1, 2, 3, 4, 502, 5, 6, 7, 8, 9, 500] (oc [] [] call8 (Fh hr67) ⟨qi, trivial⟩ <| ob [] (AJ zeroValue43 Rl) <| og [501, 502] [500] [.res 1 100000 (fun v1_ _ => (lb (v1_) 43 (Ah.ck r67)))] (AV.plain (Aq sizeOf43 q0 q1 (Al _)) rfl) .nil) fun b68 a w h => ?_
      refine Ao mixed hn hG h [0, 1, 2, 3, 4, 5, 500, 6, 7, 8, 9, 10, 11] (ov [5, 2, 3, 4, 1] (LY (ps := [(b68 1), (b6 0), (b7 0), (b66 6), (b1 0)]) ⟨(Jt 0 rfl), q1, q2, (Jt 3 rfl), (Jt 4 rfl), trivial⟩) <| ov [500] (Ad q0) .nil) fun _ a w h => ?_
      refine wp_seq ?_
      refine Ao mixed hn hG h [1, 2, 3, 4, 5, 6, 502, 501, 500, 7, 8, 9, 10, 11, 12] (ov [0] (Aa q0) <| ov [500] (A4 underlying23 q0) <| ov [] (Aa qi) .nil) fun _ a w h => ?_
      refine wp_block ?_
      replace h := h.conv 9 rfl (R' := Cr (b1 0) (some ⟨a_2⟩)) (Iv (o := (some ⟨a_2⟩)))
      replace h := h.B6 0 rfl (fun _ _ h => DD h)
      replace h := h.sub [0, 1, 2, 3, 4, 5, 6, 7, 8, 10, 11, 12, 13, 14, 9] (by rfl)
      change Ar c [.slot 5 (Am (b1 0)), .slot 7 (Am (b6 0)), .slot 8 (Am (b7 0)), .slot 14 (Au (b66 6) 0), .slot 15 (Au (b68 1) 0), .slot 16 (Am (.func (.func 9) #[] #[(b68 1), (b6 0), (b7 0), (b66 6), (b1 0)])), .slot 74 (An (iC .i64) a_1), .slot 75 (Ab .i64 (a_1.length : Int)), .slot 76 (Ab .i64 0), .res (B2 (b6 0) (some y61)), .res (A5 (Value.pointer none) r65.2), .res (lb (b66 6) 41 [one (Ab .u32 1), one (Ab .u32 2), Af 32 (List.replicate 32 0), one (An (dC 32) []), one (Ab .u64 (0 : Int)), Af 32 (List.replicate 32 0), one (An Av.ck [(Av.mk r65.1 a_2)]), one (An Ag.ck []), one (AE false), one (AE false)]), .res (B5 (b7 0) (some y62)), .res (lb (b68 1) 43 (Ah.ck r67)), .res (Cr (b1 0) (some ⟨a_2⟩))] a w at h
      replace h := h.conv 11 rfl (R' := Cz (b66 6) (some ⟨1, 2, (List.replicate 32 0), [], (0 : Int), (List.replicate 32 0), [(Av.mk r65.1 a_2)], [], false, false⟩)) (Hd (o := (some ⟨1, 2, (List.replicate 32 0), [], (0 : Int), (List.replicate 32 0), [(Av.mk r65.1 a_2)], [], false, false⟩)))
      replace h := h.B6 3 rfl (fun _ _ h => DD h)
      replace h := h.sub [0, 1, 2, 3, 4, 5, 6, 7, 8, 9, 10, 12, 13, 14, 11] (by rfl)
      change Ar c [.slot 5 (Am (b1 0)), .slot 7 (Am (b6 0)), .slot 8 (Am (b7 0)), .slot 14 (Am (b66 6)), .slot 15 (Au (b68 1) 0), .slot 16 (Am (.func (.func 9) #[] #[(b68 1), (b6 0), (b7 0), (b66 6), (b1 0)])), .slot 74 (An (iC .i64) a_1), .slot 75 (Ab .i64 (a_1.length : Int)), .slot 76 (Ab .i64 0), .res (B2 (b6 0) (some y61)), .res (A5 (Value.pointer none) r65.2), .res (B5 (b7 0) (some y62)), .res (lb (b68 1) 43 (Ah.ck r67)), .res (Cr (b1 0) (some ⟨a_2⟩)), .res (Cz (b66 6) (some ⟨1, 2, (List.replicate 32 0), [], (0 : Int), (List.replicate 32 0), [(Av.mk r65.1 a_2)], [], false, false⟩))] a w at h
      replace h := h.conv 12 rfl (R' := CI (b68 1) (some r67)) (Kc (o := (some r67)))
      replace h := h.B6 4 rfl (fun _ _ h => DD h)
      replace h := h.sub [0, 1, 2, 3, 4, 5, 6, 7, 8, 9, 10, 11, 13, 14, 12] (by rfl)
      change Ar c [.slot 5 (Am (b1 0)), .slot 7 (Am (b6 0)), .slot 8 (Am (b7 0)), .slot 14 (Am (b66 6)), .slot 15 (Am (b68 1)), .slot 16 (Am (.func (.func 9) #[] #[(b68 1), (b6 0), (b7 0), (b66 6), (b1 0)])), .slot 74 (An (iC .i64) a_1), .slot 75 (Ab .i64 (a_1.length : Int)), .slot 76 (Ab .i64 0), .res (B2 (b6 0) (some y61)), .res (A5 (Value.pointer none) r65.2), .res (B5 (b7 0) (some y62)), .res (Cr (b1 0) (some ⟨a_2⟩)), .res (Cz (b66 6) (some ⟨1, 2, (List.replicate 32 0), [], (0 : Int), (List.replicate 32 0), [(Av.mk r65.1 a_2)], [], false, false⟩)), .res (CI (b68 1) (some r67))] a w at h
      obtain ⟨cr105, hl106, hF⟩ := bind_some hF
      refine wp_mono (Bw (R := Bool) (S := Int × DS × DR × EF × Ae × Ah) (fun s a w => Ar c [.slot 5 (Am (b1 0)), .slot 7 (Am (b6 0)), .slot 8 (Am (b7 0)), .slot 14 (Am (b66 6)), .slot 15 (Am (b68 1)), .slot 16 (Am (.func (.func 9) #[] #[(b68 1), (b6 0), (b7 0), (b66 6), (b1 0)])), .slot 74 (An (iC .i64) a_1), .slot 75 (Ab .i64 (a_1.length : Int)), .slot 76 (Ab .i64 s.1), .res (B2 (b6 0) (some s.2.1)), .res (A5 (Value.pointer none) r65.2), .res (B5 (b7 0) (some s.2.2.1)), .res (Cr (b1 0) (some s.2.2.2.1)), .res (Cz (b66 6) (some s.2.2.2.2.1)), .res (CI (b68 1) (some s.2.2.2.2.2))] a w) (fun res e a w => match res with | .next s => e = .exit 2 ∧ Ar c [.slot 5 (Am (b1 0)), .slot 7 (Am (b6 0)), .slot 8 (Am (b7 0)), .slot 14 (Am (b66 6)), .slot 15 (Am (b68 1)), .slot 16 (Am (.func (.func 9) #[] #[(b68 1), (b6 0), (b7 0), (b66 6), (b1 0)])), .res (B2 (b6 0) (some s.2.1)), .res (A5 (Value.pointer none) r65.2), .res (B5 (b7 0) (some s.2.2.1)), .res (Cr (b1 0) (some s.2.2.2.1)), .res (Cz (b66 6) (some s.2.2.2.2.1)), .res (CI (b68 1) (some s.2.2.2.2.2))] a w | .ret r => e = .ret ∧ CO prog f3 c (AE r) (fun _ => []) a w) ?_ _ (0, y61, y62, ⟨a_2⟩, ⟨1, 2, (List.replicate 32 0), [], (0 : Int), (List.replicate 32 0), [(Av.mk r65.1 a_2)], [], false, false⟩, r67) _ _ _ (h.sub [0, 1, 2, 3, 4, 5, 6, 7, 8, 9, 10, 11, 12, 13, 14] (by rfl)) hl106) ?_
      ·clear hl106 hF h
       intro s a w o h hF
       obtain ⟨x85, x86, x87, x88, x89, x90⟩ := s
       change At.b2 a_1 x85 x86 x87 x88 x89 x90 = some o at hF
       unfold At.b2 at hF
       change Ar c [.slot 5 (Am (b1 0)), .slot 7 (Am (b6 0)), .slot 8 (Am (b7 0)), .slot 14 (Am (b66 6)), .slot 15 (Am (b68 1)), .slot 16 (Am (.func (.func 9) #[] #[(b68 1), (b6 0), (b7 0), (b66 6), (b1 0)])), .slot 74 (An (iC .i64) a_1), .slot 75 (Ab .i64 (a_1.length : Int)), .slot 76 (Ab .i64 x85), .res (B2 (b6 0) (some x86)), .res (A5 (Value.pointer none) r65.2), .res (B5 (b7 0) (some x87)), .res (Cr (b1 0) (some x88)), .res (Cz (b66 6) (some x89)), .res (CI (b68 1) (some x90))] a w at h
       refine Ao mixed hn hG h [0, 1, 2, 3, 4, 5, 6, 7, 8, 500, 9, 10, 11, 12, 13, 14] (ov [8, 7] (Ak Bl q0 q1) .nil) fun _ a w h => ?_
       refine wp_seq ?_
       refine DL h hF 9 [0, 1, 2, 3, 4, 5, 6, 7, 8, 10, 11, 12, 13, 14, 15] [0, 1, 2, 3, 4, 5, 6, 7, 8, 10, 11, 12, 13, 14, 15] (fun hb101 hF h => ?_) (fun hb101 hF h => ?_)
       ·refine wp_skip ?_
        show Code.wp prog _ _ a w
        refine wp_seq ?_
        refine wp_block ?_
        obtain ⟨hv102, hF⟩ := Ay hF
        refine Ao mixed hn hG h [0, 1, 2, 3, 4, 5, 500, 6, 7, 8, 9, 10, 11, 12, 13, 14] (ov [6, 8] (AL underlying23 sizeOf3 (KF .i64) q0 q1 hv102) <| ov [500] (BH [] isAgg3 q0) <| ov [500] (Ad q0) .nil) fun _ a w h => ?_
        obtain ⟨r103, hr103, hF⟩ := bind_some hF
        refine Ao mixed hn hG h [0, 1, 2, 3, 4, 5, 7, 8, 9, 500, 11, 505, 504, 503, 502, 501] (ov [5] (Aa q0) <| ov [6] (Aa q0) <| ov [500] (P7 q0 qi) <| oe [502, 500] [15, 10, 12, 14, 13] (AV.plain (Jp (ps := [(b68 1), (b6 0), (b7 0), (b66 6), (b1 0)]) (args := [(Ab .i64 (if (a_1.getD x85.toNat default) < (0 : Int) then (0 : Int) else (a_1.getD x85.toNat default)))]) call9 q0 (EN hr103) ⟨q1, trivial⟩) rfl) <| ov [505] (ID (Hq _) q0) .nil) fun _ a w h => ?_
        refine DL h hF 9 [10, 11, 12, 13, 14, 15] [0, 1, 2, 3, 4, 5, 6, 7, 8, 10, 11, 12, 13, 14, 15] (fun hb104 hF h => ?_) (fun hb104 hF h => ?_)
        ·refine Ao mixed hn hG h [500, 0, 1, 2, 3, 4, 5] (ov [] (Ad qb) .nil) fun _ a w h => ?_
         refine wp_ret ?_
         obtain rfl := Option.some.inj hF
         exact ⟨E2, rfl, BG h results3 (Bc 0 rfl) [] [] rfl rfl rfl⟩
        ·refine wp_skip ?_
         show Code.wp prog _ _ a w
         refine CY mixed hn hG h [0, 1, 2, 3, 4, 5, 6, 7, 500, 9, 10, 11, 12, 13, 14] (ov [8] (Ak AY q0 qi) <| od [500] 8 (Aa q0) .nil) fun _ a w h => ?_
         obtain rfl := Option.some.inj hF
         exact ⟨rfl, h.sub [0, 1, 2, 3, 4, 5, 6, 7, 8, 11, 9, 12, 14, 13, 10] (by rfl)⟩
       ·refine wp_exit ?_
        obtain rfl := Option.some.inj hF
        exact ⟨BQ _, rfl, h.sub [0, 1, 2, 3, 4, 5, 9, 10, 11, 12, 13, 14] (by rfl)⟩
      ·clear hl106
       intro e a w hq
       cases cr105 with
       | ret r107 =>
        obtain ⟨rfl, hq⟩ := hq
        obtain rfl := Option.some.inj hF
        exact ⟨.inl rfl, hq⟩
       | next s108 =>
        obtain ⟨y109, y110, y111, y112, y113, y114⟩ := s108
        obtain ⟨rfl, h⟩ := hq
        change Ar c [.slot 5 (Am (b1 0)), .slot 7 (Am (b6 0)), .slot 8 (Am (b7 0)), .slot 14 (Am (b66 6)), .slot 15 (Am (b68 1)), .slot 16 (Am (.func (.func 9) #[] #[(b68 1), (b6 0), (b7 0), (b66 6), (b1 0)])), .res (B2 (b6 0) (some y110)), .res (A5 (Value.pointer none) r65.2), .res (B5 (b7 0) (some y111)), .res (Cr (b1 0) (some y112)), .res (Cz (b66 6) (some y113)), .res (CI (b68 1) (some y114))] a w at h
        refine Be ?_
        show Code.wp prog _ _ a w
        refine wp_seq ?_
        obtain ⟨h115, h⟩ := h.ex 6 rfl
        have hp := h.Hi 6 rfl (fun Φ f w q => KV Φ f w q)
        replace h := h.B6 1 rfl (V' := Au (b6 0) 0) (fun _ _ h => DG h hp)
        replace h := h.sep (R := lb (b6 0) 26 [one (Am h115)]) (S := (acc h115 31 6 Ai.ck y110.Dx)) 6 rfl
        replace h := h.sub [0, 1, 2, 3, 4, 5, 6, 7, 8, 9, 10, 11, 12] (by rfl)
        change Ar c [.slot 5 (Am (b1 0)), .slot 7 (Au (b6 0) 0), .slot 8 (Am (b7 0)), .slot 14 (Am (b66 6)), .slot 15 (Am (b68 1)), .slot 16 (Am (.func (.func 9) #[] #[(b68 1), (b6 0), (b7 0), (b66 6), (b1 0)])), .res (lb (b6 0) 26 [one (Am h115)]), .res (A5 (Value.pointer none) r65.2), .res (B5 (b7 0) (some y111)), .res (Cr (b1 0) (some y112)), .res (Cz (b66 6) (some y113)), .res (CI (b68 1) (some y114)), .res (acc h115 31 6 Ai.ck y110.Dx)] a w at h
        refine wp_seq ?_
        refine CY mixed hn hG h [0, 1, 2, 3, 4, 5, 501, 500, 6, 7, 8, 9, 10, 11, 12] (ov [1, 6, 12] (Eh 1 2 isAgg26 q0 rfl rfl) <| ov [500] (A4 underlying26 q0) <| ov [500] (Ak Db qi q0) <| ov [] (Aa qi) .nil) fun _ a w h => ?_
        replace h := h.EY 8 14 rfl rfl (by decide)
        replace h := h.conv 8 rfl (R' := B2 (b6 0) (some y110)) (He (v0 := h115) (o := (some y110)))
        replace h := h.B6 1 rfl (fun _ _ h => DD h)
        replace h := h.sub [0, 1, 2, 3, 4, 5, 6, 7, 9, 10, 11, 12, 13, 8] (by rfl)
        change Ar c [.slot 5 (Am (b1 0)), .slot 7 (Am (b6 0)), .slot 8 (Am (b7 0)), .slot 14 (Am (b66 6)), .slot 15 (Am (b68 1)), .slot 16 (Am (.func (.func 9) #[] #[(b68 1), (b6 0), (b7 0), (b66 6), (b1 0)])), .slot 88 (Ab .i64 (IntKind.wrap .i64 (2 * (y110.Dx.length : Int)))), .slot 89 (Ab .i64 0), .res (A5 (Value.pointer none) r65.2), .res (B5 (b7 0) (some y111)), .res (Cr (b1 0) (some y112)), .res (Cz (b66 6) (some y113)), .res (CI (b68 1) (some y114)), .res (B2 (b6 0) (some y110))] a w at h
        show Code.wp prog _ _ a w
        refine wp_block ?_
        obtain ⟨cr137, hl138, hF⟩ := bind_some hF
        refine wp_mono (Bw (R := Bool) (S := Int × DR × EF × Ae × Ah × DS) (fun s a w => Ar c [.slot 5 (Am (b1 0)), .slot 7 (Am (b6 0)), .slot 8 (Am (b7 0)), .slot 14 (Am (b66 6)), .slot 15 (Am (b68 1)), .slot 16 (Am (.func (.func 9) #[] #[(b68 1), (b6 0), (b7 0), (b66 6), (b1 0)])), .slot 88 (Ab .i64 (IntKind.wrap .i64 (2 * (y110.Dx.length : Int)))), .slot 89 (Ab .i64 s.1), .res (A5 (Value.pointer none) r65.2), .res (B5 (b7 0) (some s.2.1)), .res (Cr (b1 0) (some s.2.2.1)), .res (Cz (b66 6) (some s.2.2.2.1)), .res (CI (b68 1) (some s.2.2.2.2.1)), .res (B2 (b6 0) (some s.2.2.2.2.2))] a w) (fun res e a w => match res with | .next s => e = .exit 4 ∧ Ar c [.slot 5 (Am (b1 0)), .slot 7 (Am (b6 0)), .slot 8 (Am (b7 0)), .slot 14 (Am (b66 6)), .slot 15 (Am (b68 1)), .res (A5 (Value.pointer none) r65.2), .res (B5 (b7 0) (some s.2.1)), .res (Cr (b1 0) (some s.2.2.1)), .res (Cz (b66 6) (some s.2.2.2.1)), .res (CI (b68 1) (some s.2.2.2.2.1)), .res (B2 (b6 0) (some s.2.2.2.2.2))] a w | .ret r => e = .ret ∧ CO prog f3 c (AE r) (fun _ => []) a w) ?_ _ (0, y111, y112, y113, y114, y110) _ _ _ (h.sub [0, 1, 2, 3, 4, 5, 6, 7, 8, 9, 10, 11, 12, 13] (by rfl)) hl138) ?_
        ·clear hl138 hF h
         intro s a w o h hF
         obtain ⟨x119, x120, x121, x122, x123, x124⟩ := s
         change At.b3 y110 x119 x120 x121 x122 x123 x124 = some o at hF
         unfold At.b3 at hF
         change Ar c [.slot 5 (Am (b1 0)), .slot 7 (Am (b6 0)), .slot 8 (Am (b7 0)), .slot 14 (Am (b66 6)), .slot 15 (Am (b68 1)), .slot 16 (Am (.func (.func 9) #[] #[(b68 1), (b6 0), (b7 0), (b66 6), (b1 0)])), .slot 88 (Ab .i64 (IntKind.wrap .i64 (2 * (y110.Dx.length : Int)))), .slot 89 (Ab .i64 x119), .res (A5 (Value.pointer none) r65.2), .res (B5 (b7 0) (some x120)), .res (Cr (b1 0) (some x121)), .res (Cz (b66 6) (some x122)), .res (CI (b68 1) (some x123)), .res (B2 (b6 0) (some x124))] a w at h
         refine Ao mixed hn hG h [0, 1, 2, 3, 4, 5, 6, 7, 500, 8, 9, 10, 11, 12, 13] (ov [7, 6] (Ak Bl q0 q1) .nil) fun _ a w h => ?_
         refine wp_seq ?_
         refine DL h hF 8 [0, 1, 2, 3, 4, 5, 6, 7, 9, 10, 11, 12, 13, 14] [0, 1, 2, 3, 4, 5, 6, 7, 9, 10, 11, 12, 13, 14] (fun hb134 hF h => ?_) (fun hb134 hF h => ?_)
         ·refine wp_skip ?_
          show Code.wp prog _ _ a w
          refine wp_seq ?_
          refine wp_block ?_
          obtain ⟨r135, hr135, hF⟩ := bind_some hF
          refine Ao mixed hn hG h [0, 1, 2, 3, 4, 5, 6, 7, 500, 8, 505, 504, 503, 502, 501] (ov [5] (Aa q0) <| oe [500] [12, 13, 9, 11, 10] (AV.plain (Jp (ps := [(b68 1), (b6 0), (b7 0), (b66 6), (b1 0)]) (args := [(Ab .i64 (-1 : Int))]) call9 q0 (EN hr135) ⟨qi, trivial⟩) rfl) <| ov [505] (ID (Hq _) q0) .nil) fun _ a w h => ?_
          refine DL h hF 8 [9, 10, 11, 12, 13, 14] [0, 1, 2, 3, 4, 5, 6, 7, 9, 10, 11, 12, 13, 14] (fun hb136 hF h => ?_) (fun hb136 hF h => ?_)
          ·refine Ao mixed hn hG h [500, 0, 1, 2, 3, 4, 5] (ov [] (Ad qb) .nil) fun _ a w h => ?_
           refine wp_ret ?_
           obtain rfl := Option.some.inj hF
           exact ⟨E2, rfl, BG h results3 (Bc 0 rfl) [] [] rfl rfl rfl⟩
          ·refine wp_skip ?_
           show Code.wp prog _ _ a w
           refine CY mixed hn hG h [0, 1, 2, 3, 4, 5, 6, 500, 8, 9, 10, 11, 12, 13] (ov [7] (Ak AY q0 qi) <| od [500] 7 (Aa q0) .nil) fun _ a w h => ?_
           obtain rfl := Option.some.inj hF
           exact ⟨rfl, h.sub [0, 1, 2, 3, 4, 5, 6, 7, 8, 11, 13, 12, 9, 10] (by rfl)⟩
         ·refine wp_exit ?_
          obtain rfl := Option.some.inj hF
          exact ⟨BQ _, rfl, h.sub [0, 1, 2, 3, 4, 8, 9, 10, 11, 12, 13] (by rfl)⟩
        ·clear hl138
         intro e a w hq
         cases cr137 with
         | ret r139 =>
          obtain ⟨rfl, hq⟩ := hq
          obtain rfl := Option.some.inj hF
          exact ⟨.inl rfl, hq⟩
         | next s140 =>
          obtain ⟨y141, y142, y143, y144, y145, y146⟩ := s140
          obtain ⟨rfl, h⟩ := hq
          change Ar c [.slot 5 (Am (b1 0)), .slot 7 (Am (b6 0)), .slot 8 (Am (b7 0)), .slot 14 (Am (b66 6)), .slot 15 (Am (b68 1)), .res (A5 (Value.pointer none) r65.2), .res (B5 (b7 0) (some y142)), .res (Cr (b1 0) (some y143)), .res (Cz (b66 6) (some y144)), .res (CI (b68 1) (some y145)), .res (B2 (b6 0) (some y146))] a w at h
          refine Be ?_
          show Code.wp prog _ _ a w
          refine wp_seq ?_
          obtain ⟨h147, h⟩ := h.ex 6 rfl
          have hp := h.Hi 6 rfl (fun Φ f w q => JH Φ f w q)
          replace h := h.B6 2 rfl (V' := Au (b7 0) 0) (fun _ _ h => DG h hp)
          replace h := h.sep (R := lb (b7 0) 27 [one (Am h147)]) (S := (acc h147 33 32 (dC 32) y142.Dx)) 6 rfl
          replace h := h.sub [0, 1, 2, 3, 4, 5, 6, 7, 8, 9, 10, 11] (by rfl)
          change Ar c [.slot 5 (Am (b1 0)), .slot 7 (Am (b6 0)), .slot 8 (Au (b7 0) 0), .slot 14 (Am (b66 6)), .slot 15 (Am (b68 1)), .res (A5 (Value.pointer none) r65.2), .res (lb (b7 0) 27 [one (Am h147)]), .res (Cr (b1 0) (some y143)), .res (Cz (b66 6) (some y144)), .res (CI (b68 1) (some y145)), .res (B2 (b6 0) (some y146)), .res (acc h147 33 32 (dC 32) y142.Dx)] a w at h
          refine wp_seq ?_
          refine CY mixed hn hG h [0, 1, 2, 3, 4, 502, 501, 500, 5, 6, 7, 8, 9, 10, 11] (ov [2, 6, 11] (Eh 1 2 isAgg27 q0 rfl rfl) <| ov [500] (A4 underlying27 q0) <| ov [] (Aa qi) .nil) fun _ a w h => ?_
          replace h := h.EY 9 14 rfl rfl (by decide)
          replace h := h.conv 9 rfl (R' := B5 (b7 0) (some y142)) (Gu (v0 := h147) (o := (some y142)))
          replace h := h.B6 2 rfl (fun _ _ h => DD h)
          replace h := h.sub [0, 1, 2, 3, 4, 5, 6, 7, 8, 10, 11, 12, 13, 9] (by rfl)
          change Ar c [.slot 5 (Am (b1 0)), .slot 7 (Am (b6 0)), .slot 8 (Am (b7 0)), .slot 14 (Am (b66 6)), .slot 15 (Am (b68 1)), .slot 95 (An (dC 32) y142.Dx), .slot 96 (Ab .i64 (y142.Dx.length : Int)), .slot 97 (Ab .i64 0), .res (A5 (Value.pointer none) r65.2), .res (Cr (b1 0) (some y143)), .res (Cz (b66 6) (some y144)), .res (CI (b68 1) (some y145)), .res (B2 (b6 0) (some y146)), .res (B5 (b7 0) (some y142))] a w at h
          show Code.wp prog _ _ a w
          refine wp_block ?_
          obtain ⟨cr165, hl166, hF⟩ := bind_some hF
          refine wp_mono (Bw (R := Bool) (S := Int) (fun s a w => Ar c [.slot 5 (Am (b1 0)), .slot 7 (Am (b6 0)), .slot 8 (Am (b7 0)), .slot 14 (Am (b66 6)), .slot 15 (Am (b68 1)), .slot 95 (An (dC 32) y142.Dx), .slot 96 (Ab .i64 (y142.Dx.length : Int)), .slot 97 (Ab .i64 s), .res (A5 (Value.pointer none) r65.2), .res (Cr (b1 0) (some y143)), .res (Cz (b66 6) (some y144)), .res (CI (b68 1) (some y145)), .res (B2 (b6 0) (some y146)), .res (B5 (b7 0) (some y142))] a w) (fun res e a w => match res with | .next s => e = .exit 6 ∧ Ar c [.slot 5 (Am (b1 0)), .slot 7 (Am (b6 0)), .slot 8 (Am (b7 0)), .slot 14 (Am (b66 6)), .slot 15 (Am (b68 1)), .res (A5 (Value.pointer none) r65.2), .res (Cr (b1 0) (some y143)), .res (Cz (b66 6) (some y144)), .res (CI (b68 1) (some y145)), .res (B2 (b6 0) (some y146)), .res (B5 (b7 0) (some y142))] a w | .ret r => e = .ret ∧ CO prog f3 c (AE r) (fun _ => []) a w) ?_ _ 0 _ _ _ (h.sub [0, 1, 2, 3, 4, 5, 6, 7, 8, 9, 10, 11, 12, 13] (by rfl)) hl166) ?_
          ·clear hl166 hF h
           intro x153 a w o h hF
           change At.b4 y142 y144 x153 = some o at hF
           unfold At.b4 at hF
           change Ar c [.slot 5 (Am (b1 0)), .slot 7 (Am (b6 0)), .slot 8 (Am (b7 0)), .slot 14 (Am (b66 6)), .slot 15 (Am (b68 1)), .slot 95 (An (dC 32) y142.Dx), .slot 96 (Ab .i64 (y142.Dx.length : Int)), .slot 97 (Ab .i64 x153), .res (A5 (Value.pointer none) r65.2), .res (Cr (b1 0) (some y143)), .res (Cz (b66 6) (some y144)), .res (CI (b68 1) (some y145)), .res (B2 (b6 0) (some y146)), .res (B5 (b7 0) (some y142))] a w at h
           refine Ao mixed hn hG h [0, 1, 2, 3, 4, 5, 6, 7, 500, 8, 9, 10, 11, 12, 13] (ov [7, 6] (Ak Bl q0 q1) .nil) fun _ a w h => ?_
           refine wp_seq ?_
           refine DL h hF 8 [0, 1, 2, 3, 4, 5, 6, 7, 9, 10, 11, 12, 13, 14] [0, 1, 2, 3, 4, 5, 6, 7, 9, 10, 11, 12, 13, 14] (fun hb160 hF h => ?_) (fun hb160 hF h => ?_)
           ·refine wp_skip ?_
            show Code.wp prog _ _ a w
            refine wp_seq ?_
            refine wp_block ?_
            obtain ⟨hv161, hF⟩ := Ay hF
            refine Ao mixed hn hG h [0, 1, 2, 3, 4, 502, 5, 6, 7, 8, 9, 10, 11, 12, 13, 500] (ov [5, 7] (AL underlying27 sizeOf33 (Bk 32) q0 q1 hv161) <| ov [500] (BM [Af 32 (y142.Dx.getD x153.toNat default)] [] isAgg33 sizeOf33 q0 rfl) <| ob [] (AJ zeroValue33 GN) <| og [501, 502] [500] [.res 2 100000 (fun v1_ _ => (lb (v1_) 33 [Af 32 (y142.Dx.getD x153.toNat default)]))] (AV.plain (Aq sizeOf33 q0 q1 (Al _)) rfl) .nil) fun b162 a w h => ?_
            have hp := h.Hi 11 rfl (fun Φ f w q => KS Φ f w q)
            replace h := h.B6 3 rfl (V' := Au (b66 6) 0) (fun _ _ h => DG h hp)
            replace h := h.sub [0, 1, 2, 3, 4, 5, 6, 7, 8, 9, 10, 11, 12, 13, 14, 15] (by rfl)
            change Ar c [.slot 5 (Am (b1 0)), .slot 7 (Am (b6 0)), .slot 8 (Am (b7 0)), .slot 14 (Au (b66 6) 0), .slot 15 (Am (b68 1)), .slot 20 (Au (b162 2) 0), .slot 95 (An (dC 32) y142.Dx), .slot 96 (Ab .i64 (y142.Dx.length : Int)), .slot 97 (Ab .i64 x153), .res (A5 (Value.pointer none) r65.2), .res (Cr (b1 0) (some y143)), .res (lb (b66 6) 41 (Ae.ck y144)), .res (CI (b68 1) (some y145)), .res (B2 (b6 0) (some y146)), .res (B5 (b7 0) (some y142)), .res (lb (b162 2) 33 [Af 32 (y142.Dx.getD x153.toNat default)])] a w at h
            obtain ⟨r163, hr163, hF⟩ := bind_some hF
            refine wp_seq ?_
            refine CY mixed hn hG h [0, 1, 2, 3, 4, 501, 6, 7, 8, 9, 10, 11, 12, 13, 14] (ov [3, 11] (AA 1 isAgg41 sizeOf41 q0) <| ov [5, 15] (AA 1 isAgg33 sizeOf33 q0) <| oc [501, 500] [] call12 (F6 hr163) ⟨q0, q1, trivial⟩ <| ov [500] (Aa q0) <| ov [500] (AQ q0 rfl) <| ov [501] (AQ q0 rfl) <| ob [] (AJ zeroValue33 GN) <| ov [503] (Ad q0) <| og [502, 503] [501] [.res 6 100000 (fun v1_ _ => (lb (v1_) 33 [Af 32 r163.2]))] (AV.plain (Aq sizeOf33 q0 q1 (Al _)) rfl) .nil) fun _ a w h => ?_
            replace h := h.conv 11 rfl (R' := Cz (b66 6) (some y144)) (Hd (o := (some y144)))
            replace h := h.B6 3 rfl (fun _ _ h => DD h)
            replace h := h.sub [0, 1, 2, 3, 4, 5, 6, 7, 8, 9, 10, 12, 13, 14, 11] (by rfl)
            change Ar c [.slot 5 (Am (b1 0)), .slot 7 (Am (b6 0)), .slot 8 (Am (b7 0)), .slot 14 (Am (b66 6)), .slot 15 (Am (b68 1)), .slot 21 (Ab .i64 r163.1), .slot 95 (An (dC 32) y142.Dx), .slot 96 (Ab .i64 (y142.Dx.length : Int)), .slot 97 (Ab .i64 x153), .res (A5 (Value.pointer none) r65.2), .res (Cr (b1 0) (some y143)), .res (CI (b68 1) (some y145)), .res (B2 (b6 0) (some y146)), .res (B5 (b7 0) (some y142)), .res (Cz (b66 6) (some y144))] a w at h
            show Code.wp prog _ _ a w
            refine Ao mixed hn hG h [0, 1, 2, 3, 4, 6, 7, 8, 500, 9, 10, 11, 12, 13, 14] (ov [5] (Aa q0) <| ov [500] (Ak C2 q0 qi) .nil) fun _ a w h => ?_
            refine DL h hF 8 [9, 10, 11, 12, 13, 14] [0, 1, 2, 3, 4, 5, 6, 7, 9, 10, 11, 12, 13, 14] (fun hb164 hF h => ?_) (fun hb164 hF h => ?_)
            ·refine Ao mixed hn hG h [500, 0, 1, 2, 3, 4, 5] (ov [] (Ad qb) .nil) fun _ a w h => ?_
             refine wp_ret ?_
             obtain rfl := Option.some.inj hF
             exact ⟨E2, rfl, BG h results3 (Bc 0 rfl) [] [] rfl rfl rfl⟩
            ·refine wp_skip ?_
             show Code.wp prog _ _ a w
             refine CY mixed hn hG h [0, 1, 2, 3, 4, 5, 6, 500, 8, 9, 10, 11, 12, 13] (ov [7] (Ak AY q0 qi) <| od [500] 7 (Aa q0) .nil) fun _ a w h => ?_
             obtain rfl := Option.some.inj hF
             exact ⟨rfl, h.sub [0, 1, 2, 3, 4, 5, 6, 7, 8, 9, 13, 10, 11, 12] (by rfl)⟩
           ·refine wp_exit ?_
            obtain rfl := Option.some.inj hF
            exact ⟨BQ _, rfl, h.sub [0, 1, 2, 3, 4, 8, 9, 10, 11, 12, 13] (by rfl)⟩
          ·clear hl166
           intro e a w hq
           cases cr165 with
           | ret r167 =>
            obtain ⟨rfl, hq⟩ := hq
            obtain rfl := Option.some.inj hF
            exact ⟨.inl rfl, hq⟩
           | next y169 =>
            obtain ⟨rfl, h⟩ := hq
            change Ar c [.slot 5 (Am (b1 0)), .slot 7 (Am (b6 0)), .slot 8 (Am (b7 0)), .slot 14 (Am (b66 6)), .slot 15 (Am (b68 1)), .res (A5 (Value.pointer none) r65.2), .res (Cr (b1 0) (some y143)), .res (Cz (b66 6) (some y144)), .res (CI (b68 1) (some y145)), .res (B2 (b6 0) (some y146)), .res (B5 (b7 0) (some y142))] a w at h
            refine Be ?_
            show Code.wp prog _ _ a w
            have hp := h.Hi 8 rfl (fun Φ f w q => Oo Φ f w q)
            replace h := h.B6 4 rfl (V' := Au (b68 1) 0) (fun _ _ h => DG h hp)
            replace h := h.sub [0, 1, 2, 3, 4, 5, 6, 7, 8, 9, 10] (by rfl)
            change Ar c [.slot 5 (Am (b1 0)), .slot 7 (Am (b6 0)), .slot 8 (Am (b7 0)), .slot 14 (Am (b66 6)), .slot 15 (Au (b68 1) 0), .res (A5 (Value.pointer none) r65.2), .res (Cr (b1 0) (some y143)), .res (Cz (b66 6) (some y144)), .res (lb (b68 1) 43 (Ah.ck y145)), .res (B2 (b6 0) (some y146)), .res (B5 (b7 0) (some y142))] a w at h
            obtain ⟨h170, h⟩ := h.ex 9 rfl
            have hp := h.Hi 9 rfl (fun Φ f w q => KV Φ f w q)
            replace h := h.B6 1 rfl (V' := Au (b6 0) 0) (fun _ _ h => DG h hp)
            replace h := h.sep (R := lb (b6 0) 26 [one (Am h170)]) (S := (acc h170 31 6 Ai.ck y146.Dx)) 9 rfl
            replace h := h.sub [0, 1, 2, 3, 4, 5, 6, 7, 8, 9, 10, 11] (by rfl)
            change Ar c [.slot 5 (Am (b1 0)), .slot 7 (Au (b6 0) 0), .slot 8 (Am (b7 0)), .slot 14 (Am (b66 6)), .slot 15 (Au (b68 1) 0), .res (A5 (Value.pointer none) r65.2), .res (Cr (b1 0) (some y143)), .res (Cz (b66 6) (some y144)), .res (lb (b68 1) 43 (Ah.ck y145)), .res (lb (b6 0) 26 [one (Am h170)]), .res (B5 (b7 0) (some y142)), .res (acc h170 31 6 Ai.ck y146.Dx)] a w at h
            obtain ⟨h171, h⟩ := h.ex 10 rfl
            have hp := h.Hi 10 rfl (fun Φ f w q => JH Φ f w q)
            replace h := h.B6 2 rfl (V' := Au (b7 0) 0) (fun _ _ h => DG h hp)
            replace h := h.sep (R := lb (b7 0) 27 [one (Am h171)]) (S := (acc h171 33 32 (dC 32) y142.Dx)) 10 rfl
            replace h := h.sub [0, 1, 2, 3, 4, 5, 6, 7, 8, 9, 10, 11, 12] (by rfl)
            change Ar c [.slot 5 (Am (b1 0)), .slot 7 (Au (b6 0) 0), .slot 8 (Au (b7 0) 0), .slot 14 (Am (b66 6)), .slot 15 (Au (b68 1) 0), .res (A5 (Value.pointer none) r65.2), .res (Cr (b1 0) (some y143)), .res (Cz (b66 6) (some y144)), .res (lb (b68 1) 43 (Ah.ck y145)), .res (lb (b6 0) 26 [one (Am h170)]), .res (lb (b7 0) 27 [one (Am h171)]), .res (acc h170 31 6 Ai.ck y146.Dx), .res (acc h171 33 32 (dC 32) y142.Dx)] a w at h
            have hp := h.Hi 7 rfl (fun Φ f w q => KS Φ f w q)
            replace h := h.B6 3 rfl (V' := Au (b66 6) 0) (fun _ _ h => DG h hp)
            replace h := h.sub [0, 1, 2, 3, 4, 5, 6, 7, 8, 9, 10, 11, 12] (by rfl)
            change Ar c [.slot 5 (Am (b1 0)), .slot 7 (Au (b6 0) 0), .slot 8 (Au (b7 0) 0), .slot 14 (Au (b66 6) 0), .slot 15 (Au (b68 1) 0), .res (A5 (Value.pointer none) r65.2), .res (Cr (b1 0) (some y143)), .res (lb (b66 6) 41 (Ae.ck y144)), .res (lb (b68 1) 43 (Ah.ck y145)), .res (lb (b6 0) 26 [one (Am h170)]), .res (lb (b7 0) 27 [one (Am h171)]), .res (acc h170 31 6 Ai.ck y146.Dx), .res (acc h171 33 32 (dC 32) y142.Dx)] a w at h
            have hp := h.Hi 6 rfl (fun Φ f w q => L7 Φ f w q)
            replace h := h.B6 0 rfl (V' := Au (b1 0) 0) (fun _ _ h => DG h hp)
            replace h := h.sub [0, 1, 2, 3, 4, 5, 6, 7, 8, 9, 10, 11, 12] (by rfl)
            change Ar c [.slot 5 (Au (b1 0) 0), .slot 7 (Au (b6 0) 0), .slot 8 (Au (b7 0) 0), .slot 14 (Au (b66 6) 0), .slot 15 (Au (b68 1) 0), .res (A5 (Value.pointer none) r65.2), .res (lb (b1 0) 24 [one (Ab .u64 y143.Dx)]), .res (lb (b66 6) 41 (Ae.ck y144)), .res (lb (b68 1) 43 (Ah.ck y145)), .res (lb (b6 0) 26 [one (Am h170)]), .res (lb (b7 0) 27 [one (Am h171)]), .res (acc h170 31 6 Ai.ck y146.Dx), .res (acc h171 33 32 (dC 32) y142.Dx)] a w at h
            replace h := h.snoc Hf
            replace h := h.sub [0, 1, 2, 3, 4, 5, 6, 7, 8, 9, 10, 11, 12, 13] (by rfl)
            change Ar c [.slot 5 (Au (b1 0) 0), .slot 7 (Au (b6 0) 0), .slot 8 (Au (b7 0) 0), .slot 14 (Au (b66 6) 0), .slot 15 (Au (b68 1) 0), .res (A5 (Value.pointer none) r65.2), .res (lb (b1 0) 24 [one (Ab .u64 y143.Dx)]), .res (lb (b66 6) 41 (Ae.ck y144)), .res (lb (b68 1) 43 (Ah.ck y145)), .res (lb (b6 0) 26 [one (Am h170)]), .res (lb (b7 0) 27 [one (Am h171)]), .res (acc h170 31 6 Ai.ck y146.Dx), .res (acc h171 33 32 (dC 32) y142.Dx), .res (AO (.pointer none) none)] a w at h
            obtain ⟨r172, hr172, hF⟩ := bind_some hF
            refine wp_seq ?_
            refine CY mixed hn hG h [500, 5, 507] (ov [4, 8] (AA 1 isAgg43 sizeOf43 q0) <| ov [1, 9, 11] (Eh 1 2 isAgg26 q0 rfl rfl) <| ov [2, 10, 12] (Eh 1 2 isAgg27 q0 rfl rfl) <| ov [3, 7] (AA 1 isAgg41 sizeOf41 q0) <| ov [0, 6] (AB [] [] 1 isAgg24 q0 rfl rfl) <| oc [504, 503, 502, 501, 500] [13] call10 (Ev hr172) ⟨(DZ (ec _)), q0, q1, q2, q3, (opt 4 rfl), qi, trivial⟩ <| ov [501] (Aa q0) <| ov [500] (AQ q0 rfl) <| ov [501] (AQ q0 rfl) <| ob [] (AJ zeroValue43 Qx) <| og [501, 503] [500] [.res 9 100000 (fun v1_ _ => (lb (v1_) 43 (Ah.ck r172.1)))] (AV.plain (Aq sizeOf43 q0 q1 (Al _)) rfl) <| ov [503] (Ad q0) .nil) fun _ a w h => ?_
            show Code.wp prog _ _ a w
            refine Ao mixed hn hG h [500, 1, 2] (ov [0] (Aa q0) <| ov [500] (A4 underlying45 q0) <| ov [500] (Ak C3 q0 qi) <| ov [500] (Ad q0) .nil) fun _ a w h => ?_
            refine wp_ret ?_
            obtain rfl := Option.some.inj hF
            exact ⟨.inl rfl, BG h results3 (Bc 0 rfl) [] [] rfl rfl rfl⟩
end Go.Proofs.YteboiefnflipjaaGreatDoor
