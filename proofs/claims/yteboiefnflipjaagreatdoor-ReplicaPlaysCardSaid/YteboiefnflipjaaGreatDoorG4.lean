/- The functions' Lean twins and contracts, printed by this session's own program: part 4. -/
import Derived.Test.YteboiefnflipjaaGreatDoorG3
namespace Go.Proofs.YteboiefnflipjaaGreatDoor
open _root_.Go.Proofs.Tryz
open Go Go.RowKit Go.Proofs
set_option maxRecDepth 100000
set_option maxHeartbeats 4000000
set_option linter.unusedVariables false
set_option linter.unusedSimpArgs false
def BZ.j2 (a_3 : AI) (r4 : Int × (Option AD)) (x16 : Aa) : Option (Aa × Int × (Option AD)) := some ((Aa.mk x16.AX x16.BC x16.AQ x16.AP x16.A4 a_3.BN x16.Ay x16.Ah x16.Bj x16.BR), 0, r4.2)
def BZ.j1 (a_1 : Aa) (a_2 : Int) (a_3 : AI) (r4 : Int × (Option AD)) (r6 : Int) (x7 : Bool) : Option (Aa × Int × (Option AD)) := (if x7 = true then some (a_1, 6, r4.2) else ((G8 a_2 a_1.A4).bind fun r9 => (if (!decide (r9.2 = (0 : Int))) = true then some (a_1, r9.2, r4.2) else ((C3 a_1.Ay).bind fun r11 => (if (decide ((0 : Int) ≤ r6)) = true then (if (0 : Int) ≤ r6 ∧ r6 < r11.length then BZ.j2 a_3 r4 (Aa.mk a_1.AX a_1.BC a_1.AQ a_1.AP a_1.A4 a_1.AN (r11.set r6.toNat (Ao.mk ((r11.getD r6.toNat default).Bt) r9.1)) a_1.Ah a_1.Bj a_1.BR) else none) else (if r11.length + [(Ao.mk a_3.BN r9.1)].length ≤ CW ∧ (r11.length + [(Ao.mk a_3.BN r9.1)].length) * 40 ≤ 140737488355328 then BZ.j2 a_3 r4 (Aa.mk a_1.AX a_1.BC a_1.AQ a_1.AP a_1.A4 a_1.AN (r11 ++ [(Ao.mk a_3.BN r9.1)]) a_1.Ah a_1.Bj a_1.BR) else none))))))
def BZ (L_0 : Option AD) (a_1 : Aa) (a_2 : Int) (a_3 : AI) : Option (Aa × Int × (Option AD)) := ((Eo L_0 a_1 a_3).bind fun r4 => (if (!decide (r4.1 = (0 : Int))) = true then some (a_1, r4.1, r4.2) else ((DO a_1 a_3.BN).bind fun r6 => (if (decide (r6 < (0 : Int))) = true then BZ.j1 a_1 a_2 a_3 r4 r6 (decide ((256 : Int) ≤ (a_1.Ay.length : Int))) else BZ.j1 a_1 a_2 a_3 r4 r6 false))))
theorem GA {p_0 : Value} {L_0 : Option AD} {a_1 : Aa} {a_2 : Int} {a_3 : AI} {r : Aa × Int × (Option AD)} (hF : BZ L_0 a_1 a_2 a_3 = some r) : AH prog KG 20 [(Az p_0), (Au (Aa.ck a_1)), (Ag .u64 a_2), (Au (AI.ck a_3))] [(AK p_0 L_0)] (fun _ => [AK p_0 r.2.2]) (Db [(Au (Aa.ck r.1)), (Ag .i64 r.2.1)]) := by
 refine AH.intro 71 func20 rfl ntmps20 (Nat.le_of_ble_eq_true rfl) ?_
 intro c a w hG hn h
 unfold BZ at hF
 change AA c [.slot 0 (Az p_0), .slot 1 (Au (Aa.ck a_1)), .slot 2 (Ag .u64 a_2), .slot 3 (Au (AI.ck a_3)), .res (AK p_0 L_0)] a w at h
 refine As mixed hn hG h [0, 2, 506, 504, 502, 4, 505, 503, 501] (ob [1] (Bc q0 (Ai _)) <| ob [3] (Bc q0 (Ai _)) <| ob [] (AR zeroValue41 MN) <| ov [] (Ae qi) .nil) fun b1 a w h => ?_
 refine wp_seq ?_
 obtain ⟨r4, hr4, hF⟩ := bind_some hF
 refine As mixed hn hG h [1, 2, 3, 4, 500, 6, 7, 8, 501] (ov [0] (Ab q0) <| ov [2, 6] (An 1 isAgg41 sizeOf41 q0) <| ov [3, 7] (An 1 isAgg71 sizeOf71 q0) <| oc [502, 501, 500] [5] call49 (H4 hr4) ⟨q0, q1, q2, trivial⟩ <| ov [501] (Ae q0) .nil) fun _ a w h => ?_
 refine As mixed hn hG h [0, 1, 2, 3, 4, 500, 5, 6, 7, 8] (ov [4] (Ab q0) <| ov [500] (Ak Bg q0 qi) .nil) fun _ a w h => ?_
 refine CC h hF 5 [1, 3, 4, 6, 8, 9] [0, 1, 2, 3, 6, 7, 8, 9] (fun hb5 hF h => ?_) (fun hb5 hF h => ?_)
 ·refine As mixed hn hG h [1, 500, 501, 5] (ov [0, 3] (An 1 isAgg41 sizeOf41 q0) <| ov [2] (Ab q0) <| ou [1, 501] 4 (Aq sizeOf41 q0 q1 (Ai _)) <| ov [501] (Ae q0) .nil) fun _ a w h => ?_
  refine wp_ret ?_
  obtain rfl := Option.some.inj hF
  exact ⟨.inl rfl, CJ h (rs := [.cell 8 41, .tmp 9]) (Vs := [(Au (Aa.ck a_1)), (Ag .i64 r4.1)]) results20 (by decide) ⟨(Be 0 2 rfl rfl isAgg41 sizeOf41 rfl), (Ba 1 rfl), trivial⟩ [3] [(AK p_0 r4.2)] rfl rfl rfl⟩
 ·refine wp_skip ?_
  show Code.wp prog _ _ a w
  obtain ⟨r6, hr6, hF⟩ := bind_some hF
  refine As mixed hn hG h [0, 1, 2, 3, 500, 4, 5, 6, 7] (ov [1, 4] (An 1 isAgg41 sizeOf41 q0) <| ov [2] (Ad (p := (b1 1)) (n := 32) 0 33 underlying71 rfl sizeOf33 (by decide) q0 rfl) <| ov [500, 5] (AT ((AI.ck a_3).take 2) [Af 32 a_3.BN] (AE.ck a_3.C1) 1 isAgg33 sizeOf33 q0 rfl rfl rfl) <| oc [502, 500] [] call50 (Ep hr6) ⟨q0, q1, trivial⟩ <| ov [500] (Ae q0) .nil) fun _ a w h => ?_
  refine wp_seq ?_
  refine wp_seq ?_
  refine wp_cut (fun a w => ∃ (x7 : Bool), BZ.j1 a_1 a_2 a_3 r4 r6 x7 = some r ∧ AA c [.slot 2 (Ag .u64 a_2), .slot 5 (Av (b1 0) 0), .slot 7 (Av (b1 1) 0), .slot 8 (Av (b1 2) 0), .slot 11 (Ag .i64 r6), .slot 33 (AL x7), .res (lb (b1 0) 41 (Aa.ck a_1)), .res (lb (b1 1) 71 (AI.ck a_3)), .res (lb (b1 2) 41 (Aa.ck (Aa.mk (0 : Int) (0 : Int) (List.replicate 32 0) [] (0 : Int) (List.replicate 32 0) [] [] false false))), .res (AK p_0 r4.2)] a w) ?_ ?_
  ·rcases Bool.eq_false_or_eq_true (decide (r6 < (0 : Int))) with hb21 | hb21
   ·replace hF := CQ hb21 hF
    refine Cd mixed hn hG h [0, 1, 2, 3, 4, 500, 5, 6, 7, 8] (ov [4] (Ab q0) <| ov [500] (Ak Bl q0 qi) <| ov [500] (Ab q0) <| oe [500, 1] [] (AB.Aw hb21 rfl rfl rfl (Ad (p := (b1 0)) (n := 1) 0 68 underlying41 rfl sizeOf38 (by decide) q0 rfl)) <| oe [501, 500, 5] [] (AB.Aw hb21 rfl rfl rfl (Aj ((Aa.ck a_1).take 6) ((Aa.ck a_1).drop 7) 1 isAgg38 q0 rfl rfl)) <| oe [502, 500] [] (AB.Aw hb21 rfl rfl rfl (A6 underlying38 q0)) <| oe [503, 500] [] (AB.Aw hb21 rfl rfl rfl (Ak Ef q0 qi)) <| ov [504, 500] (AU hb21 q0 q1) .nil) fun _ a w h => ?_
    exact ⟨decide ((256 : Int) ≤ (a_1.Ay.length : Int)), hF, h.sub [0, 1, 2, 3, 4, 5, 6, 7, 8, 9] (by rfl)⟩
   ·replace hF := CT hb21 hF
    refine Cd mixed hn hG h [0, 1, 2, 3, 4, 500, 5, 6, 7, 8] (ov [4] (Ab q0) <| ov [500] (Ak Bl q0 qi) <| ov [500] (Ab q0) <| oe [500] [] (AB.At (want := true) hb21 rfl rfl rfl rfl) <| oe [501] [] (AB.At (want := true) hb21 rfl rfl rfl rfl) <| oe [502] [] (AB.At (want := true) hb21 rfl rfl rfl rfl) <| oe [503] [] (AB.At (want := true) hb21 rfl rfl rfl rfl) <| ov [504] (AV hb21 q0 qb) .nil) fun _ a w h => ?_
    exact ⟨false, hF, h.sub [0, 1, 2, 3, 4, 5, 6, 7, 8, 9] (by rfl)⟩
  ·clear h hF
   rintro a w ⟨x7, hF, h⟩
   unfold BZ.j1 at hF
   show Code.wp prog _ _ a w
   refine CC h hF 5 [1, 3, 6, 8, 9] [0, 1, 2, 3, 4, 6, 7, 8, 9] (fun hb8 hF h => ?_) (fun hb8 hF h => ?_)
   ·refine As mixed hn hG h [1, 500, 501, 4] (ov [0, 2] (An 1 isAgg41 sizeOf41 q0) <| ou [1, 500] 3 (Aq sizeOf41 q0 q1 (Ai _)) <| ov [] (Ae qi) .nil) fun _ a w h => ?_
    refine wp_ret ?_
    obtain rfl := Option.some.inj hF
    exact ⟨.inl rfl, CJ h (rs := [.cell 8 41, .tmp 9]) (Vs := [(Au (Aa.ck a_1)), (Ag .i64 6)]) results20 (by decide) ⟨(Be 0 2 rfl rfl isAgg41 sizeOf41 rfl), (Ba 1 rfl), trivial⟩ [3] [(AK p_0 r4.2)] rfl rfl rfl⟩
   ·refine wp_skip ?_
    show Code.wp prog _ _ a w
    obtain ⟨r9, hr9, hF⟩ := bind_some hF
    refine As mixed hn hG h [1, 2, 3, 4, 501, 500, 5, 6, 7, 8] (ov [0] (Ab q0) <| ov [1] (Ad (p := (b1 0)) (n := 1) 0 35 underlying41 rfl sizeOf24 (by decide) q0 rfl) <| ov [500, 5] (Aj ((Aa.ck a_1).take 4) ((Aa.ck a_1).drop 5) 1 isAgg24 q0 rfl rfl) <| oc [502, 500] [] call51 (KW hr9) ⟨q0, q1, trivial⟩ <| ov [500] (Ab q0) <| ov [500] (A5 q0 rfl) <| ov [501] (A5 q0 rfl) <| ov [501] (Ae q0) <| ov [501] (Ae q0) .nil) fun _ a w h => ?_
    refine wp_seq ?_
    refine As mixed hn hG h [0, 1, 2, 3, 4, 5, 500, 6, 7, 8, 9] (ov [5] (Ab q0) <| ov [500] (Ak Bg q0 qi) .nil) fun _ a w h => ?_
    refine CC h hF 6 [0, 2, 5, 7, 9, 10] [0, 1, 2, 3, 4, 7, 8, 9, 10] (fun hb10 hF h => ?_) (fun hb10 hF h => ?_)
    ·refine As mixed hn hG h [1, 500, 501, 5] (ov [0, 3] (An 1 isAgg41 sizeOf41 q0) <| ov [2] (Ab q0) <| ou [1, 501] 4 (Aq sizeOf41 q0 q1 (Ai _)) <| ov [501] (Ae q0) .nil) fun _ a w h => ?_
     refine wp_ret ?_
     obtain rfl := Option.some.inj hF
     exact ⟨.inl rfl, CJ h (rs := [.cell 8 41, .tmp 9]) (Vs := [(Au (Aa.ck a_1)), (Ag .i64 r9.2)]) results20 (by decide) ⟨(Be 0 2 rfl rfl isAgg41 sizeOf41 rfl), (Ba 1 rfl), trivial⟩ [3] [(AK p_0 r4.2)] rfl rfl rfl⟩
    ·refine wp_skip ?_
     show Code.wp prog _ _ a w
     obtain ⟨r11, hr11, hF⟩ := bind_some hF
     refine As mixed hn hG h [0, 1, 2, 3, 4, 500, 6, 7, 8, 502] (ov [0] (Ad (p := (b1 0)) (n := 1) 0 68 underlying41 rfl sizeOf38 (by decide) q0 rfl) <| ov [500, 5] (Aj ((Aa.ck a_1).take 6) ((Aa.ck a_1).drop 7) 1 isAgg38 q0 rfl rfl) <| og [500] [] [.slot 48 2 100000 (fun v1_ _ => (Az v1_)), .res 2 100000 (fun v1_ _ => (own (v1_) 37 33 Ao.ck r11))] (AB.plain (Kj call52 (Gl hr11) ⟨q0, trivial⟩) rfl) <| ov [0] (Ad (p := (b1 0)) (n := 1) 0 68 underlying41 rfl sizeOf38 (by decide) q0 rfl) <| og [500, 502, 501] [5] [.res 2 100000 (fun v1_ _ => (lb (b1 0) 41 [one (Ag .u32 a_1.AX), one (Ag .u32 a_1.BC), Af 32 a_1.AQ, one (AJ (dC 32) a_1.AP), one (Ag .u64 a_1.A4), Af 32 a_1.AN, one (Az (v1_)), one (AJ Al.ck a_1.Ah), one (AL a_1.Bj), one (AL a_1.BR)]))] (fun {β} => (AB.plain (B8 ((Aa.ck a_1).take 6) [one (AJ Ao.ck a_1.Ay)] ((Aa.ck a_1).drop 7) [one (Az ((β 2)))] sizeOf38 q0 (HU 1 2 rfl rfl Iy) (FG _) rfl rfl rfl) rfl)) .nil) fun b12 a w h => ?_
     refine wp_seq ?_
     refine As mixed hn hG h [0, 1, 2, 3, 4, 500, 5, 6, 7, 8, 9] (ov [3] (Ab q0) <| ov [500] (Ak Ef q0 qi) .nil) fun _ a w h => ?_
     refine wp_cut (fun a w => ∃ (x16 : Aa), BZ.j2 a_3 r4 x16 = some r ∧ AA c [.slot 5 (Av (b1 0) 0), .slot 7 (Av (b1 1) 0), .slot 8 (Av (b1 2) 0), .res (lb (b1 0) 41 (Aa.ck x16)), .res (lb (b1 1) 71 (AI.ck a_3)), .res (lb (b1 2) 41 (Aa.ck (Aa.mk (0 : Int) (0 : Int) (List.replicate 32 0) [] (0 : Int) (List.replicate 32 0) [] [] false false))), .res (AK p_0 r4.2)] a w) ?_ ?_
     ·refine CC h hF 5 [0, 1, 2, 3, 4, 6, 7, 8, 9, 10] [0, 1, 2, 4, 6, 7, 8, 9, 10] (fun hb17 hF h => ?_) (fun hb17 hF h => ?_)
      ·obtain ⟨hv18, hF⟩ := AF hF
       refine Cd mixed hn hG h [0, 1, 2, 5, 6, 7, 8, 500] (ov [0] (Ad (p := (b1 0)) (n := 1) 0 68 underlying41 rfl sizeOf38 (by decide) q0 rfl) <| ov [500, 5] (Aj ((Aa.ck a_1).take 6) ((Aa.ck a_1).drop 7) 1 isAgg38 q0 rfl rfl) <| ov [3] (Ab q0) <| ov [4] (Ab q0) <| ov [502, 9, 501] (Fz 0 1 underlying38 sizeOf37 rfl rfl q2 hv18) <| ov [500] (GR (n := 1) (r6.toNat * 33) (r6.toNat * 33 + 32) underlying37 rfl sizeOf24 (by decide) q0 rfl) <| ou [500, 502] 9 (G0 (i := r6) (c := Ao.ck) (z := (Ao.mk ((r11.getD r6.toNat default).Bt) r9.1)) Ao.lens [Af 32 ((r11.getD r6.toNat default).Bt)] [one (Ag .u64 ((r11.getD r6.toNat default).GU))] [] [one (Ag .u64 r9.1)] sizeOf24 q0 q1 (AG (A8 _ _)) rfl rfl rfl rfl rfl hv18) .nil) fun _ a w h => ?_
       replace h := h.I2 7 rfl
       change AA c [.slot 5 (Av (b1 0) 0), .slot 7 (Av (b1 1) 0), .slot 8 (Av (b1 2) 0), .res (lb (b1 0) 41 [one (Ag .u32 a_1.AX), one (Ag .u32 a_1.BC), Af 32 a_1.AQ, one (AJ (dC 32) a_1.AP), one (Ag .u64 a_1.A4), Af 32 a_1.AN, one (Az (b12 2)), one (AJ Al.ck a_1.Ah), one (AL a_1.Bj), one (AL a_1.BR)]), .res (lb (b1 1) 71 (AI.ck a_3)), .res (lb (b1 2) 41 (Aa.ck (Aa.mk (0 : Int) (0 : Int) (List.replicate 32 0) [] (0 : Int) (List.replicate 32 0) [] [] false false))), .res (AK p_0 r4.2), .res (acc (b12 2) 37 33 Ao.ck (r11.set r6.toNat (Ao.mk ((r11.getD r6.toNat default).Bt) r9.1)))] a w at h
       replace h := h.F4 3 7 rfl rfl (by decide)
       replace h := h.conv 3 rfl (settle (pre := ((Aa.ck a_1).take 6)) (post := ((Aa.ck a_1).drop 7)))
       replace h := h.sep 3 rfl
       replace h := h.sub [0, 1, 2, 3, 4, 5, 6] (by rfl)
       change AA c [.slot 5 (Av (b1 0) 0), .slot 7 (Av (b1 1) 0), .slot 8 (Av (b1 2) 0), .res (lb (b1 0) 41 [one (Ag .u32 a_1.AX), one (Ag .u32 a_1.BC), Af 32 a_1.AQ, one (AJ (dC 32) a_1.AP), one (Ag .u64 a_1.A4), Af 32 a_1.AN, one (AJ Ao.ck (r11.set r6.toNat (Ao.mk ((r11.getD r6.toNat default).Bt) r9.1))), one (AJ Al.ck a_1.Ah), one (AL a_1.Bj), one (AL a_1.BR)]), .res (lb (b1 1) 71 (AI.ck a_3)), .res (lb (b1 2) 41 (Aa.ck (Aa.mk (0 : Int) (0 : Int) (List.replicate 32 0) [] (0 : Int) (List.replicate 32 0) [] [] false false))), .res (AK p_0 r4.2)] a w at h
       exact ⟨(Aa.mk a_1.AX a_1.BC a_1.AQ a_1.AP a_1.A4 a_1.AN (r11.set r6.toNat (Ao.mk ((r11.getD r6.toNat default).Bt) r9.1)) a_1.Ah a_1.Bj a_1.BR), hF, h.sub [0, 1, 2, 3, 4, 5, 6] (by rfl)⟩
      ·obtain ⟨hv19, hF⟩ := AF hF
       refine Cd mixed hn hG h [0, 1, 2, 500, 5, 6, 7, 502] (ov [0] (Ad (p := (b1 0)) (n := 1) 0 68 underlying41 rfl sizeOf38 (by decide) q0 rfl) <| ov [500, 4] (Aj ((Aa.ck a_1).take 6) ((Aa.ck a_1).drop 7) 1 isAgg38 q0 rfl rfl) <| ov [1] (Ad (p := (b1 1)) (n := 32) 0 33 underlying71 rfl sizeOf33 (by decide) q0 rfl) <| ov [500, 5] (AT ((AI.ck a_3).take 2) [Af 32 a_3.BN] (AE.ck a_3.C1) 1 isAgg33 sizeOf33 q0 rfl rfl rfl) <| ov [3] (Ab q0) <| ov [501, 500] (Dw [(0, .tmp 61), (1, .tmp 62)] rfl R7 z37 ⟨[], [Af 32 (List.replicate 32 0)], [one (Ag .u64 (0 : Int))], [Af 32 a_3.BN], _, rfl, rfl, rfl, q0, (Ai _), ⟨[Af 32 a_3.BN], [one (Ag .u64 (0 : Int))], [], [one (Ag .u64 r9.1)], _, rfl, rfl, rfl, q1, (AG (A8 _ _)), rfl⟩⟩) <| ov [500] (CP (xs := [.tmp 63]) (ys := [(Ao.mk a_3.BN r9.1)]) _ rfl underlying38 sizeOf37 zeroValue37 rfl rfl (by decide) (by decide) ⟨⟨_, q0, (Ai _)⟩, trivial⟩ Ao.lens) <| og [505, 500] [8] [.slot 65 7 100000 (fun v1_ _ => (Az v1_)), .res 7 100000 (fun v1_ _ => (own (v1_) 37 33 Ao.ck (r11 ++ [(Ao.mk a_3.BN r9.1)])))] (AB.plain (Ff (i := t37) underlying38 type37 rfl Ao.lens (by decide) rfl q0 q1 hv19) rfl) <| ov [0] (Ad (p := (b1 0)) (n := 1) 0 68 underlying41 rfl sizeOf38 (by decide) q0 rfl) <| og [500, 502, 501] [4] [.res 7 100000 (fun v1_ _ => (lb (b1 0) 41 [one (Ag .u32 a_1.AX), one (Ag .u32 a_1.BC), Af 32 a_1.AQ, one (AJ (dC 32) a_1.AP), one (Ag .u64 a_1.A4), Af 32 a_1.AN, one (Az (v1_)), one (AJ Al.ck a_1.Ah), one (AL a_1.Bj), one (AL a_1.BR)]))] (fun {β} => (AB.plain (B8 ((Aa.ck a_1).take 6) [one (Az (b12 2))] ((Aa.ck a_1).drop 7) [one (Az ((β 7)))] sizeOf38 q0 (HU 1 2 rfl rfl Iy) (FG _) rfl rfl rfl) rfl)) .nil) fun b20 a w h => ?_
       replace h := h.I2 7 rfl
       change AA c [.slot 5 (Av (b1 0) 0), .slot 7 (Av (b1 1) 0), .slot 8 (Av (b1 2) 0), .res (lb (b1 0) 41 [one (Ag .u32 a_1.AX), one (Ag .u32 a_1.BC), Af 32 a_1.AQ, one (AJ (dC 32) a_1.AP), one (Ag .u64 a_1.A4), Af 32 a_1.AN, one (Az (b20 7)), one (AJ Al.ck a_1.Ah), one (AL a_1.Bj), one (AL a_1.BR)]), .res (lb (b1 1) 71 (AI.ck a_3)), .res (lb (b1 2) 41 (Aa.ck (Aa.mk (0 : Int) (0 : Int) (List.replicate 32 0) [] (0 : Int) (List.replicate 32 0) [] [] false false))), .res (AK p_0 r4.2), .res (acc (b20 7) 37 33 Ao.ck (r11 ++ [(Ao.mk a_3.BN r9.1)]))] a w at h
       replace h := h.F4 3 7 rfl rfl (by decide)
       replace h := h.conv 3 rfl (settle (pre := ((Aa.ck a_1).take 6)) (post := ((Aa.ck a_1).drop 7)))
       replace h := h.sep 3 rfl
       replace h := h.sub [0, 1, 2, 3, 4, 5, 6] (by rfl)
       change AA c [.slot 5 (Av (b1 0) 0), .slot 7 (Av (b1 1) 0), .slot 8 (Av (b1 2) 0), .res (lb (b1 0) 41 [one (Ag .u32 a_1.AX), one (Ag .u32 a_1.BC), Af 32 a_1.AQ, one (AJ (dC 32) a_1.AP), one (Ag .u64 a_1.A4), Af 32 a_1.AN, one (AJ Ao.ck (r11 ++ [(Ao.mk a_3.BN r9.1)])), one (AJ Al.ck a_1.Ah), one (AL a_1.Bj), one (AL a_1.BR)]), .res (lb (b1 1) 71 (AI.ck a_3)), .res (lb (b1 2) 41 (Aa.ck (Aa.mk (0 : Int) (0 : Int) (List.replicate 32 0) [] (0 : Int) (List.replicate 32 0) [] [] false false))), .res (AK p_0 r4.2)] a w at h
       exact ⟨(Aa.mk a_1.AX a_1.BC a_1.AQ a_1.AP a_1.A4 a_1.AN (r11 ++ [(Ao.mk a_3.BN r9.1)]) a_1.Ah a_1.Bj a_1.BR), hF, h.sub [0, 1, 2, 3, 4, 5, 6] (by rfl)⟩
     ·clear h hF
      rintro a w ⟨x16, hF, h⟩
      unfold BZ.j2 at hF
      show Code.wp prog _ _ a w
      refine As mixed hn hG h [0, 2, 500, 5, 6] (ov [1] (Ad (p := (b1 1)) (n := 32) 0 33 underlying71 rfl sizeOf33 (by decide) q0 rfl) <| ov [500, 4] (AT ((AI.ck a_3).take 2) [Af 32 a_3.BN] (AE.ck a_3.C1) 1 isAgg33 sizeOf33 q0 rfl rfl rfl) <| ov [0] (Ad (p := (b1 0)) (n := 32) 0 36 underlying41 rfl sizeOf33 (by decide) q0 rfl) <| ou [500, 501] 3 (B8 ((Aa.ck x16).take 5) [Af 32 x16.AN] ((Aa.ck x16).drop 6) [Af 32 a_3.BN] sizeOf33 q0 q1 (Ai _) rfl rfl rfl) .nil) fun _ a w h => ?_
      refine As mixed hn hG h [1, 500, 501, 4] (ov [0, 2] (An 1 isAgg41 sizeOf41 q0) <| ou [1, 500] 3 (Aq sizeOf41 q0 q1 (Ai _)) <| ov [] (Ae qi) .nil) fun _ a w h => ?_
      refine wp_ret ?_
      obtain rfl := Option.some.inj hF
      exact ⟨.inl rfl, CJ h (rs := [.cell 8 41, .tmp 9]) (Vs := [(Au [one (Ag .u32 x16.AX), one (Ag .u32 x16.BC), Af 32 x16.AQ, one (AJ (dC 32) x16.AP), one (Ag .u64 x16.A4), Af 32 a_3.BN, one (AJ Ao.ck x16.Ay), one (AJ Al.ck x16.Ah), one (AL x16.Bj), one (AL x16.BR)]), (Ag .i64 0)]) results20 (by decide) ⟨(Be 0 2 rfl rfl isAgg41 sizeOf41 rfl), (Ba 1 rfl), trivial⟩ [3] [(AK p_0 r4.2)] rfl rfl rfl⟩

def Dr (a_0 : List UInt8) : Option (List UInt8) := some (a_0.take ((32 : Int).toNat - (0 : Int).toNat))
theorem Dj {a_0 : List UInt8} {r : (List UInt8)} (hF : Dr a_0 = some r) : AH prog KG 104 [(Au [Af 32 a_0])] [] (fun _ => []) (Br r) := by
 refine AH.intro 5 func104 rfl ntmps104 (Nat.le_of_ble_eq_true rfl) ?_
 intro c a w hG hn h
 unfold Dr at hF
 change AA c [.slot 0 (Au [Af 32 a_0])] a w at h
 refine As mixed hn hG h [502, 501] (ob [0] (Bc q0 (Ai _)) <| ov [] (Ae (D2 (sc _ (by decide)))) .nil) fun b1 a w h => ?_
 refine As mixed hn hG h [500] (ov [0] (EC (a := 0) (b := 32) underlying33 sizeOf5 q0 rfl rfl (by decide)) <| ov [500, 1] (Gr [] [] 1 underlying207 underlying5 underlying9 q0 rfl rfl (by decide) (by decide)) <| ov [500] (Ae q0) .nil) fun _ a w h => ?_
 refine wp_ret ?_
 obtain rfl := Option.some.inj hF
 exact ⟨.inl rfl, BW h results104 (Ba 0 rfl) [] [] rfl rfl rfl⟩

def Fa (L_0 : Option A2) (a_1 : List UInt8) : Option ((List UInt8) × (Option A2)) := ((Dr a_1).bind fun r3 => ((DB L_0 2 [r3]).bind fun r4 => some (r4.1, r4.2)))
theorem Jz {p_0 : Value} {L_0 : Option A2} {a_1 : List UInt8} {r : (List UInt8) × (Option A2)} (hF : Fa L_0 a_1 = some r) : AH prog KG 134 [(Az p_0), (Au [Af 32 a_1])] [(AZ p_0 L_0)] (fun _ => [AZ p_0 r.2]) (Au [Af 32 r.1]) := by
 refine AH.intro 10 func134 rfl ntmps134 (Nat.le_of_ble_eq_true rfl) ?_
 intro c a w hG hn h
 unfold Fa at hF
 change AA c [.slot 0 (Az p_0), .slot 1 (Au [Af 32 a_1]), .res (AZ p_0 L_0)] a w at h
 refine As mixed hn hG h [0, 503, 501, 2, 502, 500] (ob [1] (Bc q0 (Ai _)) <| ob [] (AR zeroValue33 FT) .nil) fun b1 a w h => ?_
 obtain ⟨r3, hr3, hF⟩ := bind_some hF
 obtain ⟨r4, hr4, hF⟩ := bind_some hF
 refine As mixed hn hG h [2, 500, 501] (ov [0] (Ab q0) <| ov [1, 4] (An 1 isAgg33 sizeOf33 q0) <| oc [500] [] call104 (Dj hr3) ⟨q0, trivial⟩ <| ov [500] (CP (xs := [.tmp 7]) (ys := [r3]) _ rfl underlying22 sizeOf9 zeroValue9 rfl rfl (by decide) (by decide) ⟨⟨_, q0, (AG (CD _))⟩, trivial⟩ CF) <| oc [503, 500] [3] call33 (D5 hr4) ⟨q0, qi, q1, trivial⟩ <| ou [2, 501] 5 (Aq sizeOf33 q0 q1 (Ai _)) .nil) fun _ a w h => ?_
 refine wp_ret ?_
 obtain rfl := Option.some.inj hF
 exact ⟨.inl rfl, BW h results134 (Be 0 1 rfl rfl isAgg33 sizeOf33 rfl) [2] [(AZ p_0 r4.2)] rfl rfl rfl⟩

def CA.b1 (a_1 : Int) (x6 : Int) (x7 : Int) : Option (Cn Int (Int × Int)) := (if (decide (x7 < (IntKind.wrap .i64 (7 - (a_1.tmod 8))))) = true then some (.cont (IntKind.wrap .i64 (x6.tdiv 2), IntKind.wrap .i64 (x7 + 1))) else some (.brk (x6, x7)))
def CA.j1 (a_0 : List UInt8) (a_1 : Int) (x2 : Bool) : Option Int := (if x2 = true then some 0 else (if (0 : Int) ≤ IntKind.wrap .i64 (a_1.tdiv 8) ∧ IntKind.wrap .i64 (a_1.tdiv 8) < 32 then ((Bu (fun s : Int × Int => CA.b1 a_1 s.1 s.2) 100000 (IntKind.wrap .i64 ((a_0.getD (IntKind.wrap .i64 (a_1.tdiv 8)).toNat 0).toNat), 0)).bind fun cr => match cr with | .ret r => some r | .next (y16, y17) => some (y16.tmod 2)) else none))
def CA (a_0 : List UInt8) (a_1 : Int) : Option Int := (if (decide (a_1 < (0 : Int))) = true then CA.j1 a_0 a_1 true else CA.j1 a_0 a_1 (decide ((255 : Int) < a_1)))
theorem Lu {a_0 : List UInt8} {a_1 : Int} {r : Int} (hF : CA a_0 a_1 = some r) : AH prog KG 135 [(Au [Af 32 a_0]), (Ag .i64 a_1)] [] (fun _ => []) (Ag .i64 r) := by
 refine AH.intro 29 func135 rfl ntmps135 (Nat.le_of_ble_eq_true rfl) ?_
 intro c a w hG hn h
 unfold CA at hF
 change AA c [.slot 0 (Au [Af 32 a_0]), .slot 1 (Ag .i64 a_1)] a w at h
 refine As mixed hn hG h [1, 502, 501] (ob [0] (Bc q0 (Ai _)) <| ov [] (Ae qi) .nil) fun b1 a w h => ?_
 refine wp_seq ?_
 refine wp_seq ?_
 refine wp_cut (fun a w => ∃ (x2 : Bool), CA.j1 a_0 a_1 x2 = some r ∧ AA c [.slot 1 (Ag .i64 a_1), .slot 2 (Av (b1 0) 0), .slot 12 (AL x2), .res (lb (b1 0) 33 [Af 32 a_0])] a w) ?_ ?_
 ·rcases Bool.eq_false_or_eq_true (decide (a_1 < (0 : Int))) with hb18 | hb18
  ·replace hF := CQ hb18 hF
   refine Cd mixed hn hG h [0, 1, 500, 2] (ov [0] (Ab q0) <| ov [500] (Ak Bl q0 qi) <| ov [500] (Ab q0) <| oe [500] [] (AB.At (want := false) hb18 rfl rfl rfl rfl) <| oe [501] [] (AB.At (want := false) hb18 rfl rfl rfl rfl) <| ov [502] (AU hb18 q0 qb) .nil) fun _ a w h => ?_
   exact ⟨true, hF, h.sub [0, 1, 2, 3] (by rfl)⟩
  ·replace hF := CT hb18 hF
   refine Cd mixed hn hG h [0, 1, 500, 2] (ov [0] (Ab q0) <| ov [500] (Ak Bl q0 qi) <| ov [500] (Ab q0) <| oe [500, 0] [] (AB.Aw hb18 rfl rfl rfl (Ab q0)) <| oe [501, 500] [] (AB.Aw hb18 rfl rfl rfl (Ak EW q0 qi)) <| ov [502, 500] (AV hb18 q0 q1) .nil) fun _ a w h => ?_
   exact ⟨decide ((255 : Int) < a_1), hF, h.sub [0, 1, 2, 3] (by rfl)⟩
 ·clear h hF
  rintro a w ⟨x2, hF, h⟩
  unfold CA.j1 at hF
  show Code.wp prog _ _ a w
  refine CC h hF 2 [] [0, 1, 3] (fun hb3 hF h => ?_) (fun hb3 hF h => ?_)
  ·refine As mixed hn hG h [500] (ov [] (Ae qi) .nil) fun _ a w h => ?_
   refine wp_ret ?_
   obtain rfl := Option.some.inj hF
   exact ⟨.inl rfl, BW h results135 (Ba 0 rfl) [] [] rfl rfl rfl⟩
  ·refine wp_skip ?_
   show Code.wp prog _ _ a w
   obtain ⟨hv4, hF⟩ := AF hF
   refine As mixed hn hG h [0, 500] (ov [0] (Ab q0) <| ov [500] (Ak (FH (by decide)) q0 qi) <| ov [1, 500] (AM underlying33 sizeOf5 q0 q1 hv4) <| ov [500, 2] (Jn (i := IntKind.wrap .i64 (a_1.tdiv 8)) [] [] 1 isAgg5 q0 rfl rfl hv4) <| ov [500] (A3 underlying5 underlying3 q0) <| ov [500] (Ae q0) .nil) fun _ a w h => ?_
   refine wp_seq ?_
   refine As mixed hn hG h [0, 1, 500] (ov [] (Ae qi) .nil) fun _ a w h => ?_
   refine wp_block ?_
   obtain ⟨cr12, hl13, hF⟩ := bind_some hF
   refine wp_mono (Bx (R := Int) (S := Int × Int) (fun s a w => AA c [.slot 1 (Ag .i64 a_1), .slot 5 (Ag .i64 s.1), .slot 6 (Ag .i64 s.2)] a w) (fun res e a w => match res with | .next s => e = .exit 0 ∧ AA c [.slot 5 (Ag .i64 s.1)] a w | .ret r => e = .ret ∧ Cu prog f135 c (Ag .i64 r) (fun _ => []) a w) ?_ _ (IntKind.wrap .i64 ((a_0.getD (IntKind.wrap .i64 (a_1.tdiv 8)).toNat 0).toNat), 0) _ _ _ (h.sub [0, 1, 2] (by rfl)) hl13) ?_
   ·clear hl13 hF h
    intro s a w o h hF
    obtain ⟨x6, x7⟩ := s
    change CA.b1 a_1 x6 x7 = some o at hF
    unfold CA.b1 at hF
    change AA c [.slot 1 (Ag .i64 a_1), .slot 5 (Ag .i64 x6), .slot 6 (Ag .i64 x7)] a w at h
    refine wp_seq ?_
    refine As mixed hn hG h [0, 1, 2, 500] (ov [2] (Ab q0) <| ov [0] (Ab q0) <| ov [500] (Ak (DH (by decide)) q0 qi) <| ov [500] (Ak CX qi q0) <| ov [503, 500] (Ak Bl q0 q1) .nil) fun _ a w h => ?_
    refine CC h hF 3 [0, 1, 2] [0, 1, 2] (fun hb11 hF h => ?_) (fun hb11 hF h => ?_)
    ·refine wp_skip ?_
     show Code.wp prog _ _ a w
     refine wp_seq ?_
     refine wp_block ?_
     refine Cd mixed hn hG h [0, 500, 2] (ov [1] (Ab q0) <| ov [500] (Ak (FH (by decide)) q0 qi) <| od [500] 1 (Ae q0) .nil) fun _ a w h => ?_
     show Code.wp prog _ _ a w
     refine Cd mixed hn hG h [0, 1, 500] (ov [2] (Ab q0) <| ov [500] (Ak A9 q0 qi) <| od [500] 2 (Ae q0) .nil) fun _ a w h => ?_
     obtain rfl := Option.some.inj hF
     exact ⟨rfl, h.sub [0, 1, 2] (by rfl)⟩
    ·refine wp_exit ?_
     obtain rfl := Option.some.inj hF
     exact ⟨BK _, rfl, h.sub [1] (by rfl)⟩
   ·clear hl13
    intro e a w hq
    cases cr12 with
    | ret r14 =>
     obtain ⟨rfl, hq⟩ := hq
     obtain rfl := Option.some.inj hF
     exact ⟨.inl rfl, hq⟩
    | next s15 =>
     obtain ⟨y16, y17⟩ := s15
     obtain ⟨rfl, h⟩ := hq
     change AA c [.slot 5 (Ag .i64 y16)] a w at h
     refine Bd ?_
     show Code.wp prog _ _ a w
     refine As mixed hn hG h [500] (ov [0] (Ab q0) <| ov [500] (Ak (DH (by decide)) q0 qi) <| ov [500] (Ae q0) .nil) fun _ a w h => ?_
     refine wp_ret ?_
     obtain rfl := Option.some.inj hF
     exact ⟨.inl rfl, BW h results135 (Ba 0 rfl) [] [] rfl rfl rfl⟩

def BB.j2 (x46 : Int) (r75 : (List UInt8) × (Option A2)) (x90 : List (UInt8)) : Option (Cn ((List UInt8) × Bool × (Option A2)) (Int × (Option A2) × (List (UInt8)))) := some (.cont (IntKind.wrap .i64 (x46 + 1), r75.2, x90))
def BB.b1 (a_1 : List UInt8) (a_2 : List (List UInt8)) (a_3 : List (List UInt8)) (x46 : Int) (x47 : Option A2) (x48 : List (UInt8)) : Option (Cn ((List UInt8) × Bool × (Option A2)) (Int × (Option A2) × (List (UInt8)))) := (if (decide (x46 < (32 : Int))) = true then (if (0 : Int) ≤ x46 ∧ x46 < a_2.length then ((Fa x47 (a_2.getD x46.toNat default)).bind fun r75 => ((Dr r75.1).bind fun r76 => ((CA a_1 x46).bind fun r77 => (if (decide (r77 = (0 : Int))) = true then (if x48.length + r76.length ≤ CW ∧ (x48.length + r76.length) * 1 ≤ 140737488355328 then (if (0 : Int) ≤ x46 ∧ x46 < a_3.length then ((Dr (a_3.getD x46.toNat default)).bind fun r96 => (if (x48 ++ r76).length + r96.length ≤ CW ∧ ((x48 ++ r76).length + r96.length) * 1 ≤ 140737488355328 then BB.j2 x46 r75 ((x48 ++ r76) ++ r96) else none)) else none) else none) else (if (0 : Int) ≤ x46 ∧ x46 < a_3.length then ((Dr (a_3.getD x46.toNat default)).bind fun r100 => (if x48.length + r100.length ≤ CW ∧ (x48.length + r100.length) * 1 ≤ 140737488355328 then (if (x48 ++ r100).length + r76.length ≤ CW ∧ ((x48 ++ r100).length + r76.length) * 1 ≤ 140737488355328 then BB.j2 x46 r75 ((x48 ++ r100) ++ r76) else none) else none)) else none))))) else none) else some (.brk (x46, x47, x48)))
def BB.j1 (L_0 : Option A2) (a_1 : List UInt8) (a_2 : List (List UInt8)) (a_3 : List (List UInt8)) (x3 : Bool) : Option ((List UInt8) × Bool × (Option A2)) := (if x3 = true then some ((List.replicate 32 0), false, L_0) else ((Bu (fun s : Int × (Option A2) × (List (UInt8)) => BB.b1 a_1 a_2 a_3 s.1 s.2.1 s.2.2) ((32 - 0 : Int).toNat + 2) (0, L_0, [])).bind fun cr => match cr with | .ret r => some r | .next (y109, y110, y111) => ((DB y110 3 [y111]).bind fun r112 => some (r112.1, true, r112.2))))
def BB (L_0 : Option A2) (a_1 : List UInt8) (a_2 : List (List UInt8)) (a_3 : List (List UInt8)) : Option ((List UInt8) × Bool × (Option A2)) := (if (!decide ((a_2.length : Int) = (32 : Int))) = true then BB.j1 L_0 a_1 a_2 a_3 true else BB.j1 L_0 a_1 a_2 a_3 (!decide ((a_3.length : Int) = (32 : Int))))
theorem JA {p_0 : Value} {L_0 : Option A2} {a_1 : List UInt8} {a_2 : List (List UInt8)} {a_3 : List (List UInt8)} {r : (List UInt8) × Bool × (Option A2)} (hF : BB L_0 a_1 a_2 a_3 = some r) : AH prog KG 115 [(Az p_0), (Au [Af 32 a_1]), (AJ (dC 32) a_2), (AJ (dC 32) a_3)] [(AZ p_0 L_0)] (fun _ => [AZ p_0 r.2.2]) (Db [(Au [Af 32 r.1]), (AL r.2.1)]) := by
 refine AH.intro 62 func115 rfl ntmps115 (Nat.le_of_ble_eq_true rfl) ?_
 intro c a w hG hn h
 unfold BB at hF
 change AA c [.slot 0 (Az p_0), .slot 1 (Au [Af 32 a_1]), .slot 2 (AJ (dC 32) a_2), .slot 3 (AJ (dC 32) a_3), .res (AZ p_0 L_0)] a w at h
 refine As mixed hn hG h [0, 2, 3, 504, 502, 4, 503, 501] (ob [1] (Bc q0 (Ai _)) <| ob [] (AR zeroValue33 FT) <| ov [] (Ae qb) .nil) fun b1 a w h => ?_
 refine wp_seq ?_
 refine wp_seq ?_
 refine wp_cut (fun a w => ∃ (x3 : Bool), BB.j1 L_0 a_1 a_2 a_3 x3 = some r ∧ AA c [.slot 0 (Az p_0), .slot 2 (AJ (dC 32) a_2), .slot 3 (AJ (dC 32) a_3), .slot 5 (Av (b1 0) 0), .slot 8 (Av (b1 1) 0), .slot 20 (AL x3), .res (AZ p_0 L_0), .res (lb (b1 0) 33 [Af 32 a_1]), .res (lb (b1 1) 33 [Af 32 (List.replicate 32 0)])] a w) ?_ ?_
 ·rcases Bool.eq_false_or_eq_true (!decide ((a_2.length : Int) = (32 : Int))) with hb113 | hb113
  ·replace hF := CQ hb113 hF
   refine Cd mixed hn hG h [0, 1, 2, 3, 4, 500, 5, 6, 7] (ov [1] (Ab q0) <| ov [500] (A6 underlying27 q0) <| ov [500] (Ak Bg q0 qi) <| ov [500] (Ab q0) <| oe [500] [] (AB.At (want := false) hb113 rfl rfl rfl rfl) <| oe [501] [] (AB.At (want := false) hb113 rfl rfl rfl rfl) <| oe [502] [] (AB.At (want := false) hb113 rfl rfl rfl rfl) <| ov [503] (AU hb113 q0 qb) .nil) fun _ a w h => ?_
   exact ⟨true, hF, h.sub [0, 1, 2, 3, 4, 5, 6, 7, 8] (by rfl)⟩
  ·replace hF := CT hb113 hF
   refine Cd mixed hn hG h [0, 1, 2, 3, 4, 500, 5, 6, 7] (ov [1] (Ab q0) <| ov [500] (A6 underlying27 q0) <| ov [500] (Ak Bg q0 qi) <| ov [500] (Ab q0) <| oe [500, 2] [] (AB.Aw hb113 rfl rfl rfl (Ab q0)) <| oe [501, 500] [] (AB.Aw hb113 rfl rfl rfl (A6 underlying27 q0)) <| oe [502, 500] [] (AB.Aw hb113 rfl rfl rfl (Ak Bg q0 qi)) <| ov [503, 500] (AV hb113 q0 q1) .nil) fun _ a w h => ?_
   exact ⟨!decide ((a_3.length : Int) = (32 : Int)), hF, h.sub [0, 1, 2, 3, 4, 5, 6, 7, 8] (by rfl)⟩
 ·clear h hF
  rintro a w ⟨x3, hF, h⟩
  unfold BB.j1 at hF
  show Code.wp prog _ _ a w
  refine CC h hF 5 [4, 6, 8] [0, 1, 2, 3, 4, 6, 7, 8] (fun hb4 hF h => ?_) (fun hb4 hF h => ?_)
  ·refine As mixed hn hG h [0, 500, 1, 501] (ov [] (KB zeroValue33 underlying33 sizeOf5 FT) <| ou [0, 500] 2 (Aq sizeOf33 q0 q1 (Ai _)) <| ov [] (Ae qb) .nil) fun _ a w h => ?_
   refine wp_ret ?_
   obtain rfl := Option.some.inj hF
   exact ⟨.inl rfl, CJ h (rs := [.cell 8 33, .tmp 9]) (Vs := [(Au [Af 32 (List.replicate 32 0)]), (AL false)]) results115 (by decide) ⟨(Be 0 3 rfl rfl isAgg33 sizeOf33 rfl), (Ba 1 rfl), trivial⟩ [2] [(AZ p_0 L_0)] rfl rfl rfl⟩
  ·refine wp_skip ?_
   show Code.wp prog _ _ a w
   refine As mixed hn hG h [0, 1, 2, 3, 4, 500, 5, 6, 7] (ov [] (Ae (D2 (ec _))) .nil) fun _ a w h => ?_
   refine wp_seq ?_
   refine As mixed hn hG h [0, 1, 2, 3, 4, 5, 500, 6, 7, 8] (ov [] (Ae qi) .nil) fun _ a w h => ?_
   refine wp_block ?_
   obtain ⟨q26, h⟩ : ∃ q26 : Value, AA c [.slot 0 (Az p_0), .slot 2 (AJ (dC 32) a_2), .slot 3 (AJ (dC 32) a_3), .slot 5 (Av (b1 0) 0), .slot 8 (Av (b1 1) 0), .slot 10 (Az q26), .slot 11 (Ag .i64 0), .res (AZ p_0 L_0), .res (lb (b1 0) 33 [Af 32 a_1]), .res (lb (b1 1) 33 [Af 32 (List.replicate 32 0)]), .res (acc q26 5 1 bC [])] a w := ⟨.slice none 0 0, (h.Fh 5 1 bC).sub [0, 1, 2, 3, 4, 5, 6, 7, 8, 9, 10] (by rfl)⟩
   obtain ⟨cr105, hl106, hF⟩ := bind_some hF
   refine wp_mono (Bx (R := (List UInt8) × Bool × (Option A2)) (S := Int × (Option A2) × (List (UInt8))) (fun s a w => ∃ q49 : Value, AA c [.slot 0 (Az p_0), .slot 2 (AJ (dC 32) a_2), .slot 3 (AJ (dC 32) a_3), .slot 5 (Av (b1 0) 0), .slot 8 (Av (b1 1) 0), .slot 10 (Az q49), .slot 11 (Ag .i64 s.1), .res (AZ p_0 s.2.1), .res (lb (b1 0) 33 [Af 32 a_1]), .res (lb (b1 1) 33 [Af 32 (List.replicate 32 0)]), .res (acc q49 5 1 bC s.2.2)] a w) (fun res e a w => match res with | .next s => e = .exit 0 ∧ ∃ q49 : Value, AA c [.slot 0 (Az p_0), .slot 8 (Av (b1 1) 0), .slot 10 (Az q49), .res (AZ p_0 s.2.1), .res (lb (b1 1) 33 [Af 32 (List.replicate 32 0)]), .res (acc q49 5 1 bC s.2.2)] a w | .ret r => e = .ret ∧ Cu prog f115 c (Db [(Au [Af 32 r.1]), (AL r.2.1)]) (fun _ => [AZ p_0 r.2.2]) a w) ?_ _ (0, L_0, []) _ _ _ ⟨q26, (h.sub [0, 1, 2, 3, 4, 5, 6, 7, 8, 9, 10] (by rfl))⟩ hl106) ?_
   ·clear hl106 hF h
    intro s a w o h hF
    obtain ⟨x46, x47, x48⟩ := s
    obtain ⟨q49, h⟩ := h
    change BB.b1 a_1 a_2 a_3 x46 x47 x48 = some o at hF
    unfold BB.b1 at hF
    change AA c [.slot 0 (Az p_0), .slot 2 (AJ (dC 32) a_2), .slot 3 (AJ (dC 32) a_3), .slot 5 (Av (b1 0) 0), .slot 8 (Av (b1 1) 0), .slot 10 (Az q49), .slot 11 (Ag .i64 x46), .res (AZ p_0 x47), .res (lb (b1 0) 33 [Af 32 a_1]), .res (lb (b1 1) 33 [Af 32 (List.replicate 32 0)]), .res (acc q49 5 1 bC x48)] a w at h
    refine wp_seq ?_
    refine As mixed hn hG h [0, 1, 2, 3, 4, 5, 6, 500, 7, 8, 9, 10] (ov [6] (Ab q0) <| ov [500] (Ak Bl q0 qi) .nil) fun _ a w h => ?_
    refine CC h hF 7 [0, 1, 2, 3, 4, 5, 6, 8, 9, 10, 11] [0, 1, 2, 3, 4, 5, 6, 8, 9, 10, 11] (fun hb73 hF h => ?_) (fun hb73 hF h => ?_)
    ·refine wp_skip ?_
     show Code.wp prog _ _ a w
     refine wp_seq ?_
     refine wp_block ?_
     obtain ⟨hv74, hF⟩ := AF hF
     obtain ⟨r75, hr75, hF⟩ := bind_some hF
     obtain ⟨r76, hr76, hF⟩ := bind_some hF
     refine As mixed hn hG h [0, 1, 2, 3, 4, 5, 6, 500, 8, 9, 10, 502] (ov [0] (Ab q0) <| ov [1] (Ab q0) <| ov [6] (Ab q0) <| ov [501, 500] (AS underlying27 sizeOf33 (Bk 32) q0 q1 hv74) <| ov [500] (Bq [Af 32 (a_2.getD x46.toNat default)] [] isAgg33 sizeOf33 q0 rfl) <| oc [504, 500] [7] call134 (Jz hr75) ⟨q0, q1, trivial⟩ <| oc [501] [] call104 (Dj hr76) ⟨q0, trivial⟩ <| ov [500] (Ae q0) .nil) fun _ a w h => ?_
     obtain ⟨r77, hr77, hF⟩ := bind_some hF
     refine As mixed hn hG h [0, 1, 2, 3, 4, 5, 6, 7, 500, 8, 9, 10, 11] (ov [3, 8] (An 1 isAgg33 sizeOf33 q0) <| ov [6] (Ab q0) <| oc [501, 500] [] call135 (Lu hr77) ⟨q0, q1, trivial⟩ <| ov [500] (Ak CI q0 qi) .nil) fun _ a w h => ?_
     refine wp_cut (fun a w => ∃ (x90 : List (UInt8)), ∃ q91 : Value, BB.j2 x46 r75 x90 = some o ∧ AA c [.slot 0 (Az p_0), .slot 2 (AJ (dC 32) a_2), .slot 3 (AJ (dC 32) a_3), .slot 5 (Av (b1 0) 0), .slot 8 (Av (b1 1) 0), .slot 10 (Az q91), .slot 11 (Ag .i64 x46), .res (lb (b1 0) 33 [Af 32 a_1]), .res (lb (b1 1) 33 [Af 32 (List.replicate 32 0)]), .res (AZ p_0 r75.2), .res (acc q91 5 1 bC x90)] a w) ?_ ?_
     ·refine CC h hF 8 [0, 1, 2, 3, 4, 5, 6, 7, 9, 10, 11, 12] [0, 1, 2, 3, 4, 5, 6, 7, 9, 10, 11, 12] (fun hb92 hF h => ?_) (fun hb92 hF h => ?_)
      ·obtain ⟨hv93, hF⟩ := AF hF
       refine As mixed hn hG h [0, 1, 2, 3, 4, 500, 6, 8, 9, 11, 501] (ov [5] (Ab q0) <| ov [7] (Ab q0) <| og [501, 500] [10] [.slot 39 2 100000 (fun v1_ _ => (Az v1_)), .res 2 100000 (fun v1_ _ => (acc (v1_) 5 1 bC (x48 ++ r76)))] (AB.plain (ET underlying207 underlying9 type5 rfl rfl rfl rfl q0 q1 hv93) rfl) <| og [501] [5] [.slot 10 2 100000 (fun v1_ _ => (Az v1_))] (fun {β} => (AB.drop _ (AB.plain (Ae (V := (Az (β 2))) q0) rfl))) .nil) fun b94 a w h => ?_
       obtain ⟨hv95, hF⟩ := AF hF
       obtain ⟨r96, hr96, hF⟩ := bind_some hF
       obtain ⟨hv97, hF⟩ := AF hF
       refine Cd mixed hn hG h [0, 1, 2, 3, 4, 500, 6, 7, 8, 9, 501] (ov [5] (Ab q0) <| ov [2] (Ab q0) <| ov [6] (Ab q0) <| ov [501, 500] (AS underlying27 sizeOf33 (Bk 32) q0 q1 hv95) <| ov [500] (Bq [Af 32 (a_3.getD x46.toNat default)] [] isAgg33 sizeOf33 q0 rfl) <| oc [500] [] call104 (Dj hr96) ⟨q0, trivial⟩ <| og [505, 500] [10] [.slot 46 6 100000 (fun v1_ _ => (Az v1_)), .res 6 100000 (fun v1_ _ => (acc (v1_) 5 1 bC ((x48 ++ r76) ++ r96)))] (AB.plain (ET underlying207 underlying9 type5 rfl rfl rfl rfl q0 q1 hv97) rfl) <| og [501] [5] [.slot 10 6 100000 (fun v1_ _ => (Az v1_))] (fun {β} => (AB.drop _ (AB.plain (Ae (V := (Az (β 6))) q0) rfl))) .nil) fun b98 a w h => ?_
       exact ⟨(x48 ++ r76) ++ r96, (b98 6), hF, h.sub [0, 1, 2, 3, 4, 5, 6, 7, 8, 9, 10] (by rfl)⟩
      ·obtain ⟨hv99, hF⟩ := AF hF
       obtain ⟨r100, hr100, hF⟩ := bind_some hF
       obtain ⟨hv101, hF⟩ := AF hF
       refine As mixed hn hG h [0, 1, 2, 3, 4, 500, 6, 7, 8, 9, 11, 501] (ov [5] (Ab q0) <| ov [2] (Ab q0) <| ov [6] (Ab q0) <| ov [501, 500] (AS underlying27 sizeOf33 (Bk 32) q0 q1 hv99) <| ov [500] (Bq [Af 32 (a_3.getD x46.toNat default)] [] isAgg33 sizeOf33 q0 rfl) <| oc [500] [] call104 (Dj hr100) ⟨q0, trivial⟩ <| og [505, 500] [10] [.slot 53 6 100000 (fun v1_ _ => (Az v1_)), .res 6 100000 (fun v1_ _ => (acc (v1_) 5 1 bC (x48 ++ r100)))] (AB.plain (ET underlying207 underlying9 type5 rfl rfl rfl rfl q0 q1 hv101) rfl) <| og [501] [5] [.slot 10 6 100000 (fun v1_ _ => (Az v1_))] (fun {β} => (AB.drop _ (AB.plain (Ae (V := (Az (β 6))) q0) rfl))) .nil) fun b102 a w h => ?_
       obtain ⟨hv103, hF⟩ := AF hF
       refine Cd mixed hn hG h [0, 1, 2, 3, 4, 500, 6, 8, 9, 10, 501] (ov [5] (Ab q0) <| ov [7] (Ab q0) <| og [501, 500] [11] [.slot 56 2 100000 (fun v1_ _ => (Az v1_)), .res 2 100000 (fun v1_ _ => (acc (v1_) 5 1 bC ((x48 ++ r100) ++ r76)))] (AB.plain (ET underlying207 underlying9 type5 rfl rfl rfl rfl q0 q1 hv103) rfl) <| og [501] [5] [.slot 10 2 100000 (fun v1_ _ => (Az v1_))] (fun {β} => (AB.drop _ (AB.plain (Ae (V := (Az (β 2))) q0) rfl))) .nil) fun b104 a w h => ?_
       exact ⟨(x48 ++ r100) ++ r76, (b104 2), hF, h.sub [0, 1, 2, 3, 4, 5, 6, 7, 8, 9, 10] (by rfl)⟩
     ·clear h hF
      rintro a w ⟨x90, q91, hF, h⟩
      unfold BB.j2 at hF
      show Code.wp prog _ _ a w
      refine Cd mixed hn hG h [0, 1, 2, 3, 4, 5, 500, 7, 8, 9, 10] (ov [6] (Ab q0) <| ov [500] (Ak A9 q0 qi) <| od [500] 6 (Ae q0) .nil) fun _ a w h => ?_
      obtain rfl := Option.some.inj hF
      exact ⟨rfl, q91, h.sub [0, 1, 2, 3, 4, 5, 6, 9, 7, 8, 10] (by rfl)⟩
    ·refine wp_exit ?_
     obtain rfl := Option.some.inj hF
     exact ⟨BK _, rfl, q49, h.sub [0, 4, 5, 7, 9, 10] (by rfl)⟩
   ·clear hl106
    intro e a w hq
    cases cr105 with
    | ret r107 =>
     obtain ⟨rfl, hq⟩ := hq
     obtain rfl := Option.some.inj hF
     exact ⟨.inl rfl, hq⟩
    | next s108 =>
     obtain ⟨y109, y110, y111⟩ := s108
     obtain ⟨rfl, q49, h⟩ := hq
     change AA c [.slot 0 (Az p_0), .slot 8 (Av (b1 1) 0), .slot 10 (Az q49), .res (AZ p_0 y110), .res (lb (b1 1) 33 [Af 32 (List.replicate 32 0)]), .res (acc q49 5 1 bC y111)] a w at h
     refine Bd ?_
     show Code.wp prog _ _ a w
     obtain ⟨r112, hr112, hF⟩ := bind_some hF
     refine As mixed hn hG h [1, 500, 501, 502] (ov [0] (Ab q0) <| ov [2] (Ab q0) <| ov [500, 5] (Hw underlying207 underlying5 underlying9 (HV 0 1 rfl rfl)) <| ov [500] (CP (xs := [.tmp 59]) (ys := [y111]) _ rfl underlying22 sizeOf9 zeroValue9 rfl rfl (by decide) (by decide) ⟨⟨_, q0, (AG (CD _))⟩, trivial⟩ CF) <| oc [503, 500] [3] call33 (D5 hr112) ⟨q0, qi, q1, trivial⟩ <| ou [1, 501] 4 (Aq sizeOf33 q0 q1 (Ai _)) <| ov [] (Ae qb) .nil) fun _ a w h => ?_
     refine wp_ret ?_
     obtain rfl := Option.some.inj hF
     exact ⟨.inl rfl, CJ h (rs := [.cell 8 33, .tmp 9]) (Vs := [(Au [Af 32 r112.1]), (AL true)]) results115 (by decide) ⟨(Be 0 2 rfl rfl isAgg33 sizeOf33 rfl), (Ba 1 rfl), trivial⟩ [3] [(AZ p_0 r112.2)] rfl rfl rfl⟩

def Dg (L_0 : Option A2) (a_1 : Int) (a_2 : List UInt8) (a_3 : List UInt8) : Option ((List UInt8) × (Option A2)) := ((Dr a_2).bind fun r4 => ((Dr a_3).bind fun r5 => ((DB L_0 a_1 [r4, r5]).bind fun r6 => some (r6.1, r6.2))))
theorem EK {p_0 : Value} {L_0 : Option A2} {a_1 : Int} {a_2 : List UInt8} {a_3 : List UInt8} {r : (List UInt8) × (Option A2)} (hF : Dg L_0 a_1 a_2 a_3 = some r) : AH prog KG 76 [(Az p_0), (Ag .u8 a_1), (Au [Af 32 a_2]), (Au [Af 32 a_3])] [(AZ p_0 L_0)] (fun _ => [AZ p_0 r.2]) (Au [Af 32 r.1]) := by
 refine AH.intro 17 func76 rfl ntmps76 (Nat.le_of_ble_eq_true rfl) ?_
 intro c a w hG hn h
 unfold Dg at hF
 change AA c [.slot 0 (Az p_0), .slot 1 (Ag .u8 a_1), .slot 2 (Au [Af 32 a_2]), .slot 3 (Au [Af 32 a_3]), .res (AZ p_0 L_0)] a w at h
 refine As mixed hn hG h [0, 1, 505, 503, 501, 4, 504, 502, 500] (ob [2] (Bc q0 (Ai _)) <| ob [3] (Bc q0 (Ai _)) <| ob [] (AR zeroValue33 FT) .nil) fun b1 a w h => ?_
 obtain ⟨r4, hr4, hF⟩ := bind_some hF
 obtain ⟨r5, hr5, hF⟩ := bind_some hF
 obtain ⟨r6, hr6, hF⟩ := bind_some hF
 refine As mixed hn hG h [4, 500, 501] (ov [0] (Ab q0) <| ov [1] (Ab q0) <| ov [2, 6] (An 1 isAgg33 sizeOf33 q0) <| oc [500] [] call104 (Dj hr4) ⟨q0, trivial⟩ <| ov [3, 7] (An 1 isAgg33 sizeOf33 q0) <| oc [500] [] call104 (Dj hr5) ⟨q0, trivial⟩ <| ov [502, 500] (CP (xs := [.tmp 12, .tmp 14]) (ys := [r4, r5]) _ rfl underlying22 sizeOf9 zeroValue9 rfl rfl (by decide) (by decide) ⟨⟨_, q0, (AG (CD _))⟩, ⟨_, q1, (AG (CD _))⟩, trivial⟩ CF) <| oc [506, 505, 500] [5] call33 (D5 hr6) ⟨q0, q1, q2, trivial⟩ <| ou [4, 501] 8 (Aq sizeOf33 q0 q1 (Ai _)) .nil) fun _ a w h => ?_
 refine wp_ret ?_
 obtain rfl := Option.some.inj hF
 exact ⟨.inl rfl, BW h results76 (Be 0 1 rfl rfl isAgg33 sizeOf33 rfl) [2] [(AZ p_0 r6.2)] rfl rfl rfl⟩

def BL.j2 (x12 : Int) (x32 : List UInt8) (x33 : Option A2) (x34 : Int) : Option (Cn ((List UInt8) × (Option A2)) (Int × Int × (Option A2) × (List UInt8))) := some (.cont (x34, IntKind.wrap .i64 (x12 + 1), x33, x32))
def BL.j1 (a_2 : Int) (x11 : Int) (x12 : Int) (x32 : List UInt8) (x33 : Option A2) : Option (Cn ((List UInt8) × (Option A2)) (Int × Int × (Option A2) × (List UInt8))) := (if (decide (a_2 < (0 : Int))) = true then BL.j2 x12 x32 x33 (IntKind.wrap .u64 ((IntKind.wrap .u64 (x11.tdiv 2)) + 9223372036854775808)) else BL.j2 x12 x32 x33 (IntKind.wrap .u64 (x11.tdiv 2)))
def BL.b1 (a_2 : Int) (a_3 : List (List UInt8)) (x11 : Int) (x12 : Int) (x13 : Option A2) (x14 : List UInt8) : Option (Cn ((List UInt8) × (Option A2)) (Int × Int × (Option A2) × (List UInt8))) := (if (decide (x12 < (a_3.length : Int))) = true then (if (decide ((x11.tmod 2) = (1 : Int))) = true then (if (0 : Int) ≤ x12 ∧ x12 < a_3.length then ((Dg x13 4 (a_3.getD x12.toNat default) x14).bind fun r38 => BL.j1 a_2 x11 x12 r38.1 r38.2) else none) else (if (0 : Int) ≤ x12 ∧ x12 < a_3.length then ((Dg x13 4 x14 (a_3.getD x12.toNat default)).bind fun r40 => BL.j1 a_2 x11 x12 r40.1 r40.2) else none)) else some (.brk (x11, x12, x13, x14)))
def BL (L_0 : Option A2) (a_1 : List UInt8) (a_2 : Int) (a_3 : List (List UInt8)) : Option ((List UInt8) × (Option A2)) := ((Bu (fun s : Int × Int × (Option A2) × (List UInt8) => BL.b1 a_2 a_3 s.1 s.2.1 s.2.2.1 s.2.2.2) (((a_3.length : Int) - 0 : Int).toNat + 2) (IntKind.wrap .u64 a_2, 0, L_0, a_1)).bind fun cr => match cr with | .ret r => some r | .next (y45, y46, y47, y48) => some (y48, y47))
theorem J7 {p_0 : Value} {L_0 : Option A2} {a_1 : List UInt8} {a_2 : Int} {a_3 : List (List UInt8)} {r : (List UInt8) × (Option A2)} (hF : BL L_0 a_1 a_2 a_3 = some r) : AH prog KG 116 [(Az p_0), (Au [Af 32 a_1]), (Ag .i64 a_2), (AJ (dC 32) a_3)] [(AZ p_0 L_0)] (fun _ => [AZ p_0 r.2]) (Au [Af 32 r.1]) := by
 refine AH.intro 43 func116 rfl ntmps116 (Nat.le_of_ble_eq_true rfl) ?_
 intro c a w hG hn h
 unfold BL at hF
 change AA c [.slot 0 (Az p_0), .slot 1 (Au [Af 32 a_1]), .slot 2 (Ag .i64 a_2), .slot 3 (AJ (dC 32) a_3), .res (AZ p_0 L_0)] a w at h
 refine As mixed hn hG h [0, 2, 3, 503, 501, 4, 502, 500] (ob [1] (Bc q0 (Ai _)) <| ob [] (AR zeroValue33 FT) .nil) fun b1 a w h => ?_
 refine As mixed hn hG h [0, 1, 2, 3, 4, 500, 5, 6, 7] (ov [1] (Ab q0) <| ov [500] (A3 underlying3 underlying24 q0) <| ov [500] (Ae q0) .nil) fun _ a w h => ?_
 refine wp_seq ?_
 refine As mixed hn hG h [0, 1, 2, 3, 4, 5, 501, 500, 6, 7, 8] (ov [2] (Ab q0) <| ov [500] (A6 underlying27 q0) <| ov [] (Ab qi) .nil) fun _ a w h => ?_
 refine wp_block ?_
 obtain ⟨cr41, hl42, hF⟩ := bind_some hF
 refine wp_mono (Bx (R := (List UInt8) × (Option A2)) (S := Int × Int × (Option A2) × (List UInt8)) (fun s a w => AA c [.slot 0 (Az p_0), .slot 2 (Ag .i64 a_2), .slot 3 (AJ (dC 32) a_3), .slot 5 (Av (b1 0) 0), .slot 8 (Av (b1 1) 0), .slot 9 (Ag .u64 s.1), .slot 14 (Ag .i64 (a_3.length : Int)), .slot 15 (Ag .i64 s.2.1), .res (AZ p_0 s.2.2.1), .res (lb (b1 0) 33 [Af 32 s.2.2.2]), .res (lb (b1 1) 33 [Af 32 (List.replicate 32 0)])] a w) (fun res e a w => match res with | .next s => e = .exit 0 ∧ AA c [.slot 5 (Av (b1 0) 0), .slot 8 (Av (b1 1) 0), .res (AZ p_0 s.2.2.1), .res (lb (b1 0) 33 [Af 32 s.2.2.2]), .res (lb (b1 1) 33 [Af 32 (List.replicate 32 0)])] a w | .ret r => e = .ret ∧ Cu prog f116 c (Au [Af 32 r.1]) (fun _ => [AZ p_0 r.2]) a w) ?_ _ (IntKind.wrap .u64 a_2, 0, L_0, a_1) _ _ _ (h.sub [0, 1, 2, 3, 4, 5, 6, 7, 8, 9, 10] (by rfl)) hl42) ?_
 ·clear hl42 hF h
  intro s a w o h hF
  obtain ⟨x11, x12, x13, x14⟩ := s
  change BL.b1 a_2 a_3 x11 x12 x13 x14 = some o at hF
  unfold BL.b1 at hF
  change AA c [.slot 0 (Az p_0), .slot 2 (Ag .i64 a_2), .slot 3 (AJ (dC 32) a_3), .slot 5 (Av (b1 0) 0), .slot 8 (Av (b1 1) 0), .slot 9 (Ag .u64 x11), .slot 14 (Ag .i64 (a_3.length : Int)), .slot 15 (Ag .i64 x12), .res (AZ p_0 x13), .res (lb (b1 0) 33 [Af 32 x14]), .res (lb (b1 1) 33 [Af 32 (List.replicate 32 0)])] a w at h
  refine As mixed hn hG h [0, 1, 2, 3, 4, 5, 6, 7, 500, 8, 9, 10] (ov [7, 6] (Ak Bl q0 q1) .nil) fun _ a w h => ?_
  refine wp_seq ?_
  refine CC h hF 8 [0, 1, 2, 3, 4, 5, 6, 7, 9, 10, 11] [0, 1, 2, 3, 4, 5, 6, 7, 9, 10, 11] (fun hb27 hF h => ?_) (fun hb27 hF h => ?_)
  ·refine wp_skip ?_
   show Code.wp prog _ _ a w
   refine wp_seq ?_
   refine wp_block ?_
   refine As mixed hn hG h [0, 1, 2, 3, 4, 5, 500, 6, 7, 8, 9, 10] (ov [7] (Ab q0) <| ov [500] (Ae q0) .nil) fun _ a w h => ?_
   refine wp_seq ?_
   refine As mixed hn hG h [0, 1, 2, 3, 4, 5, 6, 7, 8, 500, 9, 10, 11] (ov [5] (Ab q0) <| ov [500] (Ak (DH (by decide)) q0 qi) <| ov [500] (Ak CI q0 qi) .nil) fun _ a w h => ?_
   refine wp_cut (fun a w => ∃ (x32 : List UInt8), ∃ (x33 : Option A2), BL.j1 a_2 x11 x12 x32 x33 = some o ∧ AA c [.slot 0 (Az p_0), .slot 2 (Ag .i64 a_2), .slot 3 (AJ (dC 32) a_3), .slot 5 (Av (b1 0) 0), .slot 8 (Av (b1 1) 0), .slot 9 (Ag .u64 x11), .slot 14 (Ag .i64 (a_3.length : Int)), .slot 15 (Ag .i64 x12), .res (lb (b1 0) 33 [Af 32 x32]), .res (lb (b1 1) 33 [Af 32 (List.replicate 32 0)]), .res (AZ p_0 x33)] a w) ?_ ?_
   ·refine CC h hF 9 [0, 1, 2, 3, 4, 5, 6, 7, 8, 10, 11, 12] [0, 1, 2, 3, 4, 5, 6, 7, 8, 10, 11, 12] (fun hb36 hF h => ?_) (fun hb36 hF h => ?_)
    ·obtain ⟨hv37, hF⟩ := AF hF
     obtain ⟨r38, hr38, hF⟩ := bind_some hF
     refine Cd mixed hn hG h [0, 1, 2, 3, 4, 5, 7, 8, 500, 11, 501] (ov [0] (Ab q0) <| ov [2] (Ab q0) <| ov [6] (Ab q0) <| ov [501, 500] (AS underlying27 sizeOf33 (Bk 32) q0 q1 hv37) <| ov [500] (Bq [Af 32 (a_3.getD x12.toNat default)] [] isAgg33 sizeOf33 q0 rfl) <| ov [3, 10] (An 1 isAgg33 sizeOf33 q0) <| oc [505, 501, 500] [9] call76 (EK hr38) ⟨q0, qi, q1, q2, trivial⟩ <| ou [3, 501] 10 (Aq sizeOf33 q0 q1 (Ai _)) .nil) fun _ a w h => ?_
     exact ⟨r38.1, r38.2, hF, h.sub [0, 1, 2, 3, 4, 5, 6, 7, 8, 9, 10] (by rfl)⟩
    ·obtain ⟨hv39, hF⟩ := AF hF
     obtain ⟨r40, hr40, hF⟩ := bind_some hF
     refine Cd mixed hn hG h [0, 1, 2, 3, 4, 5, 7, 8, 500, 11, 501] (ov [0] (Ab q0) <| ov [3, 10] (An 1 isAgg33 sizeOf33 q0) <| ov [2] (Ab q0) <| ov [6] (Ab q0) <| ov [501, 500] (AS underlying27 sizeOf33 (Bk 32) q0 q1 hv39) <| ov [500] (Bq [Af 32 (a_3.getD x12.toNat default)] [] isAgg33 sizeOf33 q0 rfl) <| oc [505, 504, 500] [9] call76 (EK hr40) ⟨q0, qi, q1, q2, trivial⟩ <| ou [3, 501] 10 (Aq sizeOf33 q0 q1 (Ai _)) .nil) fun _ a w h => ?_
     exact ⟨r40.1, r40.2, hF, h.sub [0, 1, 2, 3, 4, 5, 6, 7, 8, 9, 10] (by rfl)⟩
   ·clear h hF
    rintro a w ⟨x32, x33, hF, h⟩
    unfold BL.j1 at hF
    show Code.wp prog _ _ a w
    refine As mixed hn hG h [0, 1, 2, 3, 4, 500, 6, 7, 8, 9, 10] (ov [5] (Ab q0) <| ov [500] (Ak (FH (by decide)) q0 qi) <| od [500] 5 (Ae q0) .nil) fun _ a w h => ?_
    refine As mixed hn hG h [0, 1, 2, 3, 4, 5, 6, 7, 500, 8, 9, 10] (ov [1] (Ab q0) <| ov [500] (Ak Bl q0 qi) .nil) fun _ a w h => ?_
    refine wp_cut (fun a w => ∃ (x34 : Int), BL.j2 x12 x32 x33 x34 = some o ∧ AA c [.slot 0 (Az p_0), .slot 2 (Ag .i64 a_2), .slot 3 (AJ (dC 32) a_3), .slot 5 (Av (b1 0) 0), .slot 8 (Av (b1 1) 0), .slot 9 (Ag .u64 x34), .slot 14 (Ag .i64 (a_3.length : Int)), .slot 15 (Ag .i64 x12), .res (lb (b1 0) 33 [Af 32 x32]), .res (lb (b1 1) 33 [Af 32 (List.replicate 32 0)]), .res (AZ p_0 x33)] a w) ?_ ?_
    ·refine CC h hF 8 [0, 1, 2, 3, 4, 5, 6, 7, 9, 10, 11] [0, 1, 2, 3, 4, 5, 6, 7, 9, 10, 11] (fun hb35 hF h => ?_) (fun hb35 hF h => ?_)
     ·refine Cd mixed hn hG h [0, 1, 2, 3, 4, 500, 6, 7, 8, 9, 10] (ov [5] (Ab q0) <| ov [500] (Ak A9 q0 qi) <| od [500] 5 (Ae q0) .nil) fun _ a w h => ?_
      exact ⟨IntKind.wrap .u64 ((IntKind.wrap .u64 (x11.tdiv 2)) + 9223372036854775808), hF, h.sub [0, 1, 2, 3, 4, 5, 6, 7, 8, 9, 10] (by rfl)⟩
     ·refine wp_skip ?_
      exact ⟨IntKind.wrap .u64 (x11.tdiv 2), hF, h.sub [0, 1, 2, 3, 4, 5, 6, 7, 8, 9, 10] (by rfl)⟩
    ·clear h hF
     rintro a w ⟨x34, hF, h⟩
     unfold BL.j2 at hF
     show Code.wp prog _ _ a w
     refine Cd mixed hn hG h [0, 1, 2, 3, 4, 5, 6, 500, 8, 9, 10] (ov [7] (Ak A9 q0 qi) <| od [500] 7 (Ab q0) .nil) fun _ a w h => ?_
     obtain rfl := Option.some.inj hF
     exact ⟨rfl, h.sub [0, 1, 2, 3, 4, 5, 6, 7, 10, 8, 9] (by rfl)⟩
  ·refine wp_exit ?_
   obtain rfl := Option.some.inj hF
   exact ⟨BK _, rfl, h.sub [3, 4, 8, 9, 10] (by rfl)⟩
 ·clear hl42
  intro e a w hq
  cases cr41 with
  | ret r43 =>
   obtain ⟨rfl, hq⟩ := hq
   obtain rfl := Option.some.inj hF
   exact ⟨.inl rfl, hq⟩
  | next s44 =>
   obtain ⟨y45, y46, y47, y48⟩ := s44
   obtain ⟨rfl, h⟩ := hq
   change AA c [.slot 5 (Av (b1 0) 0), .slot 8 (Av (b1 1) 0), .res (AZ p_0 y47), .res (lb (b1 0) 33 [Af 32 y48]), .res (lb (b1 1) 33 [Af 32 (List.replicate 32 0)])] a w at h
   refine Bd ?_
   show Code.wp prog _ _ a w
   refine As mixed hn hG h [1, 2, 500] (ov [0, 3] (An 1 isAgg33 sizeOf33 q0) <| ou [1, 500] 4 (Aq sizeOf33 q0 q1 (Ai _)) .nil) fun _ a w h => ?_
   refine wp_ret ?_
   obtain rfl := Option.some.inj hF
   exact ⟨.inl rfl, BW h results116 (Be 0 2 rfl rfl isAgg33 sizeOf33 rfl) [1] [(AZ p_0 y47)] rfl rfl rfl⟩

def C4.j1 (L_0 : Option A2) (a_1 : List UInt8) (a_2 : List UInt8) (a_3 : AE) (x4 : Bool) : Option (Bool × (Option A2)) := (if x4 = true then some (false, L_0) else ((BB L_0 a_2 a_3.Dl a_3.CZ).bind fun r6 => (if (!r6.2.1) = true then some (false, r6.2.2) else ((BL r6.2.2 r6.1 a_3.Cc a_3.Dk).bind fun r9 => some (decide (r9.1 = a_1), r9.2)))))
def C4 (L_0 : Option A2) (a_1 : List UInt8) (a_2 : List UInt8) (a_3 : AE) : Option (Bool × (Option A2)) := (if (decide (a_3.Cc < (0 : Int))) = true then C4.j1 L_0 a_1 a_2 a_3 true else (if (decide ((15 : Int) < a_3.Cc)) = true then C4.j1 L_0 a_1 a_2 a_3 true else C4.j1 L_0 a_1 a_2 a_3 (!decide ((a_3.Dk.length : Int) = (4 : Int)))))
theorem Hg {p_0 : Value} {L_0 : Option A2} {a_1 : List UInt8} {a_2 : List UInt8} {a_3 : AE} {r : Bool × (Option A2)} (hF : C4 L_0 a_1 a_2 a_3 = some r) : AH prog KG 94 [(Az p_0), (Au [Af 32 a_1]), (Au [Af 32 a_2]), (Au (AE.ck a_3))] [(AZ p_0 L_0)] (fun _ => [AZ p_0 r.2]) (AL r.1) := by
 refine AH.intro 46 func94 rfl ntmps94 (Nat.le_of_ble_eq_true rfl) ?_
 intro c a w hG hn h
 unfold C4 at hF
 change AA c [.slot 0 (Az p_0), .slot 1 (Au [Af 32 a_1]), .slot 2 (Au [Af 32 a_2]), .slot 3 (Au (AE.ck a_3)), .res (AZ p_0 L_0)] a w at h
 refine As mixed hn hG h [0, 506, 504, 502, 4, 505, 503, 501] (ob [1] (Bc q0 (Ai _)) <| ob [2] (Bc q0 (Ai _)) <| ob [3] (Bc q0 (Ai _)) <| ov [] (Ae qb) .nil) fun b1 a w h => ?_
 refine wp_seq ?_
 refine wp_seq ?_
 refine wp_cut (fun a w => ∃ (x4 : Bool), C4.j1 L_0 a_1 a_2 a_3 x4 = some r ∧ AA c [.slot 0 (Az p_0), .slot 5 (Av (b1 0) 0), .slot 6 (Av (b1 1) 0), .slot 7 (Av (b1 2) 0), .slot 24 (AL x4), .res (AZ p_0 L_0), .res (lb (b1 0) 33 [Af 32 a_1]), .res (lb (b1 1) 33 [Af 32 a_2]), .res (lb (b1 2) 69 (AE.ck a_3))] a w) ?_ ?_
 ·rcases Bool.eq_false_or_eq_true (decide (a_3.Cc < (0 : Int))) with hb10 | hb10
  ·replace hF := CQ hb10 hF
   refine Cd mixed hn hG h [0, 1, 2, 3, 500, 4, 5, 6, 7] (ov [3] (Ad (p := (b1 2)) (n := 1) 0 0 underlying69 rfl sizeOf3 (by decide) q0 rfl) <| ov [500, 7] (Aj [] ((AE.ck a_3).drop 1) 1 isAgg3 q0 rfl rfl) <| ov [500] (Ak Bl q0 qi) <| ov [500] (Ab q0) <| oe [500] [] (AB.At (want := false) hb10 rfl rfl rfl rfl) <| oe [501] [] (AB.At (want := false) hb10 rfl rfl rfl rfl) <| oe [502] [] (AB.At (want := false) hb10 rfl rfl rfl rfl) <| ov [503] (AU hb10 q0 qb) <| ov [500] (Ab q0) <| oe [500] [] (AB.At (want := false) rfl rfl rfl rfl rfl) <| oe [501] [] (AB.At (want := false) rfl rfl rfl rfl rfl) <| oe [502] [] (AB.At (want := false) rfl rfl rfl rfl rfl) <| oe [503] [] (AB.At (want := false) rfl rfl rfl rfl rfl) <| ov [504] (AU rfl q0 qb) .nil) fun _ a w h => ?_
   exact ⟨true, hF, h.sub [0, 1, 2, 3, 4, 5, 6, 7, 8] (by rfl)⟩
  ·replace hF := CT hb10 hF
   rcases Bool.eq_false_or_eq_true (decide ((15 : Int) < a_3.Cc)) with hb11 | hb11
   ·replace hF := CQ hb11 hF
    refine Cd mixed hn hG h [0, 1, 2, 3, 500, 4, 5, 6, 7] (ov [3] (Ad (p := (b1 2)) (n := 1) 0 0 underlying69 rfl sizeOf3 (by decide) q0 rfl) <| ov [500, 7] (Aj [] ((AE.ck a_3).drop 1) 1 isAgg3 q0 rfl rfl) <| ov [500] (Ak Bl q0 qi) <| ov [500] (Ab q0) <| oe [500, 3] [] (AB.Aw hb10 rfl rfl rfl (Ad (p := (b1 2)) (n := 1) 0 0 underlying69 rfl sizeOf3 (by decide) q0 rfl)) <| oe [501, 500, 7] [] (AB.Aw hb10 rfl rfl rfl (Aj [] ((AE.ck a_3).drop 1) 1 isAgg3 q0 rfl rfl)) <| oe [502, 500] [] (AB.Aw hb10 rfl rfl rfl (Ak EW q0 qi)) <| ov [503, 500] (AV hb10 q0 q1) <| ov [500] (Ab q0) <| oe [500] [] (AB.At (want := false) hb11 rfl rfl rfl rfl) <| oe [501] [] (AB.At (want := false) hb11 rfl rfl rfl rfl) <| oe [502] [] (AB.At (want := false) hb11 rfl rfl rfl rfl) <| oe [503] [] (AB.At (want := false) hb11 rfl rfl rfl rfl) <| ov [504] (AU hb11 q0 qb) .nil) fun _ a w h => ?_
    exact ⟨true, hF, h.sub [0, 1, 2, 3, 4, 5, 6, 7, 8] (by rfl)⟩
   ·replace hF := CT hb11 hF
    refine Cd mixed hn hG h [0, 1, 2, 3, 500, 4, 5, 6, 7] (ov [3] (Ad (p := (b1 2)) (n := 1) 0 0 underlying69 rfl sizeOf3 (by decide) q0 rfl) <| ov [500, 7] (Aj [] ((AE.ck a_3).drop 1) 1 isAgg3 q0 rfl rfl) <| ov [500] (Ak Bl q0 qi) <| ov [500] (Ab q0) <| oe [500, 3] [] (AB.Aw hb10 rfl rfl rfl (Ad (p := (b1 2)) (n := 1) 0 0 underlying69 rfl sizeOf3 (by decide) q0 rfl)) <| oe [501, 500, 7] [] (AB.Aw hb10 rfl rfl rfl (Aj [] ((AE.ck a_3).drop 1) 1 isAgg3 q0 rfl rfl)) <| oe [502, 500] [] (AB.Aw hb10 rfl rfl rfl (Ak EW q0 qi)) <| ov [503, 500] (AV hb10 q0 q1) <| ov [500] (Ab q0) <| oe [500, 3] [] (AB.Aw hb11 rfl rfl rfl (Ad (p := (b1 2)) (n := 1) 0 3 underlying69 rfl sizeOf27 (by decide) q0 rfl)) <| oe [501, 500, 7] [] (AB.Aw hb11 rfl rfl rfl (Aj ((AE.ck a_3).take 3) [] 1 isAgg27 q0 rfl rfl)) <| oe [502, 500] [] (AB.Aw hb11 rfl rfl rfl (A6 underlying27 q0)) <| oe [503, 500] [] (AB.Aw hb11 rfl rfl rfl (Ak Bg q0 qi)) <| ov [504, 500] (AV hb11 q0 q1) .nil) fun _ a w h => ?_
    exact ⟨!decide ((a_3.Dk.length : Int) = (4 : Int)), hF, h.sub [0, 1, 2, 3, 4, 5, 6, 7, 8] (by rfl)⟩
 ·clear h hF
  rintro a w ⟨x4, hF, h⟩
  unfold C4.j1 at hF
  show Code.wp prog _ _ a w
  refine CC h hF 4 [5] [0, 1, 2, 3, 5, 6, 7, 8] (fun hb5 hF h => ?_) (fun hb5 hF h => ?_)
  ·refine As mixed hn hG h [500, 0] (ov [] (Ae qb) .nil) fun _ a w h => ?_
   refine wp_ret ?_
   obtain rfl := Option.some.inj hF
   exact ⟨.inl rfl, BW h results94 (Ba 0 rfl) [1] [(AZ p_0 L_0)] rfl rfl rfl⟩
  ·refine wp_skip ?_
   show Code.wp prog _ _ a w
   obtain ⟨r6, hr6, hF⟩ := bind_some hF
   refine As mixed hn hG h [0, 1, 3, 503, 500, 5, 7, 507, 501] (ov [0] (Ab q0) <| ov [2, 6] (An 1 isAgg33 sizeOf33 q0) <| ov [3] (Ad (p := (b1 2)) (n := 1) 0 1 underlying69 rfl sizeOf27 (by decide) q0 rfl) <| ov [500, 7] (Aj [one (Ag .i64 a_3.Cc)] ((AE.ck a_3).drop 2) 1 isAgg27 q0 rfl rfl) <| ov [3] (Ad (p := (b1 2)) (n := 1) 0 2 underlying69 rfl sizeOf27 (by decide) q0 rfl) <| ov [500, 7] (Aj ((AE.ck a_3).take 2) [one (AJ (dC 32) a_3.Dk)] 1 isAgg27 q0 rfl rfl) <| oc [505, 504, 502, 500] [4] call115 (JA hr6) ⟨q0, q1, q2, q3, trivial⟩ <| ov [501] (Ab q0) <| ov [500] (A5 q0 rfl) <| ov [501] (A5 q0 rfl) <| ob [] (AR zeroValue33 FT) <| og [501, 503] [500] [.res 10 100000 (fun v1_ _ => (lb (v1_) 33 [Af 32 r6.1]))] (AB.plain (Aq sizeOf33 q0 q1 (Ai _)) rfl) <| ov [503] (Ae q0) .nil) fun b7 a w h => ?_
   refine wp_seq ?_
   refine As mixed hn hG h [0, 1, 2, 3, 500, 5, 6, 7, 8] (ov [4] (Ab q0) <| ov [500] (EO (Ec _) q0) .nil) fun _ a w h => ?_
   refine CC h hF 4 [7] [0, 1, 2, 3, 5, 6, 7, 8] (fun hb8 hF h => ?_) (fun hb8 hF h => ?_)
   ·refine As mixed hn hG h [500, 0] (ov [] (Ae qb) .nil) fun _ a w h => ?_
    refine wp_ret ?_
    obtain rfl := Option.some.inj hF
    exact ⟨.inl rfl, BW h results94 (Ba 0 rfl) [1] [(AZ p_0 r6.2.2)] rfl rfl rfl⟩
   ·refine wp_skip ?_
    show Code.wp prog _ _ a w
    obtain ⟨r9, hr9, hF⟩ := bind_some hF
    refine As mixed hn hG h [500, 503] (ov [0] (Ab q0) <| ov [3, 7] (An 1 isAgg33 sizeOf33 q0) <| ov [2] (Ad (p := (b1 2)) (n := 1) 0 0 underlying69 rfl sizeOf3 (by decide) q0 rfl) <| ov [500, 5] (Aj [] ((AE.ck a_3).drop 1) 1 isAgg3 q0 rfl rfl) <| ov [2] (Ad (p := (b1 2)) (n := 1) 0 3 underlying69 rfl sizeOf27 (by decide) q0 rfl) <| ov [500, 5] (Aj ((AE.ck a_3).take 3) [] 1 isAgg27 q0 rfl rfl) <| oc [505, 504, 502, 500] [6] call116 (J7 hr9) ⟨q0, q1, q2, q3, trivial⟩ <| ov [1, 4] (An 1 isAgg33 sizeOf33 q0) <| ov [502, 500] (Ak (EF underlying33 underlying5 type5 sizeOf5 isAgg5 eqGuardType33) q0 q1) <| ov [500] (Ae q0) .nil) fun _ a w h => ?_
    refine wp_ret ?_
    obtain rfl := Option.some.inj hF
    exact ⟨.inl rfl, BW h results94 (Ba 0 rfl) [1] [(AZ p_0 r9.2)] rfl rfl rfl⟩

def FN (L_0 : Option A2) (a_1 : Int) (a_2 : List UInt8) (a_3 : List UInt8) : Option ((List UInt8) × (Option A2)) := ((CK (IntKind.wrap .u64 a_1) 4).bind fun r4 => ((Dr a_2).bind fun r5 => ((Dr a_3).bind fun r6 => ((DB L_0 7 [r4, r5, r6]).bind fun r7 => some (r7.1, r7.2)))))
theorem J4 {p_0 : Value} {L_0 : Option A2} {a_1 : Int} {a_2 : List UInt8} {a_3 : List UInt8} {r : (List UInt8) × (Option A2)} (hF : FN L_0 a_1 a_2 a_3 = some r) : AH prog KG 95 [(Az p_0), (Ag .u32 a_1), (Au [Af 32 a_2]), (Au [Af 32 a_3])] [(AZ p_0 L_0)] (fun _ => [AZ p_0 r.2]) (Au [Af 32 r.1]) := by
 refine AH.intro 19 func95 rfl ntmps95 (Nat.le_of_ble_eq_true rfl) ?_
 intro c a w hG hn h
 unfold FN at hF
 change AA c [.slot 0 (Az p_0), .slot 1 (Ag .u32 a_1), .slot 2 (Au [Af 32 a_2]), .slot 3 (Au [Af 32 a_3]), .res (AZ p_0 L_0)] a w at h
 refine As mixed hn hG h [0, 1, 505, 503, 501, 4, 504, 502, 500] (ob [2] (Bc q0 (Ai _)) <| ob [3] (Bc q0 (Ai _)) <| ob [] (AR zeroValue33 FT) .nil) fun b1 a w h => ?_
 obtain ⟨r4, hr4, hF⟩ := bind_some hF
 obtain ⟨r5, hr5, hF⟩ := bind_some hF
 obtain ⟨r6, hr6, hF⟩ := bind_some hF
 obtain ⟨r7, hr7, hF⟩ := bind_some hF
 refine As mixed hn hG h [4, 500, 501] (ov [0] (Ab q0) <| ov [1] (Ab q0) <| ov [500] (A3 underlying29 underlying24 q0) <| oc [500] [] call73 (Em hr4) ⟨q0, qi, trivial⟩ <| ov [2, 6] (An 1 isAgg33 sizeOf33 q0) <| oc [500] [] call104 (Dj hr5) ⟨q0, trivial⟩ <| ov [3, 7] (An 1 isAgg33 sizeOf33 q0) <| oc [500] [] call104 (Dj hr6) ⟨q0, trivial⟩ <| ov [504, 502, 500] (CP (xs := [.tmp 12, .tmp 14, .tmp 16]) (ys := [r4, r5, r6]) _ rfl underlying22 sizeOf9 zeroValue9 rfl rfl (by decide) (by decide) ⟨⟨_, q0, (AG (CD _))⟩, ⟨_, q1, (AG (CD _))⟩, ⟨_, q2, (AG (CD _))⟩, trivial⟩ CF) <| oc [508, 500] [5] call33 (D5 hr7) ⟨q0, qi, q1, trivial⟩ <| ou [4, 501] 8 (Aq sizeOf33 q0 q1 (Ai _)) .nil) fun _ a w h => ?_
 refine wp_ret ?_
 obtain rfl := Option.some.inj hF
 exact ⟨.inl rfl, BW h results95 (Be 0 1 rfl rfl isAgg33 sizeOf33 rfl) [2] [(AZ p_0 r7.2)] rfl rfl rfl⟩

def FL (L_0 : Option A2) (a_1 : List UInt8) (a_2 : AI) : Option (Bool × (Option A2)) := ((FN L_0 a_2.B0 a_2.Eu a_2.BN).bind fun r3 => ((C4 r3.2 a_1 r3.1 a_2.C1).bind fun r4 => some (r4.1, r4.2)))
theorem J2 {p_0 : Value} {L_0 : Option A2} {a_1 : List UInt8} {a_2 : AI} {r : Bool × (Option A2)} (hF : FL L_0 a_1 a_2 = some r) : AH prog KG 53 [(Az p_0), (Au [Af 32 a_1]), (Au (AI.ck a_2))] [(AZ p_0 L_0)] (fun _ => [AZ p_0 r.2]) (AL r.1) := by
 refine AH.intro 20 func53 rfl ntmps53 (Nat.le_of_ble_eq_true rfl) ?_
 intro c a w hG hn h
 unfold FL at hF
 change AA c [.slot 0 (Az p_0), .slot 1 (Au [Af 32 a_1]), .slot 2 (Au (AI.ck a_2)), .res (AZ p_0 L_0)] a w at h
 refine As mixed hn hG h [0, 504, 502, 3, 503, 501] (ob [1] (Bc q0 (Ai _)) <| ob [2] (Bc q0 (Ai _)) <| ov [] (Ae qb) .nil) fun b1 a w h => ?_
 obtain ⟨r3, hr3, hF⟩ := bind_some hF
 obtain ⟨r4, hr4, hF⟩ := bind_some hF
 refine As mixed hn hG h [500, 501] (ov [0] (Ab q0) <| ov [1, 4] (An 1 isAgg33 sizeOf33 q0) <| ov [0] (Ab q0) <| ov [2] (Ad (p := (b1 1)) (n := 1) 0 0 underlying71 rfl sizeOf29 (by decide) q0 rfl) <| ov [500, 5] (Aj [] ((AI.ck a_2).drop 1) 1 isAgg29 q0 rfl rfl) <| ov [2] (Ad (p := (b1 1)) (n := 32) 0 1 underlying71 rfl sizeOf33 (by decide) q0 rfl) <| ov [500, 5] (AT [one (Ag .u32 a_2.B0)] [Af 32 a_2.Eu] ((AI.ck a_2).drop 2) 1 isAgg33 sizeOf33 q0 rfl rfl rfl) <| ov [2] (Ad (p := (b1 1)) (n := 32) 0 33 underlying71 rfl sizeOf33 (by decide) q0 rfl) <| ov [500, 5] (AT ((AI.ck a_2).take 2) [Af 32 a_2.BN] (AE.ck a_2.C1) 1 isAgg33 sizeOf33 q0 rfl rfl rfl) <| oc [506, 504, 502, 500] [3] call95 (J4 hr3) ⟨q0, q1, q2, q3, trivial⟩ <| ov [2] (Ad (p := (b1 1)) (n := 4) 0 65 underlying71 rfl sizeOf69 (by decide) q0 rfl) <| ov [500, 5] (AT ((AI.ck a_2).take 3) (AE.ck a_2.C1) [] 1 isAgg69 sizeOf69 q0 rfl rfl rfl) <| oc [512, 511, 503, 500] [502] call94 (Hg hr4) ⟨q0, q1, q2, q3, trivial⟩ <| ov [501] (Ae q0) .nil) fun _ a w h => ?_
 refine wp_ret ?_
 obtain rfl := Option.some.inj hF
 exact ⟨.inl rfl, BW h results53 (Ba 0 rfl) [1] [(AZ p_0 r4.2)] rfl rfl rfl⟩

def BA.b1 (a_0 : Aa) (a_1 : List UInt8) (a_2 : Int) (x8 : Int) : Option (Cn Int Int) := (if (decide (x8 < (a_0.Ay.length : Int))) = true then (if (0 : Int) ≤ x8 ∧ x8 < a_0.Ay.length then (if (decide (((a_0.Ay.getD x8.toNat default).Bt) = a_1)) = true then (if (decide (a_2 < ((a_0.Ay.getD x8.toNat default).GU))) = true then some (.ret 36) else some (.ret 0)) else some (.cont (IntKind.wrap .i64 (x8 + 1)))) else none) else some (.brk x8))
def BA (a_0 : Aa) (a_1 : List UInt8) (a_2 : Int) : Option Int := ((Bu (fun s : Int => BA.b1 a_0 a_1 a_2 s) (((a_0.Ay.length : Int) - 0 : Int).toNat + 2) 0).bind fun cr => match cr with | .ret r => some r | .next y24 => some 31)
theorem FW {a_0 : Aa} {a_1 : List UInt8} {a_2 : Int} {r : Int} (hF : BA a_0 a_1 a_2 = some r) : AH prog KG 54 [(Au (Aa.ck a_0)), (Au [Af 32 a_1]), (Ag .u64 a_2)] [] (fun _ => []) (Ag .i64 r) := by
 refine AH.intro 25 func54 rfl ntmps54 (Nat.le_of_ble_eq_true rfl) ?_
 intro c a w hG hn h
 unfold BA at hF
 change AA c [.slot 0 (Au (Aa.ck a_0)), .slot 1 (Au [Af 32 a_1]), .slot 2 (Ag .u64 a_2)] a w at h
 refine As mixed hn hG h [2, 504, 502, 503, 501] (ob [0] (Bc q0 (Ai _)) <| ob [1] (Bc q0 (Ai _)) <| ov [] (Ae qi) .nil) fun b1 a w h => ?_
 refine wp_seq ?_
 refine As mixed hn hG h [0, 2, 502, 501, 500, 4] (ov [1] (Ad (p := (b1 0)) (n := 1) 0 68 underlying41 rfl sizeOf38 (by decide) q0 rfl) <| ov [500, 3] (Aj ((Aa.ck a_0).take 6) ((Aa.ck a_0).drop 7) 1 isAgg38 q0 rfl rfl) <| ov [500] (A6 underlying38 q0) <| ov [] (Ab qi) .nil) fun _ a w h => ?_
 refine wp_block ?_
 obtain ⟨cr20, hl21, hF⟩ := bind_some hF
 refine wp_mono (Bx (R := Int) (S := Int) (fun s a w => AA c [.slot 2 (Ag .u64 a_2), .slot 4 (Av (b1 1) 0), .slot 10 (AJ Ao.ck a_0.Ay), .slot 11 (Ag .i64 (a_0.Ay.length : Int)), .slot 12 (Ag .i64 s), .res (lb (b1 1) 33 [Af 32 a_1])] a w) (fun res e a w => match res with | .next s => e = .exit 0 ∧ AA c [] a w | .ret r => e = .ret ∧ Cu prog f54 c (Ag .i64 r) (fun _ => []) a w) ?_ _ 0 _ _ _ (h.sub [0, 1, 2, 3, 4, 5] (by rfl)) hl21) ?_
 ·clear hl21 hF h
  intro x8 a w o h hF
  change BA.b1 a_0 a_1 a_2 x8 = some o at hF
  unfold BA.b1 at hF
  change AA c [.slot 2 (Ag .u64 a_2), .slot 4 (Av (b1 1) 0), .slot 10 (AJ Ao.ck a_0.Ay), .slot 11 (Ag .i64 (a_0.Ay.length : Int)), .slot 12 (Ag .i64 x8), .res (lb (b1 1) 33 [Af 32 a_1])] a w at h
  refine As mixed hn hG h [0, 1, 2, 3, 4, 500, 5] (ov [4, 3] (Ak Bl q0 q1) .nil) fun _ a w h => ?_
  refine wp_seq ?_
  refine CC h hF 5 [0, 1, 2, 3, 4, 6] [0, 1, 2, 3, 4, 6] (fun hb15 hF h => ?_) (fun hb15 hF h => ?_)
  ·refine wp_skip ?_
   show Code.wp prog _ _ a w
   refine wp_seq ?_
   refine wp_block ?_
   obtain ⟨hv16, hF⟩ := AF hF
   refine As mixed hn hG h [0, 1, 502, 2, 3, 4, 5, 500] (ov [2, 4] (AS underlying38 sizeOf37 Ao.lens q0 q1 hv16) <| ov [500] (Bq (Ao.ck (a_0.Ay.getD x8.toNat default)) [] isAgg37 sizeOf37 q0 rfl) <| ob [] (AR zeroValue37 z37) <| og [501, 502] [500] [.res 2 100000 (fun v1_ _ => (lb (v1_) 37 (Ao.ck (a_0.Ay.getD x8.toNat default))))] (AB.plain (Aq sizeOf37 q0 q1 (Ai _)) rfl) .nil) fun b17 a w h => ?_
   refine As mixed hn hG h [0, 1, 2, 3, 4, 5, 500, 6, 7] (ov [2] (Ad (p := (b17 2)) (n := 32) 0 0 underlying37 rfl sizeOf33 (by decide) q0 rfl) <| ov [500, 7] (AT [] [Af 32 ((a_0.Ay.getD x8.toNat default).Bt)] [one (Ag .u64 ((a_0.Ay.getD x8.toNat default).GU))] 1 isAgg33 sizeOf33 q0 rfl rfl rfl) <| ov [1, 6] (An 1 isAgg33 sizeOf33 q0) <| ov [501, 500] (Ak (EF underlying33 underlying5 type5 sizeOf5 isAgg5 eqGuardType33) q0 q1) .nil) fun _ a w h => ?_
   refine CC h hF 6 [0, 2, 8] [0, 1, 3, 4, 5, 7] (fun hb18 hF h => ?_) (fun hb18 hF h => ?_)
   ·refine wp_seq ?_
    refine As mixed hn hG h [500] (ov [1] (Ad (p := (b17 2)) (n := 1) 0 32 underlying37 rfl sizeOf24 (by decide) q0 rfl) <| ov [500, 2] (Aj [Af 32 ((a_0.Ay.getD x8.toNat default).Bt)] [] 1 isAgg24 q0 rfl rfl) <| ov [0] (Ab q0) <| ov [501, 500] (Ak EW q0 q1) .nil) fun _ a w h => ?_
    refine CC h hF 0 [] [] (fun hb19 hF h => ?_) (fun hb19 hF h => ?_)
    ·refine As mixed hn hG h [500] (ov [] (Ae qi) .nil) fun _ a w h => ?_
     refine wp_ret ?_
     obtain rfl := Option.some.inj hF
     exact ⟨EA, rfl, BW h results54 (Ba 0 rfl) [] [] rfl rfl rfl⟩
    ·refine wp_skip ?_
     show Code.wp prog _ _ a w
     refine As mixed hn hG h [500] (ov [] (Ae qi) .nil) fun _ a w h => ?_
     refine wp_ret ?_
     obtain rfl := Option.some.inj hF
     exact ⟨EA, rfl, BW h results54 (Ba 0 rfl) [] [] rfl rfl rfl⟩
   ·refine wp_skip ?_
    show Code.wp prog _ _ a w
    refine Cd mixed hn hG h [0, 1, 2, 3, 500, 5] (ov [4] (Ak A9 q0 qi) <| od [500] 4 (Ab q0) .nil) fun _ a w h => ?_
    obtain rfl := Option.some.inj hF
    exact ⟨rfl, h.sub [0, 1, 2, 3, 4, 5] (by rfl)⟩
  ·refine wp_exit ?_
   obtain rfl := Option.some.inj hF
   exact ⟨BK _, rfl, h.sub [] (by rfl)⟩
 ·clear hl21
  intro e a w hq
  cases cr20 with
  | ret r22 =>
   obtain ⟨rfl, hq⟩ := hq
   obtain rfl := Option.some.inj hF
   exact ⟨.inl rfl, hq⟩
  | next y24 =>
   obtain ⟨rfl, h⟩ := hq
   change AA c [] a w at h
   refine Bd ?_
   show Code.wp prog _ _ a w
   refine As mixed hn hG h [500] (ov [] (Ae qi) .nil) fun _ a w h => ?_
   refine wp_ret ?_
   obtain rfl := Option.some.inj hF
   exact ⟨.inl rfl, BW h results54 (Ba 0 rfl) [] [] rfl rfl rfl⟩

def HK (a_0 : Int) (a_1 : Int) : Option (Int × Int) := (if (decide ((IntKind.wrap .u64 (18446744073709551615 - a_1)) < a_0)) = true then some (0, 10) else some (IntKind.wrap .u64 (a_0 + a_1), 0))
theorem Ls {a_0 : Int} {a_1 : Int} {r : Int × Int} (hF : HK a_0 a_1 = some r) : AH prog KG 55 [(Ag .u64 a_0), (Ag .u64 a_1)] [] (fun _ => []) (Db [(Ag .u64 r.1), (Ag .i64 r.2)]) := by
 refine AH.intro 13 func55 rfl ntmps55 (Nat.le_of_ble_eq_true rfl) ?_
 intro c a w hG hn h
 unfold HK at hF
 change AA c [.slot 0 (Ag .u64 a_0), .slot 1 (Ag .u64 a_1)] a w at h
 refine As mixed hn hG h [0, 1] (ov [] (Ae qi) <| ov [] (Ae qi) .nil) fun _ a w h => ?_
 refine wp_seq ?_
 refine As mixed hn hG h [0, 1, 500] (ov [0] (Ab q0) <| ov [1] (Ab q0) <| ov [500] (Ak CX qi q0) <| ov [502, 500] (Ak EW q0 q1) .nil) fun _ a w h => ?_
 refine CC h hF 2 [] [0, 1] (fun hb1 hF h => ?_) (fun hb1 hF h => ?_)
 ·refine As mixed hn hG h [501, 500] (ov [] (Ae qi) <| ov [] (Ae qi) .nil) fun _ a w h => ?_
  refine wp_ret ?_
  obtain rfl := Option.some.inj hF
  exact ⟨.inl rfl, CJ h (rs := [.tmp 4, .tmp 5]) (Vs := [(Ag .u64 0), (Ag .i64 10)]) results55 (by decide) ⟨(Ba 0 rfl), (Ba 1 rfl), trivial⟩ [] [] rfl rfl rfl⟩
 ·refine wp_skip ?_
  show Code.wp prog _ _ a w
  refine As mixed hn hG h [501, 500] (ov [0] (Ab q0) <| ov [1] (Ab q0) <| ov [501, 500] (Ak A9 q0 q1) <| ov [500] (Ae q0) <| ov [] (Ae qi) .nil) fun _ a w h => ?_
  refine wp_ret ?_
  obtain rfl := Option.some.inj hF
  exact ⟨.inl rfl, CJ h (rs := [.tmp 4, .tmp 5]) (Vs := [(Ag .u64 (IntKind.wrap .u64 (a_0 + a_1))), (Ag .i64 0)]) results55 (by decide) ⟨(Ba 0 rfl), (Ba 1 rfl), trivial⟩ [] [] rfl rfl rfl⟩

def Bf.j3 (x34 : Int) (x35 : List (Ao)) (x53 : Bool) (x54 : Ao) : Option (Cn (Aa × Int × (Option A2)) (Bool × Int × (List (Ao)))) := (if x35.length + [x54].length ≤ CW ∧ (x35.length + [x54].length) * 40 ≤ 140737488355328 then some (.cont (x53, IntKind.wrap .i64 (x34 + 1), x35 ++ [x54])) else none)
def Bf.j2 (a_1 : Aa) (r13 : Int × Int) (x33 : Bool) (x34 : Int) (x35 : List (Ao)) (x52 : Bool) : Option (Cn (Aa × Int × (Option A2)) (Bool × Int × (List (Ao)))) := (if x52 = true then Bf.j3 x34 x35 true (Ao.mk ((a_1.Ay.getD x34.toNat default).Bt) r13.1) else Bf.j3 x34 x35 x33 (a_1.Ay.getD x34.toNat default))
def Bf.b1 (a_1 : Aa) (a_3 : AI) (r13 : Int × Int) (x33 : Bool) (x34 : Int) (x35 : List (Ao)) : Option (Cn (Aa × Int × (Option A2)) (Bool × Int × (List (Ao)))) := (if (decide (x34 < (a_1.Ay.length : Int))) = true then (if (0 : Int) ≤ x34 ∧ x34 < a_1.Ay.length then (if (decide (((a_1.Ay.getD x34.toNat default).Bt) = a_3.BN)) = true then Bf.j2 a_1 r13 x33 x34 x35 (!x33) else Bf.j2 a_1 r13 x33 x34 x35 false) else none) else some (.brk (x33, x34, x35)))
def Bf.j4 (a_1 : Aa) (a_3 : AI) (r8 : Bool × (Option A2)) (x68 : List (Ao)) : Option (Aa × Int × (Option A2)) := some ((Aa.mk a_1.AX a_1.BC a_1.AQ a_1.AP a_1.A4 a_3.BN x68 a_1.Ah a_1.Bj a_1.BR), 0, r8.2)
def Bf.j1 (a_1 : Aa) (a_2 : Int) (a_3 : AI) (r8 : Bool × (Option A2)) (x11 : Bool) : Option (Aa × Int × (Option A2)) := (if x11 = true then some (a_1, 6, r8.2) else ((HK a_2 a_1.A4).bind fun r13 => (if (!decide (r13.2 = (0 : Int))) = true then some (a_1, 10, r8.2) else ((Bu (fun s : Bool × Int × (List (Ao)) => Bf.b1 a_1 a_3 r13 s.1 s.2.1 s.2.2) (((a_1.Ay.length : Int) - 0 : Int).toNat + 2) (false, 0, [])).bind fun cr => match cr with | .ret r => some r | .next (y63, y64, y65) => (if (!y63) = true then (if y65.length + [(Ao.mk a_3.BN r13.1)].length ≤ CW ∧ (y65.length + [(Ao.mk a_3.BN r13.1)].length) * 40 ≤ 140737488355328 then Bf.j4 a_1 a_3 r8 (y65 ++ [(Ao.mk a_3.BN r13.1)]) else none) else Bf.j4 a_1 a_3 r8 y65)))))
def Bf (L_0 : Option A2) (a_1 : Aa) (a_2 : Int) (a_3 : AI) : Option (Aa × Int × (Option A2)) := (if a_1.Bj = true then some (a_1, 30, L_0) else (if a_1.BR = true then some (a_1, 34, L_0) else (if (!decide (a_3.B0 = a_1.AX)) = true then some (a_1, 38, L_0) else (if (!decide (a_3.Eu = a_1.AN)) = true then some (a_1, 32, L_0) else ((FL L_0 a_1.AQ a_3).bind fun r8 => (if (!r8.1) = true then some (a_1, 21, r8.2) else ((BA a_1 a_3.BN a_2).bind fun r10 => (if (!(!decide (r10 = (31 : Int)))) = true then Bf.j1 a_1 a_2 a_3 r8 (decide ((255 : Int) < (a_1.Ay.length : Int))) else Bf.j1 a_1 a_2 a_3 r8 false))))))))
theorem Hf {p_0 : Value} {L_0 : Option A2} {a_1 : Aa} {a_2 : Int} {a_3 : AI} {r : Aa × Int × (Option A2)} (hF : Bf L_0 a_1 a_2 a_3 = some r) : AH prog KG 21 [(Az p_0), (Au (Aa.ck a_1)), (Ag .u64 a_2), (Au (AI.ck a_3))] [(AZ p_0 L_0)] (fun _ => [AZ p_0 r.2.2]) (Db [(Au (Aa.ck r.1)), (Ag .i64 r.2.1)]) := by
 refine AH.intro 105 func21 rfl ntmps21 (Nat.le_of_ble_eq_true rfl) ?_
 intro c a w hG hn h
 unfold Bf at hF
 change AA c [.slot 0 (Az p_0), .slot 1 (Au (Aa.ck a_1)), .slot 2 (Ag .u64 a_2), .slot 3 (Au (AI.ck a_3)), .res (AZ p_0 L_0)] a w at h
 refine As mixed hn hG h [0, 2, 506, 504, 502, 4, 505, 503, 501] (ob [1] (Bc q0 (Ai _)) <| ob [3] (Bc q0 (Ai _)) <| ob [] (AR zeroValue41 MN) <| ov [] (Ae qi) .nil) fun b1 a w h => ?_
 refine wp_seq ?_
 refine As mixed hn hG h [0, 1, 2, 3, 4, 500, 5, 6, 7, 8] (ov [2] (Ad (p := (b1 0)) (n := 1) 0 70 underlying41 rfl sizeOf4 (by decide) q0 rfl) <| ov [500, 6] (Aj ((Aa.ck a_1).take 8) [one (AL a_1.BR)] 1 isAgg4 q0 rfl rfl) .nil) fun _ a w h => ?_
 refine CC h hF 5 [2, 4, 6, 7, 9] [0, 1, 2, 3, 4, 6, 7, 8, 9] (fun hb4 hF h => ?_) (fun hb4 hF h => ?_)
 ·refine As mixed hn hG h [1, 500, 2, 501] (ov [0, 3] (An 1 isAgg41 sizeOf41 q0) <| ou [1, 500] 4 (Aq sizeOf41 q0 q1 (Ai _)) <| ov [] (Ae qi) .nil) fun _ a w h => ?_
  refine wp_ret ?_
  obtain rfl := Option.some.inj hF
  exact ⟨.inl rfl, CJ h (rs := [.cell 8 41, .tmp 9]) (Vs := [(Au (Aa.ck a_1)), (Ag .i64 30)]) results21 (by decide) ⟨(Be 0 3 rfl rfl isAgg41 sizeOf41 rfl), (Ba 1 rfl), trivial⟩ [2] [(AZ p_0 L_0)] rfl rfl rfl⟩
 ·refine wp_skip ?_
  show Code.wp prog _ _ a w
  refine wp_seq ?_
  refine As mixed hn hG h [0, 1, 2, 3, 4, 500, 5, 6, 7, 8] (ov [2] (Ad (p := (b1 0)) (n := 1) 0 71 underlying41 rfl sizeOf4 (by decide) q0 rfl) <| ov [500, 6] (Aj ((Aa.ck a_1).take 9) [] 1 isAgg4 q0 rfl rfl) .nil) fun _ a w h => ?_
  refine CC h hF 5 [2, 4, 6, 7, 9] [0, 1, 2, 3, 4, 6, 7, 8, 9] (fun hb5 hF h => ?_) (fun hb5 hF h => ?_)
  ·refine As mixed hn hG h [1, 500, 2, 501] (ov [0, 3] (An 1 isAgg41 sizeOf41 q0) <| ou [1, 500] 4 (Aq sizeOf41 q0 q1 (Ai _)) <| ov [] (Ae qi) .nil) fun _ a w h => ?_
   refine wp_ret ?_
   obtain rfl := Option.some.inj hF
   exact ⟨.inl rfl, CJ h (rs := [.cell 8 41, .tmp 9]) (Vs := [(Au (Aa.ck a_1)), (Ag .i64 34)]) results21 (by decide) ⟨(Be 0 3 rfl rfl isAgg41 sizeOf41 rfl), (Ba 1 rfl), trivial⟩ [2] [(AZ p_0 L_0)] rfl rfl rfl⟩
  ·refine wp_skip ?_
   show Code.wp prog _ _ a w
   refine wp_seq ?_
   refine As mixed hn hG h [0, 1, 2, 3, 4, 500, 5, 6, 7, 8] (ov [3] (Ad (p := (b1 1)) (n := 1) 0 0 underlying71 rfl sizeOf29 (by decide) q0 rfl) <| ov [500, 7] (Aj [] ((AI.ck a_3).drop 1) 1 isAgg29 q0 rfl rfl) <| ov [2] (Ad (p := (b1 0)) (n := 1) 0 0 underlying41 rfl sizeOf29 (by decide) q0 rfl) <| ov [500, 6] (Aj [] ((Aa.ck a_1).drop 1) 1 isAgg29 q0 rfl rfl) <| ov [502, 500] (Ak Bg q0 q1) .nil) fun _ a w h => ?_
   refine CC h hF 5 [2, 4, 6, 7, 9] [0, 1, 2, 3, 4, 6, 7, 8, 9] (fun hb6 hF h => ?_) (fun hb6 hF h => ?_)
   ·refine As mixed hn hG h [1, 500, 2, 501] (ov [0, 3] (An 1 isAgg41 sizeOf41 q0) <| ou [1, 500] 4 (Aq sizeOf41 q0 q1 (Ai _)) <| ov [] (Ae qi) .nil) fun _ a w h => ?_
    refine wp_ret ?_
    obtain rfl := Option.some.inj hF
    exact ⟨.inl rfl, CJ h (rs := [.cell 8 41, .tmp 9]) (Vs := [(Au (Aa.ck a_1)), (Ag .i64 38)]) results21 (by decide) ⟨(Be 0 3 rfl rfl isAgg41 sizeOf41 rfl), (Ba 1 rfl), trivial⟩ [2] [(AZ p_0 L_0)] rfl rfl rfl⟩
   ·refine wp_skip ?_
    show Code.wp prog _ _ a w
    refine wp_seq ?_
    refine As mixed hn hG h [0, 1, 2, 3, 4, 500, 5, 6, 7, 8] (ov [3] (Ad (p := (b1 1)) (n := 32) 0 1 underlying71 rfl sizeOf33 (by decide) q0 rfl) <| ov [500, 7] (AT [one (Ag .u32 a_3.B0)] [Af 32 a_3.Eu] ((AI.ck a_3).drop 2) 1 isAgg33 sizeOf33 q0 rfl rfl rfl) <| ov [2] (Ad (p := (b1 0)) (n := 32) 0 36 underlying41 rfl sizeOf33 (by decide) q0 rfl) <| ov [500, 6] (AT ((Aa.ck a_1).take 5) [Af 32 a_1.AN] ((Aa.ck a_1).drop 6) 1 isAgg33 sizeOf33 q0 rfl rfl rfl) <| ov [502, 500] (Ak (Dm underlying33 underlying5 type5 sizeOf5 isAgg5 eqGuardType33) q0 q1) .nil) fun _ a w h => ?_
    refine CC h hF 5 [2, 4, 6, 7, 9] [0, 1, 2, 3, 4, 6, 7, 8, 9] (fun hb7 hF h => ?_) (fun hb7 hF h => ?_)
    ·refine As mixed hn hG h [1, 500, 2, 501] (ov [0, 3] (An 1 isAgg41 sizeOf41 q0) <| ou [1, 500] 4 (Aq sizeOf41 q0 q1 (Ai _)) <| ov [] (Ae qi) .nil) fun _ a w h => ?_
     refine wp_ret ?_
     obtain rfl := Option.some.inj hF
     exact ⟨.inl rfl, CJ h (rs := [.cell 8 41, .tmp 9]) (Vs := [(Au (Aa.ck a_1)), (Ag .i64 32)]) results21 (by decide) ⟨(Be 0 3 rfl rfl isAgg41 sizeOf41 rfl), (Ba 1 rfl), trivial⟩ [2] [(AZ p_0 L_0)] rfl rfl rfl⟩
    ·refine wp_skip ?_
     show Code.wp prog _ _ a w
     refine wp_seq ?_
     obtain ⟨r8, hr8, hF⟩ := bind_some hF
     refine As mixed hn hG h [1, 2, 3, 4, 500, 6, 7, 8, 501] (ov [0] (Ab q0) <| ov [2] (Ad (p := (b1 0)) (n := 32) 0 2 underlying41 rfl sizeOf33 (by decide) q0 rfl) <| ov [500, 6] (AT ((Aa.ck a_1).take 2) [Af 32 a_1.AQ] ((Aa.ck a_1).drop 3) 1 isAgg33 sizeOf33 q0 rfl rfl rfl) <| ov [3, 7] (An 1 isAgg71 sizeOf71 q0) <| oc [503, 501, 500] [5] call53 (J2 hr8) ⟨q0, q1, q2, trivial⟩ <| ov [501] (EO (Ec _) q0) .nil) fun _ a w h => ?_
     refine CC h hF 4 [1, 3, 5, 7, 8] [0, 1, 2, 3, 5, 6, 7, 8] (fun hb9 hF h => ?_) (fun hb9 hF h => ?_)
     ·refine As mixed hn hG h [1, 500, 501, 4] (ov [0, 2] (An 1 isAgg41 sizeOf41 q0) <| ou [1, 500] 3 (Aq sizeOf41 q0 q1 (Ai _)) <| ov [] (Ae qi) .nil) fun _ a w h => ?_
      refine wp_ret ?_
      obtain rfl := Option.some.inj hF
      exact ⟨.inl rfl, CJ h (rs := [.cell 8 41, .tmp 9]) (Vs := [(Au (Aa.ck a_1)), (Ag .i64 21)]) results21 (by decide) ⟨(Be 0 2 rfl rfl isAgg41 sizeOf41 rfl), (Ba 1 rfl), trivial⟩ [3] [(AZ p_0 r8.2)] rfl rfl rfl⟩
     ·refine wp_skip ?_
      show Code.wp prog _ _ a w
      obtain ⟨r10, hr10, hF⟩ := bind_some hF
      refine As mixed hn hG h [0, 1, 2, 3, 500, 4, 5, 6, 7] (ov [1, 4] (An 1 isAgg41 sizeOf41 q0) <| ov [2] (Ad (p := (b1 1)) (n := 32) 0 33 underlying71 rfl sizeOf33 (by decide) q0 rfl) <| ov [500, 5] (AT ((AI.ck a_3).take 2) [Af 32 a_3.BN] (AE.ck a_3.C1) 1 isAgg33 sizeOf33 q0 rfl rfl rfl) <| ov [0] (Ab q0) <| oc [503, 501, 500] [] call54 (FW hr10) ⟨q0, q1, q2, trivial⟩ <| ov [500] (Ak Bg q0 qi) <| ov [500] (Ae q0) .nil) fun _ a w h => ?_
      refine wp_seq ?_
      refine wp_seq ?_
      refine wp_cut (fun a w => ∃ (x11 : Bool), Bf.j1 a_1 a_2 a_3 r8 x11 = some r ∧ AA c [.slot 2 (Ag .u64 a_2), .slot 5 (Av (b1 0) 0), .slot 7 (Av (b1 1) 0), .slot 8 (Av (b1 2) 0), .slot 55 (AL x11), .res (lb (b1 0) 41 (Aa.ck a_1)), .res (lb (b1 1) 71 (AI.ck a_3)), .res (lb (b1 2) 41 (Aa.ck (Aa.mk (0 : Int) (0 : Int) (List.replicate 32 0) [] (0 : Int) (List.replicate 32 0) [] [] false false))), .res (AZ p_0 r8.2)] a w) ?_ ?_
      ·rcases Bool.eq_false_or_eq_true (!(!decide (r10 = (31 : Int)))) with hb73 | hb73
       ·replace hF := CQ hb73 hF
        refine Cd mixed hn hG h [0, 1, 2, 3, 500, 5, 6, 7, 8] (ov [4] (Ab q0) <| ov [500] (EO (Ec _) q0) <| ov [500] (Ab q0) <| oe [500, 1] [] (AB.Aw hb73 rfl rfl rfl (Ad (p := (b1 0)) (n := 1) 0 68 underlying41 rfl sizeOf38 (by decide) q0 rfl)) <| oe [501, 500, 5] [] (AB.Aw hb73 rfl rfl rfl (Aj ((Aa.ck a_1).take 6) ((Aa.ck a_1).drop 7) 1 isAgg38 q0 rfl rfl)) <| oe [502, 500] [] (AB.Aw hb73 rfl rfl rfl (A6 underlying38 q0)) <| oe [503, 500] [] (AB.Aw hb73 rfl rfl rfl (Ak EW q0 qi)) <| ov [504, 500] (AU hb73 q0 q1) .nil) fun _ a w h => ?_
        exact ⟨decide ((255 : Int) < (a_1.Ay.length : Int)), hF, h.sub [0, 1, 2, 3, 4, 5, 6, 7, 8] (by rfl)⟩
       ·replace hF := CT hb73 hF
        refine Cd mixed hn hG h [0, 1, 2, 3, 500, 5, 6, 7, 8] (ov [4] (Ab q0) <| ov [500] (EO (Ec _) q0) <| ov [500] (Ab q0) <| oe [500] [] (AB.At (want := true) hb73 rfl rfl rfl rfl) <| oe [501] [] (AB.At (want := true) hb73 rfl rfl rfl rfl) <| oe [502] [] (AB.At (want := true) hb73 rfl rfl rfl rfl) <| oe [503] [] (AB.At (want := true) hb73 rfl rfl rfl rfl) <| ov [504] (AV hb73 q0 qb) .nil) fun _ a w h => ?_
        exact ⟨false, hF, h.sub [0, 1, 2, 3, 4, 5, 6, 7, 8] (by rfl)⟩
      ·clear h hF
       rintro a w ⟨x11, hF, h⟩
       unfold Bf.j1 at hF
       show Code.wp prog _ _ a w
       refine CC h hF 4 [1, 3, 5, 7, 8] [0, 1, 2, 3, 5, 6, 7, 8] (fun hb12 hF h => ?_) (fun hb12 hF h => ?_)
       ·refine As mixed hn hG h [1, 500, 501, 4] (ov [0, 2] (An 1 isAgg41 sizeOf41 q0) <| ou [1, 500] 3 (Aq sizeOf41 q0 q1 (Ai _)) <| ov [] (Ae qi) .nil) fun _ a w h => ?_
        refine wp_ret ?_
        obtain rfl := Option.some.inj hF
        exact ⟨.inl rfl, CJ h (rs := [.cell 8 41, .tmp 9]) (Vs := [(Au (Aa.ck a_1)), (Ag .i64 6)]) results21 (by decide) ⟨(Be 0 2 rfl rfl isAgg41 sizeOf41 rfl), (Ba 1 rfl), trivial⟩ [3] [(AZ p_0 r8.2)] rfl rfl rfl⟩
       ·refine wp_skip ?_
        show Code.wp prog _ _ a w
        obtain ⟨r13, hr13, hF⟩ := bind_some hF
        refine As mixed hn hG h [1, 2, 3, 501, 500, 4, 5, 6, 7] (ov [0] (Ab q0) <| ov [1] (Ad (p := (b1 0)) (n := 1) 0 35 underlying41 rfl sizeOf24 (by decide) q0 rfl) <| ov [500, 4] (Aj ((Aa.ck a_1).take 4) ((Aa.ck a_1).drop 5) 1 isAgg24 q0 rfl rfl) <| oc [502, 500] [] call55 (Ls hr13) ⟨q0, q1, trivial⟩ <| ov [500] (Ab q0) <| ov [500] (A5 q0 rfl) <| ov [501] (A5 q0 rfl) <| ov [501] (Ae q0) <| ov [501] (Ae q0) .nil) fun _ a w h => ?_
        refine wp_seq ?_
        refine As mixed hn hG h [0, 1, 2, 3, 500, 5, 6, 7, 8] (ov [4] (Ab q0) <| ov [500] (Ak Bg q0 qi) .nil) fun _ a w h => ?_
        refine CC h hF 4 [0, 2, 5, 7, 8] [0, 1, 2, 3, 5, 6, 7, 8] (fun hb14 hF h => ?_) (fun hb14 hF h => ?_)
        ·refine As mixed hn hG h [1, 500, 501, 4] (ov [0, 2] (An 1 isAgg41 sizeOf41 q0) <| ou [1, 500] 3 (Aq sizeOf41 q0 q1 (Ai _)) <| ov [] (Ae qi) .nil) fun _ a w h => ?_
         refine wp_ret ?_
         obtain rfl := Option.some.inj hF
         exact ⟨.inl rfl, CJ h (rs := [.cell 8 41, .tmp 9]) (Vs := [(Au (Aa.ck a_1)), (Ag .i64 10)]) results21 (by decide) ⟨(Be 0 2 rfl rfl isAgg41 sizeOf41 rfl), (Ba 1 rfl), trivial⟩ [3] [(AZ p_0 r8.2)] rfl rfl rfl⟩
        ·refine wp_skip ?_
         show Code.wp prog _ _ a w
         refine As mixed hn hG h [0, 1, 2, 3, 500, 4, 5, 6, 7] (ov [] (Ae (D2 (ec _))) .nil) fun _ a w h => ?_
         refine As mixed hn hG h [0, 1, 2, 3, 4, 500, 5, 6, 7, 8] (ov [] (Ae qb) .nil) fun _ a w h => ?_
         refine wp_seq ?_
         refine As mixed hn hG h [0, 1, 2, 3, 4, 5, 502, 501, 500, 6, 7, 8, 9] (ov [0] (Ad (p := (b1 0)) (n := 1) 0 68 underlying41 rfl sizeOf38 (by decide) q0 rfl) <| ov [500, 6] (Aj ((Aa.ck a_1).take 6) ((Aa.ck a_1).drop 7) 1 isAgg38 q0 rfl rfl) <| ov [500] (A6 underlying38 q0) <| ov [] (Ab qi) .nil) fun _ a w h => ?_
         refine wp_block ?_
         obtain ⟨q24, h⟩ : ∃ q24 : Value, AA c [.slot 5 (Av (b1 0) 0), .slot 7 (Av (b1 1) 0), .slot 8 (Av (b1 2) 0), .slot 11 (Ag .u64 r13.1), .slot 13 (Az q24), .slot 14 (AL false), .slot 68 (AJ Ao.ck a_1.Ay), .slot 69 (Ag .i64 (a_1.Ay.length : Int)), .slot 70 (Ag .i64 0), .res (lb (b1 0) 41 (Aa.ck a_1)), .res (lb (b1 1) 71 (AI.ck a_3)), .res (lb (b1 2) 41 (Aa.ck (Aa.mk (0 : Int) (0 : Int) (List.replicate 32 0) [] (0 : Int) (List.replicate 32 0) [] [] false false))), .res (AZ p_0 r8.2), .res (acc q24 37 33 Ao.ck [])] a w := ⟨.slice none 0 0, (h.Fh 37 33 Ao.ck).sub [0, 1, 2, 3, 4, 5, 6, 7, 8, 9, 10, 11, 12, 13] (by rfl)⟩
         obtain ⟨cr59, hl60, hF⟩ := bind_some hF
         refine wp_mono (Bx (R := Aa × Int × (Option A2)) (S := Bool × Int × (List (Ao))) (fun s a w => ∃ q36 : Value, AA c [.slot 5 (Av (b1 0) 0), .slot 7 (Av (b1 1) 0), .slot 8 (Av (b1 2) 0), .slot 11 (Ag .u64 r13.1), .slot 13 (Az q36), .slot 14 (AL s.1), .slot 68 (AJ Ao.ck a_1.Ay), .slot 69 (Ag .i64 (a_1.Ay.length : Int)), .slot 70 (Ag .i64 s.2.1), .res (lb (b1 0) 41 (Aa.ck a_1)), .res (lb (b1 1) 71 (AI.ck a_3)), .res (lb (b1 2) 41 (Aa.ck (Aa.mk (0 : Int) (0 : Int) (List.replicate 32 0) [] (0 : Int) (List.replicate 32 0) [] [] false false))), .res (AZ p_0 r8.2), .res (acc q36 37 33 Ao.ck s.2.2)] a w) (fun res e a w => match res with | .next s => e = .exit 0 ∧ ∃ q36 : Value, AA c [.slot 5 (Av (b1 0) 0), .slot 7 (Av (b1 1) 0), .slot 8 (Av (b1 2) 0), .slot 11 (Ag .u64 r13.1), .slot 13 (Az q36), .slot 14 (AL s.1), .res (lb (b1 0) 41 (Aa.ck a_1)), .res (lb (b1 1) 71 (AI.ck a_3)), .res (lb (b1 2) 41 (Aa.ck (Aa.mk (0 : Int) (0 : Int) (List.replicate 32 0) [] (0 : Int) (List.replicate 32 0) [] [] false false))), .res (AZ p_0 r8.2), .res (acc q36 37 33 Ao.ck s.2.2)] a w | .ret r => e = .ret ∧ Cu prog f21 c (Db [(Au (Aa.ck r.1)), (Ag .i64 r.2.1)]) (fun _ => [AZ p_0 r.2.2]) a w) ?_ _ (false, 0, []) _ _ _ ⟨q24, (h.sub [0, 1, 2, 3, 4, 5, 6, 7, 8, 9, 10, 11, 12, 13] (by rfl))⟩ hl60) ?_
         ·clear hl60 hF h
          intro s a w o h hF
          obtain ⟨x33, x34, x35⟩ := s
          obtain ⟨q36, h⟩ := h
          change Bf.b1 a_1 a_3 r13 x33 x34 x35 = some o at hF
          unfold Bf.b1 at hF
          change AA c [.slot 5 (Av (b1 0) 0), .slot 7 (Av (b1 1) 0), .slot 8 (Av (b1 2) 0), .slot 11 (Ag .u64 r13.1), .slot 13 (Az q36), .slot 14 (AL x33), .slot 68 (AJ Ao.ck a_1.Ay), .slot 69 (Ag .i64 (a_1.Ay.length : Int)), .slot 70 (Ag .i64 x34), .res (lb (b1 0) 41 (Aa.ck a_1)), .res (lb (b1 1) 71 (AI.ck a_3)), .res (lb (b1 2) 41 (Aa.ck (Aa.mk (0 : Int) (0 : Int) (List.replicate 32 0) [] (0 : Int) (List.replicate 32 0) [] [] false false))), .res (AZ p_0 r8.2), .res (acc q36 37 33 Ao.ck x35)] a w at h
          refine As mixed hn hG h [0, 1, 2, 3, 4, 5, 6, 7, 8, 500, 9, 10, 11, 12, 13] (ov [8, 7] (Ak Bl q0 q1) .nil) fun _ a w h => ?_
          refine wp_seq ?_
          refine CC h hF 9 [0, 1, 2, 3, 4, 5, 6, 7, 8, 10, 11, 12, 13, 14] [0, 1, 2, 3, 4, 5, 6, 7, 8, 10, 11, 12, 13, 14] (fun hb49 hF h => ?_) (fun hb49 hF h => ?_)
          ·refine wp_skip ?_
           show Code.wp prog _ _ a w
           refine wp_seq ?_
           refine wp_block ?_
           obtain ⟨hv50, hF⟩ := AF hF
           refine As mixed hn hG h [0, 1, 2, 3, 4, 5, 502, 6, 7, 8, 9, 10, 11, 12, 13, 500] (ov [6, 8] (AS underlying38 sizeOf37 Ao.lens q0 q1 hv50) <| ov [500] (Bq (Ao.ck (a_1.Ay.getD x34.toNat default)) [] isAgg37 sizeOf37 q0 rfl) <| ob [] (AR zeroValue37 z37) <| og [501, 502] [500] [.res 2 100000 (fun v1_ _ => (lb (v1_) 37 (Ao.ck (a_1.Ay.getD x34.toNat default))))] (AB.plain (Aq sizeOf37 q0 q1 (Ai _)) rfl) .nil) fun b51 a w h => ?_
           refine wp_seq ?_
           refine wp_seq ?_
           refine wp_cut (fun a w => ∃ (x52 : Bool), Bf.j2 a_1 r13 x33 x34 x35 x52 = some o ∧ AA c [.slot 5 (Av (b1 0) 0), .slot 7 (Av (b1 1) 0), .slot 8 (Av (b1 2) 0), .slot 11 (Ag .u64 r13.1), .slot 13 (Az q36), .slot 14 (AL x33), .slot 16 (Av (b51 2) 0), .slot 68 (AJ Ao.ck a_1.Ay), .slot 69 (Ag .i64 (a_1.Ay.length : Int)), .slot 70 (Ag .i64 x34), .slot 82 (AL x52), .res (lb (b1 0) 41 (Aa.ck a_1)), .res (lb (b1 1) 71 (AI.ck a_3)), .res (lb (b1 2) 41 (Aa.ck (Aa.mk (0 : Int) (0 : Int) (List.replicate 32 0) [] (0 : Int) (List.replicate 32 0) [] [] false false))), .res (AZ p_0 r8.2), .res (acc q36 37 33 Ao.ck x35), .res (lb (b51 2) 37 (Ao.ck (a_1.Ay.getD x34.toNat default)))] a w) ?_ ?_
           ·rcases Bool.eq_false_or_eq_true (decide (((a_1.Ay.getD x34.toNat default).Bt) = a_3.BN)) with hb58 | hb58
            ·replace hF := CQ hb58 hF
             refine Cd mixed hn hG h [0, 1, 2, 3, 4, 5, 6, 7, 8, 9, 500, 10, 11, 12, 13, 14, 15] (ov [6] (Ad (p := (b51 2)) (n := 32) 0 0 underlying37 rfl sizeOf33 (by decide) q0 rfl) <| ov [500, 15] (AT [] [Af 32 ((a_1.Ay.getD x34.toNat default).Bt)] [one (Ag .u64 ((a_1.Ay.getD x34.toNat default).GU))] 1 isAgg33 sizeOf33 q0 rfl rfl rfl) <| ov [1] (Ad (p := (b1 1)) (n := 32) 0 33 underlying71 rfl sizeOf33 (by decide) q0 rfl) <| ov [500, 11] (AT ((AI.ck a_3).take 2) [Af 32 a_3.BN] (AE.ck a_3.C1) 1 isAgg33 sizeOf33 q0 rfl rfl rfl) <| ov [502, 500] (Ak (EF underlying33 underlying5 type5 sizeOf5 isAgg5 eqGuardType33) q0 q1) <| ov [500] (Ab q0) <| oe [500, 5] [] (AB.Aw hb58 rfl rfl rfl (Ab q0)) <| oe [501, 500] [] (AB.Aw hb58 rfl rfl rfl (EO (Ec _) q0)) <| ov [502, 500] (AU hb58 q0 q1) .nil) fun _ a w h => ?_
             exact ⟨!x33, hF, h.sub [0, 1, 2, 3, 4, 5, 6, 7, 8, 9, 10, 11, 12, 13, 14, 15, 16] (by rfl)⟩
            ·replace hF := CT hb58 hF
             refine Cd mixed hn hG h [0, 1, 2, 3, 4, 5, 6, 7, 8, 9, 500, 10, 11, 12, 13, 14, 15] (ov [6] (Ad (p := (b51 2)) (n := 32) 0 0 underlying37 rfl sizeOf33 (by decide) q0 rfl) <| ov [500, 15] (AT [] [Af 32 ((a_1.Ay.getD x34.toNat default).Bt)] [one (Ag .u64 ((a_1.Ay.getD x34.toNat default).GU))] 1 isAgg33 sizeOf33 q0 rfl rfl rfl) <| ov [1] (Ad (p := (b1 1)) (n := 32) 0 33 underlying71 rfl sizeOf33 (by decide) q0 rfl) <| ov [500, 11] (AT ((AI.ck a_3).take 2) [Af 32 a_3.BN] (AE.ck a_3.C1) 1 isAgg33 sizeOf33 q0 rfl rfl rfl) <| ov [502, 500] (Ak (EF underlying33 underlying5 type5 sizeOf5 isAgg5 eqGuardType33) q0 q1) <| ov [500] (Ab q0) <| oe [500] [] (AB.At (want := true) hb58 rfl rfl rfl rfl) <| oe [501] [] (AB.At (want := true) hb58 rfl rfl rfl rfl) <| ov [502] (AV hb58 q0 qb) .nil) fun _ a w h => ?_
             exact ⟨false, hF, h.sub [0, 1, 2, 3, 4, 5, 6, 7, 8, 9, 10, 11, 12, 13, 14, 15, 16] (by rfl)⟩
           ·clear h hF
            rintro a w ⟨x52, hF, h⟩
            unfold Bf.j2 at hF
            show Code.wp prog _ _ a w
            refine wp_cut (fun a w => ∃ (x53 : Bool), ∃ (x54 : Ao), Bf.j3 x34 x35 x53 x54 = some o ∧ AA c [.slot 5 (Av (b1 0) 0), .slot 7 (Av (b1 1) 0), .slot 8 (Av (b1 2) 0), .slot 11 (Ag .u64 r13.1), .slot 13 (Az q36), .slot 14 (AL x53), .slot 16 (Av (b51 2) 0), .slot 68 (AJ Ao.ck a_1.Ay), .slot 69 (Ag .i64 (a_1.Ay.length : Int)), .slot 70 (Ag .i64 x34), .res (lb (b1 0) 41 (Aa.ck a_1)), .res (lb (b1 1) 71 (AI.ck a_3)), .res (lb (b1 2) 41 (Aa.ck (Aa.mk (0 : Int) (0 : Int) (List.replicate 32 0) [] (0 : Int) (List.replicate 32 0) [] [] false false))), .res (AZ p_0 r8.2), .res (acc q36 37 33 Ao.ck x35), .res (lb (b51 2) 37 (Ao.ck x54))] a w) ?_ ?_
            ·refine CC h hF 10 [0, 1, 2, 3, 4, 6, 7, 8, 9, 11, 12, 13, 14, 15, 16] [0, 1, 2, 3, 4, 5, 6, 7, 8, 9, 11, 12, 13, 14, 15, 16] (fun hb57 hF h => ?_) (fun hb57 hF h => ?_)
             ·refine As mixed hn hG h [0, 1, 2, 3, 4, 5, 6, 7, 8, 9, 10, 11, 12, 13, 500] (ov [3] (Ab q0) <| ov [5] (Ad (p := (b51 2)) (n := 1) 0 32 underlying37 rfl sizeOf24 (by decide) q0 rfl) <| ou [500, 501] 14 (B8 [Af 32 ((a_1.Ay.getD x34.toNat default).Bt)] [one (Ag .u64 ((a_1.Ay.getD x34.toNat default).GU))] [] [one (Ag .u64 r13.1)] sizeOf24 q0 q1 (AG (A8 _ _)) rfl rfl rfl) .nil) fun _ a w h => ?_
              refine Cd mixed hn hG h [0, 1, 2, 3, 4, 500, 5, 6, 7, 8, 9, 10, 11, 12, 13, 14] (ov [] (Ae qb) .nil) fun _ a w h => ?_
              exact ⟨true, (Ao.mk ((a_1.Ay.getD x34.toNat default).Bt) r13.1), hF, h.sub [0, 1, 2, 3, 4, 5, 6, 7, 8, 9, 10, 11, 12, 13, 14, 15] (by rfl)⟩
             ·refine wp_skip ?_
              exact ⟨x33, a_1.Ay.getD x34.toNat default, hF, h.sub [0, 1, 2, 3, 4, 5, 6, 7, 8, 9, 10, 11, 12, 13, 14, 15] (by rfl)⟩
            ·clear h hF
             rintro a w ⟨x53, x54, hF, h⟩
             unfold Bf.j3 at hF
             show Code.wp prog _ _ a w
             obtain ⟨hv55, hF⟩ := AF hF
             refine Cd mixed hn hG h [0, 1, 2, 3, 500, 5, 7, 8, 9, 10, 11, 12, 13, 501] (ov [4] (Ab q0) <| ov [6, 15] (An 1 isAgg37 sizeOf37 q0) <| ov [500] (CP (xs := [.tmp 86]) (ys := [x54]) _ rfl underlying38 sizeOf37 zeroValue37 rfl rfl (by decide) (by decide) ⟨⟨_, q0, (Ai _)⟩, trivial⟩ Ao.lens) <| og [502, 500] [14] [.slot 88 3 100000 (fun v1_ _ => (Az v1_)), .res 3 100000 (fun v1_ _ => (acc (v1_) 37 33 Ao.ck (x35 ++ [x54])))] (AB.plain (CL (i := t37) underlying38 type37 rfl Ao.lens (by decide) rfl q0 q1 hv55) rfl) <| og [501] [4] [.slot 13 3 100000 (fun v1_ _ => (Az v1_))] (fun {β} => (AB.drop _ (AB.plain (Ae (V := (Az (β 3))) q0) rfl))) .nil) fun b56 a w h => ?_
             show Code.wp prog _ _ a w
             refine Cd mixed hn hG h [0, 1, 2, 3, 4, 5, 6, 7, 500, 9, 10, 11, 12, 13] (ov [8] (Ak A9 q0 qi) <| od [500] 8 (Ab q0) .nil) fun _ a w h => ?_
             obtain rfl := Option.some.inj hF
             exact ⟨rfl, (b56 3), h.sub [0, 1, 2, 3, 4, 5, 6, 7, 8, 9, 10, 11, 12, 13] (by rfl)⟩
          ·refine wp_exit ?_
           obtain rfl := Option.some.inj hF
           exact ⟨BK _, rfl, q36, h.sub [0, 1, 2, 3, 4, 5, 9, 10, 11, 12, 13] (by rfl)⟩
         ·clear hl60
          intro e a w hq
          cases cr59 with
          | ret r61 =>
           obtain ⟨rfl, hq⟩ := hq
           obtain rfl := Option.some.inj hF
           exact ⟨.inl rfl, hq⟩
          | next s62 =>
           obtain ⟨y63, y64, y65⟩ := s62
           obtain ⟨rfl, q36, h⟩ := hq
           change AA c [.slot 5 (Av (b1 0) 0), .slot 7 (Av (b1 1) 0), .slot 8 (Av (b1 2) 0), .slot 11 (Ag .u64 r13.1), .slot 13 (Az q36), .slot 14 (AL y63), .res (lb (b1 0) 41 (Aa.ck a_1)), .res (lb (b1 1) 71 (AI.ck a_3)), .res (lb (b1 2) 41 (Aa.ck (Aa.mk (0 : Int) (0 : Int) (List.replicate 32 0) [] (0 : Int) (List.replicate 32 0) [] [] false false))), .res (AZ p_0 r8.2), .res (acc q36 37 33 Ao.ck y65)] a w at h
           refine Bd ?_
           show Code.wp prog _ _ a w
           refine wp_seq ?_
           refine As mixed hn hG h [0, 1, 2, 3, 4, 500, 6, 7, 8, 9, 10] (ov [5] (Ab q0) <| ov [500] (EO (Ec _) q0) .nil) fun _ a w h => ?_
           refine wp_cut (fun a w => ∃ (x68 : List (Ao)), ∃ q69 : Value, Bf.j4 a_1 a_3 r8 x68 = some r ∧ AA c [.slot 5 (Av (b1 0) 0), .slot 7 (Av (b1 1) 0), .slot 8 (Av (b1 2) 0), .slot 13 (Az q69), .res (lb (b1 0) 41 (Aa.ck a_1)), .res (lb (b1 1) 71 (AI.ck a_3)), .res (lb (b1 2) 41 (Aa.ck (Aa.mk (0 : Int) (0 : Int) (List.replicate 32 0) [] (0 : Int) (List.replicate 32 0) [] [] false false))), .res (AZ p_0 r8.2), .res (acc q69 37 33 Ao.ck x68)] a w) ?_ ?_
           ·refine CC h hF 5 [0, 1, 2, 3, 4, 6, 7, 8, 9, 10] [0, 1, 2, 4, 6, 7, 8, 9, 10] (fun hb70 hF h => ?_) (fun hb70 hF h => ?_)
            ·obtain ⟨hv71, hF⟩ := AF hF
             refine Cd mixed hn hG h [0, 1, 2, 500, 5, 6, 7, 8, 501] (ov [4] (Ab q0) <| ov [1] (Ad (p := (b1 1)) (n := 32) 0 33 underlying71 rfl sizeOf33 (by decide) q0 rfl) <| ov [500, 6] (AT ((AI.ck a_3).take 2) [Af 32 a_3.BN] (AE.ck a_3.C1) 1 isAgg33 sizeOf33 q0 rfl rfl rfl) <| ov [3] (Ab q0) <| ov [501, 500] (Dw [(0, .tmp 94), (1, .tmp 95)] rfl R7 z37 ⟨[], [Af 32 (List.replicate 32 0)], [one (Ag .u64 (0 : Int))], [Af 32 a_3.BN], _, rfl, rfl, rfl, q0, (Ai _), ⟨[Af 32 a_3.BN], [one (Ag .u64 (0 : Int))], [], [one (Ag .u64 r13.1)], _, rfl, rfl, rfl, q1, (AG (A8 _ _)), rfl⟩⟩) <| ov [500] (CP (xs := [.tmp 96]) (ys := [(Ao.mk a_3.BN r13.1)]) _ rfl underlying38 sizeOf37 zeroValue37 rfl rfl (by decide) (by decide) ⟨⟨_, q0, (Ai _)⟩, trivial⟩ Ao.lens) <| og [505, 500] [9] [.slot 98 6 100000 (fun v1_ _ => (Az v1_)), .res 6 100000 (fun v1_ _ => (acc (v1_) 37 33 Ao.ck (y65 ++ [(Ao.mk a_3.BN r13.1)])))] (AB.plain (CL (i := t37) underlying38 type37 rfl Ao.lens (by decide) rfl q0 q1 hv71) rfl) <| og [501] [4] [.slot 13 6 100000 (fun v1_ _ => (Az v1_))] (fun {β} => (AB.drop _ (AB.plain (Ae (V := (Az (β 6))) q0) rfl))) .nil) fun b72 a w h => ?_
             exact ⟨y65 ++ [(Ao.mk a_3.BN r13.1)], (b72 6), hF, h.sub [0, 1, 2, 3, 4, 5, 6, 7, 8] (by rfl)⟩
            ·refine wp_skip ?_
             exact ⟨y65, q36, hF, h.sub [0, 1, 2, 3, 4, 5, 6, 7, 8] (by rfl)⟩
           ·clear h hF
            rintro a w ⟨x68, q69, hF, h⟩
            unfold Bf.j4 at hF
            show Code.wp prog _ _ a w
            refine As mixed hn hG h [0, 1, 2, 500, 5, 6, 7] (ov [3] (Ab q0) <| ov [0] (Ad (p := (b1 0)) (n := 1) 0 68 underlying41 rfl sizeOf38 (by decide) q0 rfl) <| ou [500, 501, 8] 4 (B8 ((Aa.ck a_1).take 6) [one (AJ Ao.ck a_1.Ay)] ((Aa.ck a_1).drop 7) [one (AJ Ao.ck x68)] sizeOf38 q0 (HV 1 2 rfl rfl) (AG (H9 _ _)) rfl rfl rfl) .nil) fun _ a w h => ?_
            refine As mixed hn hG h [0, 2, 500, 5, 6] (ov [1] (Ad (p := (b1 1)) (n := 32) 0 33 underlying71 rfl sizeOf33 (by decide) q0 rfl) <| ov [500, 4] (AT ((AI.ck a_3).take 2) [Af 32 a_3.BN] (AE.ck a_3.C1) 1 isAgg33 sizeOf33 q0 rfl rfl rfl) <| ov [0] (Ad (p := (b1 0)) (n := 32) 0 36 underlying41 rfl sizeOf33 (by decide) q0 rfl) <| ou [500, 501] 3 (B8 ((Aa.ck a_1).take 5) [Af 32 a_1.AN] [one (AJ Ao.ck x68), one (AJ Al.ck a_1.Ah), one (AL a_1.Bj), one (AL a_1.BR)] [Af 32 a_3.BN] sizeOf33 q0 q1 (Ai _) rfl rfl rfl) .nil) fun _ a w h => ?_
            refine As mixed hn hG h [1, 500, 501, 4] (ov [0, 2] (An 1 isAgg41 sizeOf41 q0) <| ou [1, 500] 3 (Aq sizeOf41 q0 q1 (Ai _)) <| ov [] (Ae qi) .nil) fun _ a w h => ?_
            refine wp_ret ?_
            obtain rfl := Option.some.inj hF
            exact ⟨.inl rfl, CJ h (rs := [.cell 8 41, .tmp 9]) (Vs := [(Au [one (Ag .u32 a_1.AX), one (Ag .u32 a_1.BC), Af 32 a_1.AQ, one (AJ (dC 32) a_1.AP), one (Ag .u64 a_1.A4), Af 32 a_3.BN, one (AJ Ao.ck x68), one (AJ Al.ck a_1.Ah), one (AL a_1.Bj), one (AL a_1.BR)]), (Ag .i64 0)]) results21 (by decide) ⟨(Be 0 2 rfl rfl isAgg41 sizeOf41 rfl), (Ba 1 rfl), trivial⟩ [3] [(AZ p_0 r8.2)] rfl rfl rfl⟩

def Bw.j2 (r5 : (List (List UInt8)) × (Option AD)) (x23 : Int) (x24 : List (List UInt8)) (x25 : Int) (x26 : Option AD) (x27 : List (List UInt8)) (x48 : List UInt8) : Option (Cn ((List (List UInt8)) × Int × (Option AD)) (Int × (List (List UInt8)) × Int × (Option AD) × (List (List UInt8)))) := (if x27.length + [x48].length ≤ CW ∧ (x27.length + [x48].length) * 32 ≤ 140737488355328 then (if (0 : Int) ≤ x25 ∧ x25 < 33 then ((Cp x26 x24 (r5.1.getD x25.toNat default)).bind fun r52 => some (.cont (IntKind.wrap .i64 (x23.tdiv 2), r52.1, IntKind.wrap .i64 (x25 + 1), r52.2, x27 ++ [x48]))) else none) else none)
def Bw.b1 (r5 : (List (List UInt8)) × (Option AD)) (x23 : Int) (x24 : List (List UInt8)) (x25 : Int) (x26 : Option AD) (x27 : List (List UInt8)) : Option (Cn ((List (List UInt8)) × Int × (Option AD)) (Int × (List (List UInt8)) × Int × (Option AD) × (List (List UInt8)))) := (if (decide (x25 < (32 : Int))) = true then (if (0 : Int) ≤ x25 ∧ x25 < 33 then (if (decide ((bits .xor .i64 x23 1) < (x24.length : Int))) = true then (if (0 : Int) ≤ bits .xor .i64 x23 1 ∧ bits .xor .i64 x23 1 < x24.length then Bw.j2 r5 x23 x24 x25 x26 x27 (x24.getD (bits .xor .i64 x23 1).toNat default) else none) else Bw.j2 r5 x23 x24 x25 x26 x27 (r5.1.getD x25.toNat default)) else none) else some (.brk (x23, x24, x25, x26, x27)))
def Bw.j1 (L_0 : Option AD) (a_1 : List (List UInt8)) (a_2 : Int) (x1 : Bool) : Option ((List (List UInt8)) × Int × (Option AD)) := (if x1 = true then some ([], 2, L_0) else (if (decide ((4096 : Int) < (a_1.length : Int))) = true then some ([], 6, L_0) else ((BO a_1).bind fun r4 => ((Ci L_0).bind fun r5 => ((Bu (fun s : Int × (List (List UInt8)) × Int × (Option AD) × (List (List UInt8)) => Bw.b1 r5 s.1 s.2.1 s.2.2.1 s.2.2.2.1 s.2.2.2.2) ((32 - 0 : Int).toNat + 2) (a_2, r4, 0, r5.2, [])).bind fun cr => match cr with | .ret r => some r | .next (y59, y60, y61, y62, y63) => some (y63, 0, y62))))))
def Bw (L_0 : Option AD) (a_1 : List (List UInt8)) (a_2 : Int) : Option ((List (List UInt8)) × Int × (Option AD)) := (if (decide (a_2 < (0 : Int))) = true then Bw.j1 L_0 a_1 a_2 true else Bw.j1 L_0 a_1 a_2 (decide ((a_1.length : Int) ≤ a_2)))
theorem I8 {p_0 : Value} {L_0 : Option AD} {a_1 : List (List UInt8)} {a_2 : Int} {r : (List (List UInt8)) × Int × (Option AD)} (hF : Bw L_0 a_1 a_2 = some r) : AH prog KG 22 [(Az p_0), (AJ (dC 32) a_1), (Ag .i64 a_2)] [(AK p_0 L_0)] (fun _ => [AK p_0 r.2.2]) (Db [(AJ (dC 32) r.1), (Ag .i64 r.2.1)]) := by
 refine AH.intro 61 func22 rfl ntmps22 (Nat.le_of_ble_eq_true rfl) ?_
 intro c a w hG hn h
 unfold Bw at hF
 change AA c [.slot 0 (Az p_0), .slot 1 (AJ (dC 32) a_1), .slot 2 (Ag .i64 a_2), .res (AK p_0 L_0)] a w at h
 refine As mixed hn hG h [0, 1, 2, 3] (ov [] (Ae (D2 (ec _))) <| ov [] (Ae qi) .nil) fun _ a w h => ?_
 refine wp_seq ?_
 refine wp_block ?_
 refine wp_seq ?_
 refine wp_cut (fun a w => ∃ (x1 : Bool), Bw.j1 L_0 a_1 a_2 x1 = some r ∧ AA c [.slot 0 (Az p_0), .slot 1 (AJ (dC 32) a_1), .slot 2 (Ag .i64 a_2), .slot 14 (AL x1), .res (AK p_0 L_0)] a w) ?_ ?_
 ·rcases Bool.eq_false_or_eq_true (decide (a_2 < (0 : Int))) with hb64 | hb64
  ·replace hF := CQ hb64 hF
   refine Cd mixed hn hG h [0, 1, 2, 500, 3] (ov [2] (Ab q0) <| ov [500] (Ak Bl q0 qi) <| ov [500] (Ab q0) <| oe [500] [] (AB.At (want := false) hb64 rfl rfl rfl rfl) <| oe [501] [] (AB.At (want := false) hb64 rfl rfl rfl rfl) <| oe [502] [] (AB.At (want := false) hb64 rfl rfl rfl rfl) <| oe [503] [] (AB.At (want := false) hb64 rfl rfl rfl rfl) <| ov [504] (AU hb64 q0 qb) <| ov [500] (Ae q0) .nil) fun _ a w h => ?_
   exact ⟨true, hF, h.sub [0, 1, 2, 3, 4] (by rfl)⟩
  ·replace hF := CT hb64 hF
   refine Cd mixed hn hG h [0, 1, 2, 500, 3] (ov [2] (Ab q0) <| ov [500] (Ak Bl q0 qi) <| ov [500] (Ab q0) <| oe [500, 2] [] (AB.Aw hb64 rfl rfl rfl (Ab q0)) <| oe [501, 1] [] (AB.Aw hb64 rfl rfl rfl (Ab q0)) <| oe [502, 500] [] (AB.Aw hb64 rfl rfl rfl (A6 underlying27 q0)) <| oe [503, 502, 500] [] (AB.Aw hb64 rfl rfl rfl (Ak Ef q0 q1)) <| ov [504, 500] (AV hb64 q0 q1) <| ov [500] (Ae q0) .nil) fun _ a w h => ?_
   exact ⟨decide ((a_1.length : Int) ≤ a_2), hF, h.sub [0, 1, 2, 3, 4] (by rfl)⟩
 ·clear h hF
  rintro a w ⟨x1, hF, h⟩
  unfold Bw.j1 at hF
  show Code.wp prog _ _ a w
  refine CC h hF 3 [4] [0, 1, 2, 4] (fun hb2 hF h => ?_) (fun hb2 hF h => ?_)
  ·refine As mixed hn hG h [501, 500, 0] (ov [] (Ae (D2 (ec _))) <| ov [] (Ae qi) .nil) fun _ a w h => ?_
   refine wp_ret ?_
   obtain rfl := Option.some.inj hF
   exact ⟨.inl rfl, CJ h (rs := [.tmp 6, .tmp 7]) (Vs := [(AJ (dC 32) []), (Ag .i64 2)]) results22 (by decide) ⟨(Mf 0 rfl), (Ba 1 rfl), trivial⟩ [2] [(AK p_0 L_0)] rfl rfl rfl⟩
  ·refine As mixed hn hG h [0, 1, 2, 500, 3] (ov [1] (Ab q0) <| ov [500] (A6 underlying27 q0) <| ov [500] (Ak EW q0 qi) <| ov [500] (Ae q0) .nil) fun _ a w h => ?_
   refine CC h hF 3 [4] [0, 1, 2, 4] (fun hb3 hF h => ?_) (fun hb3 hF h => ?_)
   ·refine As mixed hn hG h [501, 500, 0] (ov [] (Ae (D2 (ec _))) <| ov [] (Ae qi) .nil) fun _ a w h => ?_
    refine wp_ret ?_
    obtain rfl := Option.some.inj hF
    exact ⟨.inl rfl, CJ h (rs := [.tmp 6, .tmp 7]) (Vs := [(AJ (dC 32) []), (Ag .i64 6)]) results22 (by decide) ⟨(Mf 0 rfl), (Ba 1 rfl), trivial⟩ [2] [(AK p_0 L_0)] rfl rfl rfl⟩
   ·refine wp_skip ?_
    show Code.wp prog _ _ a w
    obtain ⟨r4, hr4, hF⟩ := bind_some hF
    refine As mixed hn hG h [0, 2, 500, 3] (ov [1] (Ab q0) <| oc [500] [] call43 (DV hr4) ⟨q0, trivial⟩ <| ov [500] (Ae q0) .nil) fun _ a w h => ?_
    obtain ⟨r5, hr5, hF⟩ := bind_some hF
    refine As mixed hn hG h [0, 1, 2, 502, 503, 500] (ov [0] (Ab q0) <| oc [500] [3] call45 (GF hr5) ⟨q0, trivial⟩ <| ob [] (AR zeroValue113 PO) <| og [501, 503] [500] [.res 2 100000 (fun v1_ _ => (lb (v1_) 113 [C7 33 32 (dC 32) (Bk 32) r5.1]))] (AB.plain (Aq sizeOf113 q0 q1 (Ai _)) rfl) .nil) fun b6 a w h => ?_
    refine As mixed hn hG h [0, 1, 2, 3, 500, 4, 5] (ov [] (Ae (D2 (ec _))) .nil) fun _ a w h => ?_
    refine wp_seq ?_
    refine As mixed hn hG h [0, 1, 2, 3, 4, 500, 5, 6] (ov [] (Ab qi) .nil) fun _ a w h => ?_
    refine wp_block ?_
    obtain ⟨q15, h⟩ : ∃ q15 : Value, AA c [.slot 0 (Az p_0), .slot 2 (Ag .i64 a_2), .slot 8 (AJ (dC 32) r4), .slot 9 (Av (b6 2) 0), .slot 10 (Az q15), .slot 31 (Ag .i64 0), .res (AK p_0 r5.2), .res (lb (b6 2) 113 [C7 33 32 (dC 32) (Bk 32) r5.1]), .res (acc q15 33 32 (dC 32) [])] a w := ⟨.slice none 0 0, (h.Fh 33 32 (dC 32)).sub [0, 1, 2, 3, 4, 5, 6, 7, 8] (by rfl)⟩
    obtain ⟨cr55, hl56, hF⟩ := bind_some hF
    refine wp_mono (Bx (R := (List (List UInt8)) × Int × (Option AD)) (S := Int × (List (List UInt8)) × Int × (Option AD) × (List (List UInt8))) (fun s a w => ∃ q28 : Value, AA c [.slot 0 (Az p_0), .slot 2 (Ag .i64 s.1), .slot 8 (AJ (dC 32) s.2.1), .slot 9 (Av (b6 2) 0), .slot 10 (Az q28), .slot 31 (Ag .i64 s.2.2.1), .res (AK p_0 s.2.2.2.1), .res (lb (b6 2) 113 [C7 33 32 (dC 32) (Bk 32) r5.1]), .res (acc q28 33 32 (dC 32) s.2.2.2.2)] a w) (fun res e a w => match res with | .next s => e = .exit 1 ∧ ∃ q28 : Value, AA c [.slot 10 (Az q28), .res (AK p_0 s.2.2.2.1), .res (acc q28 33 32 (dC 32) s.2.2.2.2)] a w | .ret r => e = .ret ∧ Cu prog f22 c (Db [(AJ (dC 32) r.1), (Ag .i64 r.2.1)]) (fun _ => [AK p_0 r.2.2]) a w) ?_ _ (a_2, r4, 0, r5.2, []) _ _ _ ⟨q15, (h.sub [0, 1, 2, 3, 4, 5, 6, 7, 8] (by rfl))⟩ hl56) ?_
    ·clear hl56 hF h
     intro s a w o h hF
     obtain ⟨x23, x24, x25, x26, x27⟩ := s
     obtain ⟨q28, h⟩ := h
     change Bw.b1 r5 x23 x24 x25 x26 x27 = some o at hF
     unfold Bw.b1 at hF
     change AA c [.slot 0 (Az p_0), .slot 2 (Ag .i64 x23), .slot 8 (AJ (dC 32) x24), .slot 9 (Av (b6 2) 0), .slot 10 (Az q28), .slot 31 (Ag .i64 x25), .res (AK p_0 x26), .res (lb (b6 2) 113 [C7 33 32 (dC 32) (Bk 32) r5.1]), .res (acc q28 33 32 (dC 32) x27)] a w at h
     refine As mixed hn hG h [0, 1, 2, 3, 4, 5, 500, 6, 7, 8] (ov [5] (Ak Bl q0 qi) .nil) fun _ a w h => ?_
     refine wp_seq ?_
     refine CC h hF 6 [0, 1, 2, 3, 4, 5, 7, 8, 9] [0, 1, 2, 3, 4, 5, 7, 8, 9] (fun hb44 hF h => ?_) (fun hb44 hF h => ?_)
     ·refine wp_skip ?_
      show Code.wp prog _ _ a w
      refine wp_seq ?_
      refine wp_block ?_
      refine As mixed hn hG h [0, 1, 2, 3, 4, 500, 5, 6, 7, 8] (ov [5] (Ab q0) <| ov [500] (Ae q0) .nil) fun _ a w h => ?_
      obtain ⟨hv45, hF⟩ := AF hF
      refine As mixed hn hG h [0, 1, 2, 3, 4, 5, 502, 6, 7, 8, 9, 500] (ov [5] (Ab q0) <| ov [3, 500] (AM underlying113 sizeOf33 q0 q1 hv45) <| ov [500, 8] (E4 (i := x25) [] [] 1 isAgg33 sizeOf33 q0 rfl rfl hv45) <| ob [] (AR zeroValue33 FT) <| og [501, 502] [500] [.res 3 100000 (fun v1_ _ => (lb (v1_) 33 [Af 32 (r5.1.getD x25.toNat default)]))] (AB.plain (Aq sizeOf33 q0 q1 (Ai _)) rfl) .nil) fun b46 a w h => ?_
      refine wp_seq ?_
      refine As mixed hn hG h [0, 1, 2, 3, 4, 5, 6, 500, 7, 8, 9, 10, 11] (ov [1] (Ab q0) <| ov [500] (Ak Da q0 qi) <| ov [500] (Ae q0) .nil) fun _ a w h => ?_
      refine As mixed hn hG h [0, 1, 2, 3, 4, 5, 6, 7, 8, 500, 9, 10, 11, 12] (ov [7] (Ab q0) <| ov [2] (Ab q0) <| ov [500] (A6 underlying27 q0) <| ov [502, 500] (Ak Bl q0 q1) .nil) fun _ a w h => ?_
      refine wp_cut (fun a w => ∃ (x48 : List UInt8), Bw.j2 r5 x23 x24 x25 x26 x27 x48 = some o ∧ AA c [.slot 0 (Az p_0), .slot 2 (Ag .i64 x23), .slot 8 (AJ (dC 32) x24), .slot 9 (Av (b6 2) 0), .slot 10 (Az q28), .slot 11 (Ag .i64 x25), .slot 12 (Av (b46 3) 0), .slot 31 (Ag .i64 x25), .res (AK p_0 x26), .res (lb (b6 2) 113 [C7 33 32 (dC 32) (Bk 32) r5.1]), .res (acc q28 33 32 (dC 32) x27), .res (lb (b46 3) 33 [Af 32 x48])] a w) ?_ ?_
      ·refine CC h hF 9 [0, 1, 2, 3, 4, 5, 6, 7, 8, 10, 11, 12, 13] [0, 1, 2, 3, 4, 5, 6, 8, 10, 11, 12, 13] (fun hb53 hF h => ?_) (fun hb53 hF h => ?_)
       ·obtain ⟨hv54, hF⟩ := AF hF
        refine Cd mixed hn hG h [0, 1, 2, 3, 4, 5, 6, 8, 9, 10, 11, 500] (ov [2] (Ab q0) <| ov [7] (Ab q0) <| ov [501, 500] (AS underlying27 sizeOf33 (Bk 32) q0 q1 hv54) <| ov [500] (Bq [Af 32 (x24.getD (bits .xor .i64 x23 1).toNat default)] [] isAgg33 sizeOf33 q0 rfl) <| ou [6, 500] 12 (Aq sizeOf33 q0 q1 (Ai _)) .nil) fun _ a w h => ?_
        exact ⟨x24.getD (bits .xor .i64 x23 1).toNat default, hF, h.sub [0, 1, 2, 3, 4, 5, 6, 7, 8, 9, 10, 11] (by rfl)⟩
       ·refine wp_skip ?_
        exact ⟨r5.1.getD x25.toNat default, hF, h.sub [0, 1, 2, 3, 4, 5, 6, 7, 8, 9, 10, 11] (by rfl)⟩
      ·clear h hF
       rintro a w ⟨x48, hF, h⟩
       unfold Bw.j2 at hF
       show Code.wp prog _ _ a w
       obtain ⟨hv49, hF⟩ := AF hF
       refine As mixed hn hG h [0, 1, 2, 3, 500, 5, 7, 8, 9, 501] (ov [4] (Ab q0) <| ov [6, 11] (An 1 isAgg33 sizeOf33 q0) <| ov [500] (CP (xs := [.tmp 48]) (ys := [x48]) _ rfl underlying27 sizeOf33 zeroValue33 rfl rfl (by decide) (by decide) ⟨⟨_, q0, (Ai _)⟩, trivial⟩ (Bk 32)) <| og [502, 500] [10] [.slot 50 3 100000 (fun v1_ _ => (Az v1_)), .res 3 100000 (fun v1_ _ => (acc (v1_) 33 32 (dC 32) (x27 ++ [x48])))] (AB.plain (CL (i := t33) underlying27 type33 rfl (Bk 32) (by decide) rfl q0 q1 hv49) rfl) <| og [501] [4] [.slot 10 3 100000 (fun v1_ _ => (Az v1_))] (fun {β} => (AB.drop _ (AB.plain (Ae (V := (Az (β 3))) q0) rfl))) .nil) fun b50 a w h => ?_
       obtain ⟨hv51, hF⟩ := AF hF
       obtain ⟨r52, hr52, hF⟩ := bind_some hF
       refine Cd mixed hn hG h [0, 500, 501, 3, 4, 6, 8, 9, 504] (ov [0] (Ab q0) <| ov [2] (Ab q0) <| ov [5] (Ab q0) <| ov [3, 500] (AM underlying113 sizeOf33 q0 q1 hv51) <| ov [500, 8] (E4 (i := x25) [] [] 1 isAgg33 sizeOf33 q0 rfl rfl hv51) <| oc [504, 503, 500] [7] call46 (ID hr52) ⟨q0, q1, q2, trivial⟩ <| ov [1] (Ab q0) <| ov [500] (Ak (FH (by decide)) q0 qi) <| od [503] 2 (Ae q0) <| od [501] 1 (Ae q0) .nil) fun _ a w h => ?_
       show Code.wp prog _ _ a w
       refine Cd mixed hn hG h [0, 1, 2, 3, 4, 500, 6, 7, 8] (ov [5] (Ak A9 q0 qi) <| od [500] 5 (Ab q0) .nil) fun _ a w h => ?_
       obtain rfl := Option.some.inj hF
       exact ⟨rfl, (b50 3), h.sub [0, 1, 2, 3, 4, 5, 8, 6, 7] (by rfl)⟩
     ·refine wp_exit ?_
      obtain rfl := Option.some.inj hF
      exact ⟨BK _, rfl, q28, h.sub [4, 6, 8] (by rfl)⟩
    ·clear hl56
     intro e a w hq
     cases cr55 with
     | ret r57 =>
      obtain ⟨rfl, hq⟩ := hq
      obtain rfl := Option.some.inj hF
      exact ⟨.inl rfl, hq⟩
     | next s58 =>
      obtain ⟨y59, y60, y61, y62, y63⟩ := s58
      obtain ⟨rfl, q28, h⟩ := hq
      change AA c [.slot 10 (Az q28), .res (AK p_0 y62), .res (acc q28 33 32 (dC 32) y63)] a w at h
      refine Bd ?_
      show Code.wp prog _ _ a w
      refine As mixed hn hG h [501, 500, 1, 2] (ov [0] (Ab q0) <| ov [500] (Ae q0) <| ov [] (Ae qi) .nil) fun _ a w h => ?_
      refine wp_ret ?_
      obtain rfl := Option.some.inj hF
      exact ⟨.inl rfl, CJ h (rs := [.tmp 6, .tmp 7]) (Vs := [(AJ (dC 32) y63), (Ag .i64 0)]) results22 (by decide) ⟨(Ke 0 3 rfl rfl), (Ba 1 rfl), trivial⟩ [2] [(AK p_0 y62)] rfl rfl rfl⟩

def B6.j1 (x11 : Int) (x31 : List UInt8) (x32 : Option AD) : Option (Cn ((List UInt8) × (Option AD)) (Int × (Option AD) × (List UInt8))) := some (.cont (IntKind.wrap .i64 (x11 + 1), x32, x31))
def B6.b1 (a_2 : Int) (a_3 : List (List UInt8)) (x11 : Int) (x12 : Option AD) (x13 : List UInt8) : Option (Cn ((List UInt8) × (Option AD)) (Int × (Option AD) × (List UInt8))) := (if (decide (x11 < (((a_3.take (if (32 : Int) < (a_3.length : Int) then (32 : Int) else (a_3.length : Int)).toNat).drop (0 : Int).toNat).length : Int))) = true then (if (0 : Int) ≤ x11 ∧ x11 < ((a_3.take (if (32 : Int) < (a_3.length : Int) then (32 : Int) else (a_3.length : Int)).toNat).drop (0 : Int).toNat).length then (if (0 : Int) ≤ x11 then (if (decide ((bits .and .u32 (shr .u32 a_2 x11) 1) = (1 : Int))) = true then ((DR x12 (((a_3.take (if (32 : Int) < (a_3.length : Int) then (32 : Int) else (a_3.length : Int)).toNat).drop (0 : Int).toNat).getD x11.toNat default) x13).bind fun r34 => B6.j1 x11 r34.1 r34.2) else ((DR x12 x13 (((a_3.take (if (32 : Int) < (a_3.length : Int) then (32 : Int) else (a_3.length : Int)).toNat).drop (0 : Int).toNat).getD x11.toNat default)).bind fun r35 => B6.j1 x11 r35.1 r35.2)) else none) else none) else some (.brk (x11, x12, x13)))
def B6 (L_0 : Option AD) (a_1 : List UInt8) (a_2 : Int) (a_3 : List (List UInt8)) : Option ((List UInt8) × (Option AD)) := (if (0 : Int) ≤ 0 ∧ (0 : Int) ≤ (if (32 : Int) < (a_3.length : Int) then (32 : Int) else (a_3.length : Int)) ∧ (if (32 : Int) < (a_3.length : Int) then (32 : Int) else (a_3.length : Int)) ≤ a_3.length then ((Bu (fun s : Int × (Option AD) × (List UInt8) => B6.b1 a_2 a_3 s.1 s.2.1 s.2.2) (((((a_3.take (if (32 : Int) < (a_3.length : Int) then (32 : Int) else (a_3.length : Int)).toNat).drop (0 : Int).toNat).length : Int) - 0 : Int).toNat + 2) (0, L_0, a_1)).bind fun cr => match cr with | .ret r => some r | .next (y40, y41, y42) => some (y42, y41)) else none)
theorem JD {p_0 : Value} {L_0 : Option AD} {a_1 : List UInt8} {a_2 : Int} {a_3 : List (List UInt8)} {r : (List UInt8) × (Option AD)} (hF : B6 L_0 a_1 a_2 a_3 = some r) : AH prog KG 57 [(Az p_0), (Au [Af 32 a_1]), (Ag .u32 a_2), (AJ (dC 32) a_3)] [(AK p_0 L_0)] (fun _ => [AK p_0 r.2]) (Au [Af 32 r.1]) := by
 refine AH.intro 37 func57 rfl ntmps57 (Nat.le_of_ble_eq_true rfl) ?_
 intro c a w hG hn h
 unfold B6 at hF
 change AA c [.slot 0 (Az p_0), .slot 1 (Au [Af 32 a_1]), .slot 2 (Ag .u32 a_2), .slot 3 (AJ (dC 32) a_3), .res (AK p_0 L_0)] a w at h
 refine As mixed hn hG h [0, 2, 3, 503, 501, 4, 502, 500] (ob [1] (Bc q0 (Ai _)) <| ob [] (AR zeroValue33 FT) .nil) fun b1 a w h => ?_
 refine wp_seq ?_
 obtain ⟨hv3, hF⟩ := AF hF
 refine As mixed hn hG h [0, 1, 3, 4, 502, 501, 500, 5, 6, 7] (ov [2] (Ab q0) <| ov [2] (Ab q0) <| ov [500] (A6 underlying27 q0) <| ov [500] (M7 q0 qi) <| ov [503, 500] (E3 (a := 0) (b := (if (32 : Int) < (a_3.length : Int) then (32 : Int) else (a_3.length : Int))) underlying27 sizeOf33 (Bk 32) q0 rfl ⟨_, q1⟩ hv3) <| ov [500] (A6 underlying27 q0) <| ov [] (Ab qi) .nil) fun _ a w h => ?_
 refine wp_block ?_
 obtain ⟨cr36, hl37, hF⟩ := bind_some hF
 refine wp_mono (Bx (R := (List UInt8) × (Option AD)) (S := Int × (Option AD) × (List UInt8)) (fun s a w => AA c [.slot 0 (Az p_0), .slot 2 (Ag .u32 a_2), .slot 5 (Av (b1 0) 0), .slot 8 (Av (b1 1) 0), .slot 15 (AJ (dC 32) ((a_3.take (if (32 : Int) < (a_3.length : Int) then (32 : Int) else (a_3.length : Int)).toNat).drop (0 : Int).toNat)), .slot 16 (Ag .i64 (((a_3.take (if (32 : Int) < (a_3.length : Int) then (32 : Int) else (a_3.length : Int)).toNat).drop (0 : Int).toNat).length : Int)), .slot 17 (Ag .i64 s.1), .res (AK p_0 s.2.1), .res (lb (b1 0) 33 [Af 32 s.2.2]), .res (lb (b1 1) 33 [Af 32 (List.replicate 32 0)])] a w) (fun res e a w => match res with | .next s => e = .exit 0 ∧ AA c [.slot 5 (Av (b1 0) 0), .slot 8 (Av (b1 1) 0), .res (AK p_0 s.2.1), .res (lb (b1 0) 33 [Af 32 s.2.2]), .res (lb (b1 1) 33 [Af 32 (List.replicate 32 0)])] a w | .ret r => e = .ret ∧ Cu prog f57 c (Au [Af 32 r.1]) (fun _ => [AK p_0 r.2]) a w) ?_ _ (0, L_0, a_1) _ _ _ (h.sub [0, 1, 2, 3, 4, 5, 6, 7, 8, 9] (by rfl)) hl37) ?_
 ·clear hl37 hF h
  intro s a w o h hF
  obtain ⟨x11, x12, x13⟩ := s
  change B6.b1 a_2 a_3 x11 x12 x13 = some o at hF
  unfold B6.b1 at hF
  change AA c [.slot 0 (Az p_0), .slot 2 (Ag .u32 a_2), .slot 5 (Av (b1 0) 0), .slot 8 (Av (b1 1) 0), .slot 15 (AJ (dC 32) ((a_3.take (if (32 : Int) < (a_3.length : Int) then (32 : Int) else (a_3.length : Int)).toNat).drop (0 : Int).toNat)), .slot 16 (Ag .i64 (((a_3.take (if (32 : Int) < (a_3.length : Int) then (32 : Int) else (a_3.length : Int)).toNat).drop (0 : Int).toNat).length : Int)), .slot 17 (Ag .i64 x11), .res (AK p_0 x12), .res (lb (b1 0) 33 [Af 32 x13]), .res (lb (b1 1) 33 [Af 32 (List.replicate 32 0)])] a w at h
  refine As mixed hn hG h [0, 1, 2, 3, 4, 5, 6, 500, 7, 8, 9] (ov [6, 5] (Ak Bl q0 q1) .nil) fun _ a w h => ?_
  refine wp_seq ?_
  refine CC h hF 7 [0, 1, 2, 3, 4, 5, 6, 8, 9, 10] [0, 1, 2, 3, 4, 5, 6, 8, 9, 10] (fun hb25 hF h => ?_) (fun hb25 hF h => ?_)
  ·refine wp_skip ?_
   show Code.wp prog _ _ a w
   refine wp_seq ?_
   refine wp_block ?_
   obtain ⟨hv26, hF⟩ := AF hF
   refine As mixed hn hG h [0, 1, 2, 3, 501, 503, 4, 5, 6, 7, 8, 9, 500] (ov [6] (Ab q0) <| ov [4, 6] (AS underlying27 sizeOf33 (Bk 32) q0 q1 hv26) <| ov [500] (Bq [Af 32 (((a_3.take (if (32 : Int) < (a_3.length : Int) then (32 : Int) else (a_3.length : Int)).toNat).drop (0 : Int).toNat).getD x11.toNat default)] [] isAgg33 sizeOf33 q0 rfl) <| ob [] (AR zeroValue33 FT) <| ov [504] (Ae q0) <| og [502, 503] [501] [.res 3 100000 (fun v1_ _ => (lb (v1_) 33 [Af 32 (((a_3.take (if (32 : Int) < (a_3.length : Int) then (32 : Int) else (a_3.length : Int)).toNat).drop (0 : Int).toNat).getD x11.toNat default)]))] (AB.plain (Aq sizeOf33 q0 q1 (Ai _)) rfl) .nil) fun b27 a w h => ?_
   obtain ⟨hv28, hF⟩ := AF hF
   refine As mixed hn hG h [0, 1, 2, 3, 5, 6, 7, 8, 500, 9, 10, 11, 12] (ov [1] (Ab q0) <| ov [4] (Ab q0) <| ov [501, 500] (Ak (HO hv28) q0 q1) <| ov [500] (Ak Ew q0 qi) <| ov [500] (Ak CI q0 qi) .nil) fun _ a w h => ?_
   refine wp_cut (fun a w => ∃ (x31 : List UInt8), ∃ (x32 : Option AD), B6.j1 x11 x31 x32 = some o ∧ AA c [.slot 0 (Az p_0), .slot 2 (Ag .u32 a_2), .slot 5 (Av (b1 0) 0), .slot 8 (Av (b1 1) 0), .slot 15 (AJ (dC 32) ((a_3.take (if (32 : Int) < (a_3.length : Int) then (32 : Int) else (a_3.length : Int)).toNat).drop (0 : Int).toNat)), .slot 16 (Ag .i64 (((a_3.take (if (32 : Int) < (a_3.length : Int) then (32 : Int) else (a_3.length : Int)).toNat).drop (0 : Int).toNat).length : Int)), .slot 17 (Ag .i64 x11), .res (lb (b1 0) 33 [Af 32 x31]), .res (lb (b1 1) 33 [Af 32 (List.replicate 32 0)]), .res (AK p_0 x32)] a w) ?_ ?_
   ·refine CC h hF 8 [0, 1, 2, 3, 4, 5, 6, 7, 9, 10, 11, 12] [0, 1, 2, 3, 4, 5, 6, 7, 9, 10, 11, 12] (fun hb33 hF h => ?_) (fun hb33 hF h => ?_)
    ·obtain ⟨r34, hr34, hF⟩ := bind_some hF
     refine Cd mixed hn hG h [0, 1, 2, 3, 5, 6, 7, 500, 10, 501] (ov [0] (Ab q0) <| ov [4, 11] (An 1 isAgg33 sizeOf33 q0) <| ov [2, 9] (An 1 isAgg33 sizeOf33 q0) <| oc [502, 501, 500] [8] call87 (Fi hr34) ⟨q0, q1, q2, trivial⟩ <| ou [2, 501] 9 (Aq sizeOf33 q0 q1 (Ai _)) .nil) fun _ a w h => ?_
     exact ⟨r34.1, r34.2, hF, h.sub [0, 1, 2, 3, 4, 5, 6, 7, 8, 9] (by rfl)⟩
    ·obtain ⟨r35, hr35, hF⟩ := bind_some hF
     refine Cd mixed hn hG h [0, 1, 2, 3, 5, 6, 7, 500, 10, 501] (ov [0] (Ab q0) <| ov [2, 9] (An 1 isAgg33 sizeOf33 q0) <| ov [4, 11] (An 1 isAgg33 sizeOf33 q0) <| oc [502, 501, 500] [8] call87 (Fi hr35) ⟨q0, q1, q2, trivial⟩ <| ou [2, 501] 9 (Aq sizeOf33 q0 q1 (Ai _)) .nil) fun _ a w h => ?_
     exact ⟨r35.1, r35.2, hF, h.sub [0, 1, 2, 3, 4, 5, 6, 7, 8, 9] (by rfl)⟩
   ·clear h hF
    rintro a w ⟨x31, x32, hF, h⟩
    unfold B6.j1 at hF
    show Code.wp prog _ _ a w
    refine Cd mixed hn hG h [0, 1, 2, 3, 4, 5, 500, 7, 8, 9] (ov [6] (Ak A9 q0 qi) <| od [500] 6 (Ab q0) .nil) fun _ a w h => ?_
    obtain rfl := Option.some.inj hF
    exact ⟨rfl, h.sub [0, 1, 2, 3, 4, 5, 6, 9, 7, 8] (by rfl)⟩
  ·refine wp_exit ?_
   obtain rfl := Option.some.inj hF
   exact ⟨BK _, rfl, h.sub [2, 3, 7, 8, 9] (by rfl)⟩
 ·clear hl37
  intro e a w hq
  cases cr36 with
  | ret r38 =>
   obtain ⟨rfl, hq⟩ := hq
   obtain rfl := Option.some.inj hF
   exact ⟨.inl rfl, hq⟩
  | next s39 =>
   obtain ⟨y40, y41, y42⟩ := s39
   obtain ⟨rfl, h⟩ := hq
   change AA c [.slot 5 (Av (b1 0) 0), .slot 8 (Av (b1 1) 0), .res (AK p_0 y41), .res (lb (b1 0) 33 [Af 32 y42]), .res (lb (b1 1) 33 [Af 32 (List.replicate 32 0)])] a w at h
   refine Bd ?_
   show Code.wp prog _ _ a w
   refine As mixed hn hG h [1, 2, 500] (ov [0, 3] (An 1 isAgg33 sizeOf33 q0) <| ou [1, 500] 4 (Aq sizeOf33 q0 q1 (Ai _)) .nil) fun _ a w h => ?_
   refine wp_ret ?_
   obtain rfl := Option.some.inj hF
   exact ⟨.inl rfl, BW h results57 (Be 0 2 rfl rfl isAgg33 sizeOf33 rfl) [1] [(AK p_0 y41)] rfl rfl rfl⟩

def BG.j3 (r7 : (List UInt8) × (Option AD)) (x23 : Aa) : Option (Aa × Int × (Option AD)) := some (x23, 0, r7.2)
def BG.j2 (a_1 : Aa) (a_3 : List UInt8) (r7 : (List UInt8) × (Option AD)) (r11 : Int) (x16 : Bool) : Option (Aa × Int × (Option AD)) := (if x16 = true then some (a_1, 6, r7.2) else ((Cq a_1.Ah).bind fun r18 => (if (decide ((0 : Int) ≤ r11)) = true then (if (0 : Int) ≤ r11 ∧ r11 < r18.length then BG.j3 r7 (Aa.mk a_1.AX a_1.BC a_1.AQ a_1.AP a_1.A4 a_1.AN a_1.Ay (r18.set r11.toNat (Al.mk a_3 1 r7.1)) a_1.Bj a_1.BR) else none) else (if r18.length + [(Al.mk a_3 1 r7.1)].length ≤ CW ∧ (r18.length + [(Al.mk a_3 1 r7.1)].length) * 72 ≤ 140737488355328 then BG.j3 r7 (Aa.mk a_1.AX a_1.BC a_1.AQ a_1.AP a_1.A4 a_1.AN a_1.Ay (r18 ++ [(Al.mk a_3 1 r7.1)]) a_1.Bj a_1.BR) else none))))
def BG.j1 (a_1 : Aa) (a_3 : List UInt8) (r7 : (List UInt8) × (Option AD)) (r11 : Int) (x14 : Bool) : Option (Aa × Int × (Option AD)) := (if x14 = true then some (a_1, 37, r7.2) else (if (decide (r11 < (0 : Int))) = true then BG.j2 a_1 a_3 r7 r11 (decide ((4096 : Int) ≤ (a_1.Ah.length : Int))) else BG.j2 a_1 a_3 r7 r11 false))
def BG (L_0 : Option AD) (a_1 : Aa) (a_2 : Int) (a_3 : List UInt8) (a_4 : Int) (a_5 : List (List UInt8)) : Option (Aa × Int × (Option AD)) := ((Cy a_1).bind fun r4 => (if (!decide (r4 = (0 : Int))) = true then some (a_1, r4, L_0) else (if (!decide ((a_5.length : Int) = (32 : Int))) = true then some (a_1, 35, L_0) else ((B6 L_0 a_3 a_4 a_5).bind fun r7 => ((Eh a_1 r7.1 a_2).bind fun r9 => (if (!decide (r9 = (0 : Int))) = true then some (a_1, r9, r7.2) else ((Ee a_1 a_3).bind fun r11 => (if (decide ((0 : Int) ≤ r11)) = true then (if (0 : Int) ≤ r11 ∧ r11 < a_1.Ah.length then BG.j1 a_1 a_3 r7 r11 (decide (((a_1.Ah.getD r11.toNat default).BD) = (2 : Int))) else none) else BG.j1 a_1 a_3 r7 r11 false))))))))
theorem I0 {p_0 : Value} {L_0 : Option AD} {a_1 : Aa} {a_2 : Int} {a_3 : List UInt8} {a_4 : Int} {a_5 : List (List UInt8)} {r : Aa × Int × (Option AD)} (hF : BG L_0 a_1 a_2 a_3 a_4 a_5 = some r) : AH prog KG 23 [(Az p_0), (Au (Aa.ck a_1)), (Ag .u64 a_2), (Au [Af 32 a_3]), (Ag .u32 a_4), (AJ (dC 32) a_5)] [(AK p_0 L_0)] (fun _ => [AK p_0 r.2.2]) (Db [(Au (Aa.ck r.1)), (Ag .i64 r.2.1)]) := by
 refine AH.intro 89 func23 rfl ntmps23 (Nat.le_of_ble_eq_true rfl) ?_
 intro c a w hG hn h
 unfold BG at hF
 change AA c [.slot 0 (Az p_0), .slot 1 (Au (Aa.ck a_1)), .slot 2 (Ag .u64 a_2), .slot 3 (Au [Af 32 a_3]), .slot 4 (Ag .u32 a_4), .slot 5 (AJ (dC 32) a_5), .res (AK p_0 L_0)] a w at h
 refine As mixed hn hG h [0, 2, 4, 5, 506, 504, 502, 6, 505, 503, 501] (ob [1] (Bc q0 (Ai _)) <| ob [3] (Bc q0 (Ai _)) <| ob [] (AR zeroValue41 MN) <| ov [] (Ae qi) .nil) fun b1 a w h => ?_
 refine wp_seq ?_
 obtain ⟨r4, hr4, hF⟩ := bind_some hF
 refine As mixed hn hG h [0, 1, 2, 3, 4, 5, 6, 500, 7, 8, 9, 10] (ov [4, 8] (An 1 isAgg41 sizeOf41 q0) <| oc [500] [] call56 (FV hr4) ⟨q0, trivial⟩ <| ov [500] (Ae q0) .nil) fun _ a w h => ?_
 refine As mixed hn hG h [0, 1, 2, 3, 4, 5, 6, 7, 500, 8, 9, 10, 11] (ov [7] (Ab q0) <| ov [500] (Ak Bg q0 qi) .nil) fun _ a w h => ?_
 refine CC h hF 8 [4, 6, 7, 9, 10, 12] [0, 1, 2, 3, 4, 5, 6, 9, 10, 11, 12] (fun hb5 hF h => ?_) (fun hb5 hF h => ?_)
 ·refine As mixed hn hG h [1, 500, 3, 501] (ov [0, 4] (An 1 isAgg41 sizeOf41 q0) <| ov [2] (Ab q0) <| ou [1, 501] 5 (Aq sizeOf41 q0 q1 (Ai _)) <| ov [501] (Ae q0) .nil) fun _ a w h => ?_
  refine wp_ret ?_
  obtain rfl := Option.some.inj hF
  exact ⟨.inl rfl, CJ h (rs := [.cell 12 41, .tmp 13]) (Vs := [(Au (Aa.ck a_1)), (Ag .i64 r4)]) results23 (by decide) ⟨(Be 0 3 rfl rfl isAgg41 sizeOf41 rfl), (Ba 1 rfl), trivial⟩ [2] [(AK p_0 L_0)] rfl rfl rfl⟩
 ·refine wp_skip ?_
  show Code.wp prog _ _ a w
  refine wp_seq ?_
  refine As mixed hn hG h [0, 1, 2, 3, 4, 5, 6, 500, 7, 8, 9, 10] (ov [3] (Ab q0) <| ov [500] (A6 underlying27 q0) <| ov [500] (Ak Bg q0 qi) .nil) fun _ a w h => ?_
  refine CC h hF 7 [4, 6, 8, 9, 11] [0, 1, 2, 3, 4, 5, 6, 8, 9, 10, 11] (fun hb6 hF h => ?_) (fun hb6 hF h => ?_)
  ·refine As mixed hn hG h [1, 500, 2, 501] (ov [0, 3] (An 1 isAgg41 sizeOf41 q0) <| ou [1, 500] 4 (Aq sizeOf41 q0 q1 (Ai _)) <| ov [] (Ae qi) .nil) fun _ a w h => ?_
   refine wp_ret ?_
   obtain rfl := Option.some.inj hF
   exact ⟨.inl rfl, CJ h (rs := [.cell 12 41, .tmp 13]) (Vs := [(Au (Aa.ck a_1)), (Ag .i64 35)]) results23 (by decide) ⟨(Be 0 3 rfl rfl isAgg41 sizeOf41 rfl), (Ba 1 rfl), trivial⟩ [2] [(AK p_0 L_0)] rfl rfl rfl⟩
  ·refine wp_skip ?_
   show Code.wp prog _ _ a w
   obtain ⟨r7, hr7, hF⟩ := bind_some hF
   refine As mixed hn hG h [1, 4, 5, 6, 502, 8, 9, 10, 503, 500] (ov [0] (Ab q0) <| ov [5, 9] (An 1 isAgg33 sizeOf33 q0) <| ov [2] (Ab q0) <| ov [3] (Ab q0) <| oc [503, 502, 501, 500] [7] call57 (JD hr7) ⟨q0, q1, q2, q3, trivial⟩ <| ob [] (AR zeroValue33 FT) <| og [501, 503] [500] [.res 5 100000 (fun v1_ _ => (lb (v1_) 33 [Af 32 r7.1]))] (AB.plain (Aq sizeOf33 q0 q1 (Ai _)) rfl) .nil) fun b8 a w h => ?_
   refine wp_seq ?_
   obtain ⟨r9, hr9, hF⟩ := bind_some hF
   refine As mixed hn hG h [1, 2, 3, 4, 500, 5, 6, 7, 8, 9] (ov [1, 5] (An 1 isAgg41 sizeOf41 q0) <| ov [4, 9] (An 1 isAgg33 sizeOf33 q0) <| ov [0] (Ab q0) <| oc [502, 501, 500] [] call58 (Gz hr9) ⟨q0, q1, q2, trivial⟩ <| ov [500] (Ae q0) .nil) fun _ a w h => ?_
   refine As mixed hn hG h [0, 1, 2, 3, 4, 500, 5, 6, 7, 8, 9] (ov [4] (Ab q0) <| ov [500] (Ak Bg q0 qi) .nil) fun _ a w h => ?_
   refine CC h hF 5 [0, 2, 4, 6, 8, 9] [0, 1, 2, 3, 6, 7, 8, 9, 10] (fun hb10 hF h => ?_) (fun hb10 hF h => ?_)
   ·refine As mixed hn hG h [1, 500, 501, 5] (ov [0, 3] (An 1 isAgg41 sizeOf41 q0) <| ov [2] (Ab q0) <| ou [1, 501] 4 (Aq sizeOf41 q0 q1 (Ai _)) <| ov [501] (Ae q0) .nil) fun _ a w h => ?_
    refine wp_ret ?_
    obtain rfl := Option.some.inj hF
    exact ⟨.inl rfl, CJ h (rs := [.cell 12 41, .tmp 13]) (Vs := [(Au (Aa.ck a_1)), (Ag .i64 r9)]) results23 (by decide) ⟨(Be 0 2 rfl rfl isAgg41 sizeOf41 rfl), (Ba 1 rfl), trivial⟩ [3] [(AK p_0 r7.2)] rfl rfl rfl⟩
   ·refine wp_skip ?_
    show Code.wp prog _ _ a w
    obtain ⟨r11, hr11, hF⟩ := bind_some hF
    refine As mixed hn hG h [0, 1, 2, 3, 500, 4, 5, 6, 7, 8] (ov [0, 4] (An 1 isAgg41 sizeOf41 q0) <| ov [1, 5] (An 1 isAgg33 sizeOf33 q0) <| oc [501, 500] [] call41 (DT hr11) ⟨q0, q1, trivial⟩ <| ov [500] (Ae q0) .nil) fun _ a w h => ?_
    refine As mixed hn hG h [0, 2, 4, 502, 5, 7, 8, 500] (ov [1, 6] (An 1 isAgg33 sizeOf33 q0) <| ov [3, 9] (An 1 isAgg33 sizeOf33 q0) <| ov [501, 500] (Dw [(0, .tmp 45), (1, .const (.int .i64 1)), (2, .tmp 46)] rfl Pt LU ⟨[], [Af 32 (List.replicate 32 0)], [one (Ag .i64 (0 : Int)), Af 32 (List.replicate 32 0)], [Af 32 a_3], _, rfl, rfl, rfl, q0, (Ai _), ⟨[Af 32 a_3], [one (Ag .i64 (0 : Int))], [Af 32 (List.replicate 32 0)], [one (Ag .i64 1)], _, rfl, rfl, rfl, qi, (AG (A8 _ _)), ⟨[Af 32 a_3, one (Ag .i64 1)], [Af 32 (List.replicate 32 0)], [], [Af 32 r7.1], _, rfl, rfl, rfl, q1, (Ai _), rfl⟩⟩⟩) <| ob [] (AR zeroValue110 LU) <| og [501, 502] [500] [.res 3 100000 (fun v1_ _ => (lb (v1_) 110 [Af 32 a_3, one (Ag .i64 1), Af 32 r7.1]))] (AB.plain (Aq sizeOf110 q0 q1 (Ai _)) rfl) .nil) fun b12 a w h => ?_
    refine wp_seq ?_
    refine wp_block ?_
    refine wp_seq ?_
    refine wp_cut (fun a w => ∃ (x14 : Bool), BG.j1 a_1 a_3 r7 r11 x14 = some r ∧ AA c [.slot 7 (Av (b1 0) 0), .slot 12 (Av (b1 2) 0), .slot 17 (Ag .i64 r11), .slot 18 (Av (b12 3) 0), .slot 48 (AL x14), .res (lb (b1 0) 41 (Aa.ck a_1)), .res (lb (b1 2) 41 (Aa.ck (Aa.mk (0 : Int) (0 : Int) (List.replicate 32 0) [] (0 : Int) (List.replicate 32 0) [] [] false false))), .res (AK p_0 r7.2), .res (lb (b12 3) 110 [Af 32 a_3, one (Ag .i64 1), Af 32 r7.1])] a w) ?_ ?_
    ·rcases Bool.eq_false_or_eq_true (decide ((0 : Int) ≤ r11)) with hb29 | hb29
     ·replace hF := CQ hb29 hF
      obtain ⟨hv13, hF⟩ := AF hF
      refine Cd mixed hn hG h [0, 1, 2, 3, 500, 4, 5, 6, 7] (ov [2] (Ab q0) <| ov [500] (Ak Ef q0 qi) <| ov [500] (Ab q0) <| oe [500, 0] [] (AB.Aw hb29 rfl rfl rfl (Ad (p := (b1 0)) (n := 1) 0 69 underlying41 rfl sizeOf39 (by decide) q0 rfl)) <| oe [501, 500, 4] [] (AB.Aw hb29 rfl rfl rfl (Aj ((Aa.ck a_1).take 7) ((Aa.ck a_1).drop 8) 1 isAgg39 q0 rfl rfl)) <| oe [502, 2] [] (AB.Aw hb29 rfl rfl rfl (Ab q0)) <| oe [503, 501, 500] [] (AB.Aw hb29 rfl rfl rfl (AS underlying39 sizeOf110 Al.lens q0 q1 hv13)) <| oe [504, 500] [] (AB.Aw hb29 rfl rfl rfl (EV (n := 1) [Af 32 ((a_1.Ah.getD r11.toNat default).BJ)] _ underlying110 rfl sizeOf3 (by decide) q0 rfl)) <| oe [505, 500] [] (AB.Aw hb29 rfl rfl rfl (Ds [Af 32 ((a_1.Ah.getD r11.toNat default).Bt)] isAgg3 q0)) <| oe [506, 500] [] (AB.Aw hb29 rfl rfl rfl (Ak CI q0 qi)) <| ov [507, 500] (AU hb29 q0 q1) <| ov [500] (Ae q0) .nil) fun _ a w h => ?_
      exact ⟨decide (((a_1.Ah.getD r11.toNat default).BD) = (2 : Int)), hF, h.sub [0, 1, 2, 3, 4, 5, 6, 7, 8] (by rfl)⟩
     ·replace hF := CT hb29 hF
      refine Cd mixed hn hG h [0, 1, 2, 3, 500, 4, 5, 6, 7] (ov [2] (Ab q0) <| ov [500] (Ak Ef q0 qi) <| ov [500] (Ab q0) <| oe [500] [] (AB.At (want := true) hb29 rfl rfl rfl rfl) <| oe [501] [] (AB.At (want := true) hb29 rfl rfl rfl rfl) <| oe [502] [] (AB.At (want := true) hb29 rfl rfl rfl rfl) <| oe [503] [] (AB.At (want := true) hb29 rfl rfl rfl rfl) <| oe [504] [] (AB.At (want := true) hb29 rfl rfl rfl rfl) <| oe [505] [] (AB.At (want := true) hb29 rfl rfl rfl rfl) <| oe [506] [] (AB.At (want := true) hb29 rfl rfl rfl rfl) <| ov [507] (AV hb29 q0 qb) <| ov [500] (Ae q0) .nil) fun _ a w h => ?_
      exact ⟨false, hF, h.sub [0, 1, 2, 3, 4, 5, 6, 7, 8] (by rfl)⟩
    ·clear h hF
     rintro a w ⟨x14, hF, h⟩
     unfold BG.j1 at hF
     show Code.wp prog _ _ a w
     refine CC h hF 4 [0, 1, 5, 6, 7] [0, 1, 2, 3, 5, 6, 7, 8] (fun hb15 hF h => ?_) (fun hb15 hF h => ?_)
     ·refine As mixed hn hG h [1, 500, 501, 4] (ov [0, 2] (An 1 isAgg41 sizeOf41 q0) <| ou [1, 500] 3 (Aq sizeOf41 q0 q1 (Ai _)) <| ov [] (Ae qi) .nil) fun _ a w h => ?_
      refine wp_ret ?_
      obtain rfl := Option.some.inj hF
      exact ⟨.inl rfl, CJ h (rs := [.cell 12 41, .tmp 13]) (Vs := [(Au (Aa.ck a_1)), (Ag .i64 37)]) results23 (by decide) ⟨(Be 0 2 rfl rfl isAgg41 sizeOf41 rfl), (Ba 1 rfl), trivial⟩ [3] [(AK p_0 r7.2)] rfl rfl rfl⟩
     ·refine wp_seq ?_
      refine wp_cut (fun a w => ∃ (x16 : Bool), BG.j2 a_1 a_3 r7 r11 x16 = some r ∧ AA c [.slot 7 (Av (b1 0) 0), .slot 12 (Av (b1 2) 0), .slot 17 (Ag .i64 r11), .slot 18 (Av (b12 3) 0), .slot 61 (AL x16), .res (lb (b1 0) 41 (Aa.ck a_1)), .res (lb (b1 2) 41 (Aa.ck (Aa.mk (0 : Int) (0 : Int) (List.replicate 32 0) [] (0 : Int) (List.replicate 32 0) [] [] false false))), .res (AK p_0 r7.2), .res (lb (b12 3) 110 [Af 32 a_3, one (Ag .i64 1), Af 32 r7.1])] a w) ?_ ?_
      ·rcases Bool.eq_false_or_eq_true (decide (r11 < (0 : Int))) with hb28 | hb28
       ·replace hF := CQ hb28 hF
        refine Cd mixed hn hG h [0, 1, 2, 3, 500, 4, 5, 6, 7] (ov [2] (Ab q0) <| ov [500] (Ak Bl q0 qi) <| ov [500] (Ab q0) <| oe [500, 0] [] (AB.Aw hb28 rfl rfl rfl (Ad (p := (b1 0)) (n := 1) 0 69 underlying41 rfl sizeOf39 (by decide) q0 rfl)) <| oe [501, 500, 4] [] (AB.Aw hb28 rfl rfl rfl (Aj ((Aa.ck a_1).take 7) ((Aa.ck a_1).drop 8) 1 isAgg39 q0 rfl rfl)) <| oe [502, 500] [] (AB.Aw hb28 rfl rfl rfl (A6 underlying39 q0)) <| oe [503, 500] [] (AB.Aw hb28 rfl rfl rfl (Ak Ef q0 qi)) <| ov [504, 500] (AU hb28 q0 q1) <| ov [500] (Ae q0) .nil) fun _ a w h => ?_
        exact ⟨decide ((4096 : Int) ≤ (a_1.Ah.length : Int)), hF, h.sub [0, 1, 2, 3, 4, 5, 6, 7, 8] (by rfl)⟩
       ·replace hF := CT hb28 hF
        refine Cd mixed hn hG h [0, 1, 2, 3, 500, 4, 5, 6, 7] (ov [2] (Ab q0) <| ov [500] (Ak Bl q0 qi) <| ov [500] (Ab q0) <| oe [500] [] (AB.At (want := true) hb28 rfl rfl rfl rfl) <| oe [501] [] (AB.At (want := true) hb28 rfl rfl rfl rfl) <| oe [502] [] (AB.At (want := true) hb28 rfl rfl rfl rfl) <| oe [503] [] (AB.At (want := true) hb28 rfl rfl rfl rfl) <| ov [504] (AV hb28 q0 qb) <| ov [500] (Ae q0) .nil) fun _ a w h => ?_
        exact ⟨false, hF, h.sub [0, 1, 2, 3, 4, 5, 6, 7, 8] (by rfl)⟩
      ·clear h hF
       rintro a w ⟨x16, hF, h⟩
       unfold BG.j2 at hF
       show Code.wp prog _ _ a w
       refine CC h hF 4 [0, 1, 5, 6, 7] [0, 1, 2, 3, 5, 6, 7, 8] (fun hb17 hF h => ?_) (fun hb17 hF h => ?_)
       ·refine As mixed hn hG h [1, 500, 501, 4] (ov [0, 2] (An 1 isAgg41 sizeOf41 q0) <| ou [1, 500] 3 (Aq sizeOf41 q0 q1 (Ai _)) <| ov [] (Ae qi) .nil) fun _ a w h => ?_
        refine wp_ret ?_
        obtain rfl := Option.some.inj hF
        exact ⟨.inl rfl, CJ h (rs := [.cell 12 41, .tmp 13]) (Vs := [(Au (Aa.ck a_1)), (Ag .i64 6)]) results23 (by decide) ⟨(Be 0 2 rfl rfl isAgg41 sizeOf41 rfl), (Ba 1 rfl), trivial⟩ [3] [(AK p_0 r7.2)] rfl rfl rfl⟩
       ·refine wp_skip ?_
        show Code.wp prog _ _ a w
        obtain ⟨r18, hr18, hF⟩ := bind_some hF
        refine As mixed hn hG h [0, 1, 2, 3, 500, 5, 6, 7, 502] (ov [0] (Ad (p := (b1 0)) (n := 1) 0 69 underlying41 rfl sizeOf39 (by decide) q0 rfl) <| ov [500, 4] (Aj ((Aa.ck a_1).take 7) ((Aa.ck a_1).drop 8) 1 isAgg39 q0 rfl rfl) <| og [500] [] [.slot 73 2 100000 (fun v1_ _ => (Az v1_)), .res 2 100000 (fun v1_ _ => (own (v1_) 110 65 Al.ck r18))] (AB.plain (Kj call59 (Ey hr18) ⟨q0, trivial⟩) rfl) <| ov [0] (Ad (p := (b1 0)) (n := 1) 0 69 underlying41 rfl sizeOf39 (by decide) q0 rfl) <| og [500, 502, 501] [4] [.res 2 100000 (fun v1_ _ => (lb (b1 0) 41 [one (Ag .u32 a_1.AX), one (Ag .u32 a_1.BC), Af 32 a_1.AQ, one (AJ (dC 32) a_1.AP), one (Ag .u64 a_1.A4), Af 32 a_1.AN, one (AJ Ao.ck a_1.Ay), one (Az (v1_)), one (AL a_1.Bj), one (AL a_1.BR)]))] (fun {β} => (AB.plain (B8 ((Aa.ck a_1).take 7) [one (AJ Al.ck a_1.Ah)] ((Aa.ck a_1).drop 8) [one (Az ((β 2)))] sizeOf39 q0 (HU 1 2 rfl rfl Iy) (FG _) rfl rfl rfl) rfl)) .nil) fun b19 a w h => ?_
        refine wp_seq ?_
        refine As mixed hn hG h [0, 1, 2, 3, 500, 4, 5, 6, 7, 8] (ov [2] (Ab q0) <| ov [500] (Ak Ef q0 qi) .nil) fun _ a w h => ?_
        refine wp_cut (fun a w => ∃ (x23 : Aa), BG.j3 r7 x23 = some r ∧ AA c [.slot 7 (Av (b1 0) 0), .slot 12 (Av (b1 2) 0), .res (lb (b1 0) 41 (Aa.ck x23)), .res (lb (b1 2) 41 (Aa.ck (Aa.mk (0 : Int) (0 : Int) (List.replicate 32 0) [] (0 : Int) (List.replicate 32 0) [] [] false false))), .res (AK p_0 r7.2)] a w) ?_ ?_
        ·refine CC h hF 4 [0, 1, 2, 3, 5, 6, 7, 8, 9] [0, 1, 3, 5, 6, 7, 8, 9] (fun hb24 hF h => ?_) (fun hb24 hF h => ?_)
         ·obtain ⟨hv25, hF⟩ := AF hF
          refine Cd mixed hn hG h [0, 1, 4, 5, 6, 500] (ov [0] (Ad (p := (b1 0)) (n := 1) 0 69 underlying41 rfl sizeOf39 (by decide) q0 rfl) <| ov [500, 4] (Aj ((Aa.ck a_1).take 7) ((Aa.ck a_1).drop 8) 1 isAgg39 q0 rfl rfl) <| ov [2] (Ab q0) <| ov [3, 7] (An 1 isAgg110 sizeOf110 q0) <| ov [502, 8, 501] (Fz 0 1 underlying39 sizeOf110 rfl rfl q2 hv25) <| ou [500, 501] 8 (G0 (i := r11) (c := Al.ck) (z := (Al.mk a_3 1 r7.1)) Al.lens [] (Al.ck (r18.getD r11.toNat default)) [] [Af 32 a_3, one (Ag .i64 1), Af 32 r7.1] sizeOf110 q0 q1 (Ai _) rfl rfl rfl rfl rfl hv25) .nil) fun _ a w h => ?_
          replace h := h.I2 5 rfl
          change AA c [.slot 7 (Av (b1 0) 0), .slot 12 (Av (b1 2) 0), .res (lb (b1 0) 41 [one (Ag .u32 a_1.AX), one (Ag .u32 a_1.BC), Af 32 a_1.AQ, one (AJ (dC 32) a_1.AP), one (Ag .u64 a_1.A4), Af 32 a_1.AN, one (AJ Ao.ck a_1.Ay), one (Az (b19 2)), one (AL a_1.Bj), one (AL a_1.BR)]), .res (lb (b1 2) 41 (Aa.ck (Aa.mk (0 : Int) (0 : Int) (List.replicate 32 0) [] (0 : Int) (List.replicate 32 0) [] [] false false))), .res (AK p_0 r7.2), .res (acc (b19 2) 110 65 Al.ck (r18.set r11.toNat (Al.mk a_3 1 r7.1)))] a w at h
          replace h := h.F4 2 5 rfl rfl (by decide)
          replace h := h.conv 2 rfl (settle (pre := ((Aa.ck a_1).take 7)) (post := ((Aa.ck a_1).drop 8)))
          replace h := h.sep 2 rfl
          replace h := h.sub [0, 1, 2, 3, 4] (by rfl)
          change AA c [.slot 7 (Av (b1 0) 0), .slot 12 (Av (b1 2) 0), .res (lb (b1 0) 41 [one (Ag .u32 a_1.AX), one (Ag .u32 a_1.BC), Af 32 a_1.AQ, one (AJ (dC 32) a_1.AP), one (Ag .u64 a_1.A4), Af 32 a_1.AN, one (AJ Ao.ck a_1.Ay), one (AJ Al.ck (r18.set r11.toNat (Al.mk a_3 1 r7.1))), one (AL a_1.Bj), one (AL a_1.BR)]), .res (lb (b1 2) 41 (Aa.ck (Aa.mk (0 : Int) (0 : Int) (List.replicate 32 0) [] (0 : Int) (List.replicate 32 0) [] [] false false))), .res (AK p_0 r7.2)] a w at h
          exact ⟨(Aa.mk a_1.AX a_1.BC a_1.AQ a_1.AP a_1.A4 a_1.AN a_1.Ay (r18.set r11.toNat (Al.mk a_3 1 r7.1)) a_1.Bj a_1.BR), hF, h.sub [0, 1, 2, 3, 4] (by rfl)⟩
         ·obtain ⟨hv26, hF⟩ := AF hF
          refine Cd mixed hn hG h [0, 1, 500, 4, 5, 502] (ov [0] (Ad (p := (b1 0)) (n := 1) 0 69 underlying41 rfl sizeOf39 (by decide) q0 rfl) <| ov [500, 3] (Aj ((Aa.ck a_1).take 7) ((Aa.ck a_1).drop 8) 1 isAgg39 q0 rfl rfl) <| ov [2, 6] (An 1 isAgg110 sizeOf110 q0) <| ov [500] (CP (xs := [.tmp 84]) (ys := [(Al.mk a_3 1 r7.1)]) _ rfl underlying39 sizeOf110 zeroValue110 rfl rfl (by decide) (by decide) ⟨⟨_, q0, (Ai _)⟩, trivial⟩ Al.lens) <| og [502, 500] [7] [.slot 86 4 100000 (fun v1_ _ => (Az v1_)), .res 4 100000 (fun v1_ _ => (own (v1_) 110 65 Al.ck (r18 ++ [(Al.mk a_3 1 r7.1)])))] (AB.plain (Ff (i := t110) underlying39 type110 rfl Al.lens (by decide) rfl q0 q1 hv26) rfl) <| ov [0] (Ad (p := (b1 0)) (n := 1) 0 69 underlying41 rfl sizeOf39 (by decide) q0 rfl) <| og [500, 502, 501] [3] [.res 4 100000 (fun v1_ _ => (lb (b1 0) 41 [one (Ag .u32 a_1.AX), one (Ag .u32 a_1.BC), Af 32 a_1.AQ, one (AJ (dC 32) a_1.AP), one (Ag .u64 a_1.A4), Af 32 a_1.AN, one (AJ Ao.ck a_1.Ay), one (Az (v1_)), one (AL a_1.Bj), one (AL a_1.BR)]))] (fun {β} => (AB.plain (B8 ((Aa.ck a_1).take 7) [one (Az (b19 2))] ((Aa.ck a_1).drop 8) [one (Az ((β 4)))] sizeOf39 q0 (HU 1 2 rfl rfl Iy) (FG _) rfl rfl rfl) rfl)) .nil) fun b27 a w h => ?_
          replace h := h.I2 5 rfl
          change AA c [.slot 7 (Av (b1 0) 0), .slot 12 (Av (b1 2) 0), .res (lb (b1 0) 41 [one (Ag .u32 a_1.AX), one (Ag .u32 a_1.BC), Af 32 a_1.AQ, one (AJ (dC 32) a_1.AP), one (Ag .u64 a_1.A4), Af 32 a_1.AN, one (AJ Ao.ck a_1.Ay), one (Az (b27 4)), one (AL a_1.Bj), one (AL a_1.BR)]), .res (lb (b1 2) 41 (Aa.ck (Aa.mk (0 : Int) (0 : Int) (List.replicate 32 0) [] (0 : Int) (List.replicate 32 0) [] [] false false))), .res (AK p_0 r7.2), .res (acc (b27 4) 110 65 Al.ck (r18 ++ [(Al.mk a_3 1 r7.1)]))] a w at h
          replace h := h.F4 2 5 rfl rfl (by decide)
          replace h := h.conv 2 rfl (settle (pre := ((Aa.ck a_1).take 7)) (post := ((Aa.ck a_1).drop 8)))
          replace h := h.sep 2 rfl
          replace h := h.sub [0, 1, 2, 3, 4] (by rfl)
          change AA c [.slot 7 (Av (b1 0) 0), .slot 12 (Av (b1 2) 0), .res (lb (b1 0) 41 [one (Ag .u32 a_1.AX), one (Ag .u32 a_1.BC), Af 32 a_1.AQ, one (AJ (dC 32) a_1.AP), one (Ag .u64 a_1.A4), Af 32 a_1.AN, one (AJ Ao.ck a_1.Ay), one (AJ Al.ck (r18 ++ [(Al.mk a_3 1 r7.1)])), one (AL a_1.Bj), one (AL a_1.BR)]), .res (lb (b1 2) 41 (Aa.ck (Aa.mk (0 : Int) (0 : Int) (List.replicate 32 0) [] (0 : Int) (List.replicate 32 0) [] [] false false))), .res (AK p_0 r7.2)] a w at h
          exact ⟨(Aa.mk a_1.AX a_1.BC a_1.AQ a_1.AP a_1.A4 a_1.AN a_1.Ay (r18 ++ [(Al.mk a_3 1 r7.1)]) a_1.Bj a_1.BR), hF, h.sub [0, 1, 2, 3, 4] (by rfl)⟩
        ·clear h hF
         rintro a w ⟨x23, hF, h⟩
         unfold BG.j3 at hF
         show Code.wp prog _ _ a w
         refine As mixed hn hG h [1, 500, 501, 4] (ov [0, 2] (An 1 isAgg41 sizeOf41 q0) <| ou [1, 500] 3 (Aq sizeOf41 q0 q1 (Ai _)) <| ov [] (Ae qi) .nil) fun _ a w h => ?_
         refine wp_ret ?_
         obtain rfl := Option.some.inj hF
         exact ⟨.inl rfl, CJ h (rs := [.cell 12 41, .tmp 13]) (Vs := [(Au (Aa.ck x23)), (Ag .i64 0)]) results23 (by decide) ⟨(Be 0 2 rfl rfl isAgg41 sizeOf41 rfl), (Ba 1 rfl), trivial⟩ [3] [(AK p_0 r7.2)] rfl rfl rfl⟩

def DG.b1 (a_1 : Int) (x2 : Int) (x3 : Int) : Option (Cn Bool (Int × Int)) := (if (decide (x3 < a_1)) = true then some (.cont (IntKind.wrap .u32 (x2.tdiv 2), IntKind.wrap .i64 (x3 + 1))) else some (.brk (x2, x3)))
def DG (a_0 : Int) (a_1 : Int) : Option Bool := ((Bu (fun s : Int × Int => DG.b1 a_1 s.1 s.2) ((a_1 - 0 : Int).toNat + 2) (a_0, 0)).bind fun cr => match cr with | .ret r => some r | .next (y12, y13) => some (decide ((y12.tmod 2) = (1 : Int))))
theorem Lt {a_0 : Int} {a_1 : Int} {r : Bool} (hF : DG a_0 a_1 = some r) : AH prog KG 96 [(Ag .u32 a_0), (Ag .i64 a_1)] [] (fun _ => []) (AL r) := by
 refine AH.intro 16 func96 rfl ntmps96 (Nat.le_of_ble_eq_true rfl) ?_
 intro c a w hG hn h
 unfold DG at hF
 change AA c [.slot 0 (Ag .u32 a_0), .slot 1 (Ag .i64 a_1)] a w at h
 refine As mixed hn hG h [0, 1] (ov [] (Ae qb) .nil) fun _ a w h => ?_
 refine wp_seq ?_
 refine As mixed hn hG h [0, 1, 500] (ov [] (Ae qi) .nil) fun _ a w h => ?_
 refine wp_block ?_
 obtain ⟨cr8, hl9, hF⟩ := bind_some hF
 refine wp_mono (Bx (R := Bool) (S := Int × Int) (fun s a w => AA c [.slot 0 (Ag .u32 s.1), .slot 1 (Ag .i64 a_1), .slot 5 (Ag .i64 s.2)] a w) (fun res e a w => match res with | .next s => e = .exit 0 ∧ AA c [.slot 0 (Ag .u32 s.1)] a w | .ret r => e = .ret ∧ Cu prog f96 c (AL r) (fun _ => []) a w) ?_ _ (a_0, 0) _ _ _ (h.sub [0, 1, 2] (by rfl)) hl9) ?_
 ·clear hl9 hF h
  intro s a w o h hF
  obtain ⟨x2, x3⟩ := s
  change DG.b1 a_1 x2 x3 = some o at hF
  unfold DG.b1 at hF
  change AA c [.slot 0 (Ag .u32 x2), .slot 1 (Ag .i64 a_1), .slot 5 (Ag .i64 x3)] a w at h
  refine wp_seq ?_
  refine As mixed hn hG h [0, 1, 2, 500] (ov [2] (Ab q0) <| ov [1] (Ab q0) <| ov [501, 500] (Ak Bl q0 q1) .nil) fun _ a w h => ?_
  refine CC h hF 3 [0, 1, 2] [0, 1, 2] (fun hb7 hF h => ?_) (fun hb7 hF h => ?_)
  ·refine wp_skip ?_
   show Code.wp prog _ _ a w
   refine wp_seq ?_
   refine wp_block ?_
   refine Cd mixed hn hG h [500, 1, 2] (ov [0] (Ab q0) <| ov [500] (Ak (FH (by decide)) q0 qi) <| od [500] 0 (Ae q0) .nil) fun _ a w h => ?_
   show Code.wp prog _ _ a w
   refine Cd mixed hn hG h [0, 1, 500] (ov [2] (Ab q0) <| ov [500] (Ak A9 q0 qi) <| od [500] 2 (Ae q0) .nil) fun _ a w h => ?_
   obtain rfl := Option.some.inj hF
   exact ⟨rfl, h.sub [0, 1, 2] (by rfl)⟩
  ·refine wp_exit ?_
   obtain rfl := Option.some.inj hF
   exact ⟨BK _, rfl, h.sub [0] (by rfl)⟩
 ·clear hl9
  intro e a w hq
  cases cr8 with
  | ret r10 =>
   obtain ⟨rfl, hq⟩ := hq
   obtain rfl := Option.some.inj hF
   exact ⟨.inl rfl, hq⟩
  | next s11 =>
   obtain ⟨y12, y13⟩ := s11
   obtain ⟨rfl, h⟩ := hq
   change AA c [.slot 0 (Ag .u32 y12)] a w at h
   refine Bd ?_
   show Code.wp prog _ _ a w
   refine As mixed hn hG h [500] (ov [0] (Ab q0) <| ov [500] (Ak (DH (by decide)) q0 qi) <| ov [500] (Ak CI q0 qi) <| ov [500] (Ae q0) .nil) fun _ a w h => ?_
   refine wp_ret ?_
   obtain rfl := Option.some.inj hF
   exact ⟨.inl rfl, BW h results96 (Ba 0 rfl) [] [] rfl rfl rfl⟩

def BS.j2 (x12 : Int) (x34 : List UInt8) (x35 : Option A2) : Option (Cn ((List UInt8) × (Option A2)) (Int × (Option A2) × (List UInt8))) := some (.cont (IntKind.wrap .i64 (x12 + 1), x35, x34))
def BS.j1 (a_2 : Int) (a_3 : List (List UInt8)) (x12 : Int) (x13 : Option A2) (x14 : List UInt8) (x27 : Bool) : Option (Cn ((List UInt8) × (Option A2)) (Int × (Option A2) × (List UInt8))) := (if x27 = true then ((DG a_2 x12).bind fun r29 => (if r29 = true then (if (0 : Int) ≤ x12 ∧ x12 < a_3.length then ((Dg x13 6 (a_3.getD x12.toNat default) x14).bind fun r38 => BS.j2 x12 r38.1 r38.2) else none) else (if (0 : Int) ≤ x12 ∧ x12 < a_3.length then ((Dg x13 6 x14 (a_3.getD x12.toNat default)).bind fun r40 => BS.j2 x12 r40.1 r40.2) else none))) else some (.brk (x12, x13, x14)))
def BS.b1 (a_2 : Int) (a_3 : List (List UInt8)) (x12 : Int) (x13 : Option A2) (x14 : List UInt8) : Option (Cn ((List UInt8) × (Option A2)) (Int × (Option A2) × (List UInt8))) := (if (decide (x12 < (a_3.length : Int))) = true then BS.j1 a_2 a_3 x12 x13 x14 (decide (x12 < (32 : Int))) else BS.j1 a_2 a_3 x12 x13 x14 false)
def BS (L_0 : Option A2) (a_1 : List UInt8) (a_2 : Int) (a_3 : List (List UInt8)) : Option ((List UInt8) × (Option A2)) := ((Bu (fun s : Int × (Option A2) × (List UInt8) => BS.b1 a_2 a_3 s.1 s.2.1 s.2.2) 100000 (0, L_0, a_1)).bind fun cr => match cr with | .ret r => some r | .next (y46, y47, y48) => some (y48, y47))
theorem J6 {p_0 : Value} {L_0 : Option A2} {a_1 : List UInt8} {a_2 : Int} {a_3 : List (List UInt8)} {r : (List UInt8) × (Option A2)} (hF : BS L_0 a_1 a_2 a_3 = some r) : AH prog KG 60 [(Az p_0), (Au [Af 32 a_1]), (Ag .u32 a_2), (AJ (dC 32) a_3)] [(AZ p_0 L_0)] (fun _ => [AZ p_0 r.2]) (Au [Af 32 r.1]) := by
 refine AH.intro 38 func60 rfl ntmps60 (Nat.le_of_ble_eq_true rfl) ?_
 intro c a w hG hn h
 unfold BS at hF
 change AA c [.slot 0 (Az p_0), .slot 1 (Au [Af 32 a_1]), .slot 2 (Ag .u32 a_2), .slot 3 (AJ (dC 32) a_3), .res (AZ p_0 L_0)] a w at h
 refine As mixed hn hG h [0, 2, 3, 503, 501, 4, 502, 500] (ob [1] (Bc q0 (Ai _)) <| ob [] (AR zeroValue33 FT) .nil) fun b1 a w h => ?_
 refine wp_seq ?_
 refine As mixed hn hG h [0, 1, 2, 3, 4, 500, 5, 6, 7] (ov [] (Ae qi) .nil) fun _ a w h => ?_
 refine wp_block ?_
 obtain ⟨cr42, hl43, hF⟩ := bind_some hF
 refine wp_mono (Bx (R := (List UInt8) × (Option A2)) (S := Int × (Option A2) × (List UInt8)) (fun s a w => AA c [.slot 0 (Az p_0), .slot 2 (Ag .u32 a_2), .slot 3 (AJ (dC 32) a_3), .slot 5 (Av (b1 0) 0), .slot 8 (Av (b1 1) 0), .slot 9 (Ag .i64 s.1), .res (AZ p_0 s.2.1), .res (lb (b1 0) 33 [Af 32 s.2.2]), .res (lb (b1 1) 33 [Af 32 (List.replicate 32 0)])] a w) (fun res e a w => match res with | .next s => e = .exit 0 ∧ AA c [.slot 5 (Av (b1 0) 0), .slot 8 (Av (b1 1) 0), .res (AZ p_0 s.2.1), .res (lb (b1 0) 33 [Af 32 s.2.2]), .res (lb (b1 1) 33 [Af 32 (List.replicate 32 0)])] a w | .ret r => e = .ret ∧ Cu prog f60 c (Au [Af 32 r.1]) (fun _ => [AZ p_0 r.2]) a w) ?_ _ (0, L_0, a_1) _ _ _ (h.sub [0, 1, 2, 3, 4, 5, 6, 7, 8] (by rfl)) hl43) ?_
 ·clear hl43 hF h
  intro s a w o h hF
  obtain ⟨x12, x13, x14⟩ := s
  change BS.b1 a_2 a_3 x12 x13 x14 = some o at hF
  unfold BS.b1 at hF
  change AA c [.slot 0 (Az p_0), .slot 2 (Ag .u32 a_2), .slot 3 (AJ (dC 32) a_3), .slot 5 (Av (b1 0) 0), .slot 8 (Av (b1 1) 0), .slot 9 (Ag .i64 x12), .res (AZ p_0 x13), .res (lb (b1 0) 33 [Af 32 x14]), .res (lb (b1 1) 33 [Af 32 (List.replicate 32 0)])] a w at h
  refine wp_seq ?_
  refine wp_seq ?_
  refine wp_cut (fun a w => ∃ (x27 : Bool), BS.j1 a_2 a_3 x12 x13 x14 x27 = some o ∧ AA c [.slot 0 (Az p_0), .slot 2 (Ag .u32 a_2), .slot 3 (AJ (dC 32) a_3), .slot 5 (Av (b1 0) 0), .slot 8 (Av (b1 1) 0), .slot 9 (Ag .i64 x12), .slot 17 (AL x27), .res (AZ p_0 x13), .res (lb (b1 0) 33 [Af 32 x14]), .res (lb (b1 1) 33 [Af 32 (List.replicate 32 0)])] a w) ?_ ?_
  ·rcases Bool.eq_false_or_eq_true (decide (x12 < (a_3.length : Int))) with hb41 | hb41
   ·replace hF := CQ hb41 hF
    refine Cd mixed hn hG h [0, 1, 2, 3, 4, 5, 500, 6, 7, 8] (ov [5] (Ab q0) <| ov [2] (Ab q0) <| ov [500] (A6 underlying27 q0) <| ov [502, 500] (Ak Bl q0 q1) <| ov [500] (Ab q0) <| oe [500, 5] [] (AB.Aw hb41 rfl rfl rfl (Ab q0)) <| oe [501, 500] [] (AB.Aw hb41 rfl rfl rfl (Ak Bl q0 qi)) <| ov [502, 500] (AU hb41 q0 q1) .nil) fun _ a w h => ?_
    exact ⟨decide (x12 < (32 : Int)), hF, h.sub [0, 1, 2, 3, 4, 5, 6, 7, 8, 9] (by rfl)⟩
   ·replace hF := CT hb41 hF
    refine Cd mixed hn hG h [0, 1, 2, 3, 4, 5, 500, 6, 7, 8] (ov [5] (Ab q0) <| ov [2] (Ab q0) <| ov [500] (A6 underlying27 q0) <| ov [502, 500] (Ak Bl q0 q1) <| ov [500] (Ab q0) <| oe [500] [] (AB.At (want := true) hb41 rfl rfl rfl rfl) <| oe [501] [] (AB.At (want := true) hb41 rfl rfl rfl rfl) <| ov [502] (AV hb41 q0 qb) .nil) fun _ a w h => ?_
    exact ⟨false, hF, h.sub [0, 1, 2, 3, 4, 5, 6, 7, 8, 9] (by rfl)⟩
  ·clear h hF
   rintro a w ⟨x27, hF, h⟩
   unfold BS.j1 at hF
   show Code.wp prog _ _ a w
   refine CC h hF 6 [0, 1, 2, 3, 4, 5, 7, 8, 9] [0, 1, 2, 3, 4, 5, 7, 8, 9] (fun hb28 hF h => ?_) (fun hb28 hF h => ?_)
   ·refine wp_skip ?_
    show Code.wp prog _ _ a w
    refine wp_seq ?_
    refine wp_block ?_
    obtain ⟨r29, hr29, hF⟩ := bind_some hF
    refine As mixed hn hG h [0, 1, 2, 3, 4, 5, 500, 6, 7, 8] (ov [1] (Ab q0) <| ov [5] (Ab q0) <| oc [501, 500] [] call96 (Lt hr29) ⟨q0, q1, trivial⟩ .nil) fun _ a w h => ?_
    refine wp_cut (fun a w => ∃ (x34 : List UInt8), ∃ (x35 : Option A2), BS.j2 x12 x34 x35 = some o ∧ AA c [.slot 0 (Az p_0), .slot 2 (Ag .u32 a_2), .slot 3 (AJ (dC 32) a_3), .slot 5 (Av (b1 0) 0), .slot 8 (Av (b1 1) 0), .slot 9 (Ag .i64 x12), .res (lb (b1 0) 33 [Af 32 x34]), .res (lb (b1 1) 33 [Af 32 (List.replicate 32 0)]), .res (AZ p_0 x35)] a w) ?_ ?_
    ·refine CC h hF 6 [0, 1, 2, 3, 4, 5, 7, 8, 9] [0, 1, 2, 3, 4, 5, 7, 8, 9] (fun hb36 hF h => ?_) (fun hb36 hF h => ?_)
     ·obtain ⟨hv37, hF⟩ := AF hF
      obtain ⟨r38, hr38, hF⟩ := bind_some hF
      refine Cd mixed hn hG h [0, 1, 2, 3, 4, 5, 500, 8, 501] (ov [0] (Ab q0) <| ov [2] (Ab q0) <| ov [5] (Ab q0) <| ov [501, 500] (AS underlying27 sizeOf33 (Bk 32) q0 q1 hv37) <| ov [500] (Bq [Af 32 (a_3.getD x12.toNat default)] [] isAgg33 sizeOf33 q0 rfl) <| ov [3, 7] (An 1 isAgg33 sizeOf33 q0) <| oc [505, 501, 500] [6] call76 (EK hr38) ⟨q0, qi, q1, q2, trivial⟩ <| ou [3, 501] 7 (Aq sizeOf33 q0 q1 (Ai _)) .nil) fun _ a w h => ?_
      exact ⟨r38.1, r38.2, hF, h.sub [0, 1, 2, 3, 4, 5, 6, 7, 8] (by rfl)⟩
     ·obtain ⟨hv39, hF⟩ := AF hF
      obtain ⟨r40, hr40, hF⟩ := bind_some hF
      refine Cd mixed hn hG h [0, 1, 2, 3, 4, 5, 500, 8, 501] (ov [0] (Ab q0) <| ov [3, 7] (An 1 isAgg33 sizeOf33 q0) <| ov [2] (Ab q0) <| ov [5] (Ab q0) <| ov [501, 500] (AS underlying27 sizeOf33 (Bk 32) q0 q1 hv39) <| ov [500] (Bq [Af 32 (a_3.getD x12.toNat default)] [] isAgg33 sizeOf33 q0 rfl) <| oc [505, 504, 500] [6] call76 (EK hr40) ⟨q0, qi, q1, q2, trivial⟩ <| ou [3, 501] 7 (Aq sizeOf33 q0 q1 (Ai _)) .nil) fun _ a w h => ?_
      exact ⟨r40.1, r40.2, hF, h.sub [0, 1, 2, 3, 4, 5, 6, 7, 8] (by rfl)⟩
    ·clear h hF
     rintro a w ⟨x34, x35, hF, h⟩
     unfold BS.j2 at hF
     show Code.wp prog _ _ a w
     refine Cd mixed hn hG h [0, 1, 2, 3, 4, 500, 6, 7, 8] (ov [5] (Ab q0) <| ov [500] (Ak A9 q0 qi) <| od [500] 5 (Ae q0) .nil) fun _ a w h => ?_
     obtain rfl := Option.some.inj hF
     exact ⟨rfl, h.sub [0, 1, 2, 3, 4, 5, 8, 6, 7] (by rfl)⟩
   ·refine wp_exit ?_
    obtain rfl := Option.some.inj hF
    exact ⟨BK _, rfl, h.sub [3, 4, 6, 7, 8] (by rfl)⟩
 ·clear hl43
  intro e a w hq
  cases cr42 with
  | ret r44 =>
   obtain ⟨rfl, hq⟩ := hq
   obtain rfl := Option.some.inj hF
   exact ⟨.inl rfl, hq⟩
  | next s45 =>
   obtain ⟨y46, y47, y48⟩ := s45
   obtain ⟨rfl, h⟩ := hq
   change AA c [.slot 5 (Av (b1 0) 0), .slot 8 (Av (b1 1) 0), .res (AZ p_0 y47), .res (lb (b1 0) 33 [Af 32 y48]), .res (lb (b1 1) 33 [Af 32 (List.replicate 32 0)])] a w at h
   refine Bd ?_
   show Code.wp prog _ _ a w
   refine As mixed hn hG h [1, 2, 500] (ov [0, 3] (An 1 isAgg33 sizeOf33 q0) <| ou [1, 500] 4 (Aq sizeOf33 q0 q1 (Ai _)) .nil) fun _ a w h => ?_
   refine wp_ret ?_
   obtain rfl := Option.some.inj hF
   exact ⟨.inl rfl, BW h results60 (Be 0 2 rfl rfl isAgg33 sizeOf33 rfl) [1] [(AZ p_0 y47)] rfl rfl rfl⟩

def Cr.b1 (a_0 : Aa) (a_1 : List UInt8) (x8 : Int) : Option (Cn (Int × (List UInt8)) Int) := (if (decide (x8 < (a_0.Ah.length : Int))) = true then (if (0 : Int) ≤ x8 ∧ x8 < a_0.Ah.length then (if (decide (((a_0.Ah.getD x8.toNat default).BJ) = a_1)) = true then some (.ret ((a_0.Ah.getD x8.toNat default).BD, (a_0.Ah.getD x8.toNat default).Bt)) else some (.cont (IntKind.wrap .i64 (x8 + 1)))) else none) else some (.brk x8))
def Cr (a_0 : Aa) (a_1 : List UInt8) : Option (Int × (List UInt8)) := ((Bu (fun s : Int => Cr.b1 a_0 a_1 s) (((a_0.Ah.length : Int) - 0 : Int).toNat + 2) 0).bind fun cr => match cr with | .ret r => some r | .next y22 => some (0, (List.replicate 32 0)))
theorem He {a_0 : Aa} {a_1 : List UInt8} {r : Int × (List UInt8)} (hF : Cr a_0 a_1 = some r) : AH prog KG 61 [(Au (Aa.ck a_0)), (Au [Af 32 a_1])] [] (fun _ => []) (Db [(Ag .i64 r.1), (Au [Af 32 r.2])]) := by
 refine AH.intro 25 func61 rfl ntmps61 (Nat.le_of_ble_eq_true rfl) ?_
 intro c a w hG hn h
 unfold Cr at hF
 change AA c [.slot 0 (Au (Aa.ck a_0)), .slot 1 (Au [Af 32 a_1])] a w at h
 refine As mixed hn hG h [506, 504, 501, 505, 503, 500] (ob [0] (Bc q0 (Ai _)) <| ob [1] (Bc q0 (Ai _)) <| ov [] (Ae qi) <| ob [] (AR zeroValue33 FT) .nil) fun b1 a w h => ?_
 refine wp_seq ?_
 refine As mixed hn hG h [1, 2, 502, 501, 500, 4, 5] (ov [0] (Ad (p := (b1 0)) (n := 1) 0 69 underlying41 rfl sizeOf39 (by decide) q0 rfl) <| ov [500, 3] (Aj ((Aa.ck a_0).take 7) ((Aa.ck a_0).drop 8) 1 isAgg39 q0 rfl rfl) <| ov [500] (A6 underlying39 q0) <| ov [] (Ab qi) .nil) fun _ a w h => ?_
 refine wp_block ?_
 obtain ⟨cr18, hl19, hF⟩ := bind_some hF
 refine wp_mono (Bx (R := Int × (List UInt8)) (S := Int) (fun s a w => AA c [.slot 3 (Av (b1 1) 0), .slot 5 (Av (b1 3) 0), .slot 9 (AJ Al.ck a_0.Ah), .slot 10 (Ag .i64 (a_0.Ah.length : Int)), .slot 11 (Ag .i64 s), .res (lb (b1 1) 33 [Af 32 a_1]), .res (lb (b1 3) 33 [Af 32 (List.replicate 32 0)])] a w) (fun res e a w => match res with | .next s => e = .exit 0 ∧ AA c [.slot 5 (Av (b1 3) 0), .res (lb (b1 3) 33 [Af 32 (List.replicate 32 0)])] a w | .ret r => e = .ret ∧ Cu prog f61 c (Db [(Ag .i64 r.1), (Au [Af 32 r.2])]) (fun _ => []) a w) ?_ _ 0 _ _ _ (h.sub [0, 1, 2, 3, 4, 5, 6] (by rfl)) hl19) ?_
 ·clear hl19 hF h
  intro x8 a w o h hF
  change Cr.b1 a_0 a_1 x8 = some o at hF
  unfold Cr.b1 at hF
  change AA c [.slot 3 (Av (b1 1) 0), .slot 5 (Av (b1 3) 0), .slot 9 (AJ Al.ck a_0.Ah), .slot 10 (Ag .i64 (a_0.Ah.length : Int)), .slot 11 (Ag .i64 x8), .res (lb (b1 1) 33 [Af 32 a_1]), .res (lb (b1 3) 33 [Af 32 (List.replicate 32 0)])] a w at h
  refine As mixed hn hG h [0, 1, 2, 3, 4, 500, 5, 6] (ov [4, 3] (Ak Bl q0 q1) .nil) fun _ a w h => ?_
  refine wp_seq ?_
  refine CC h hF 5 [0, 1, 2, 3, 4, 6, 7] [0, 1, 2, 3, 4, 6, 7] (fun hb14 hF h => ?_) (fun hb14 hF h => ?_)
  ·refine wp_skip ?_
   show Code.wp prog _ _ a w
   refine wp_seq ?_
   refine wp_block ?_
   obtain ⟨hv15, hF⟩ := AF hF
   refine As mixed hn hG h [0, 1, 502, 2, 3, 4, 5, 6, 500] (ov [2, 4] (AS underlying39 sizeOf110 Al.lens q0 q1 hv15) <| ov [500] (Bq (Al.ck (a_0.Ah.getD x8.toNat default)) [] isAgg110 sizeOf110 q0 rfl) <| ob [] (AR zeroValue110 LU) <| og [501, 502] [500] [.res 2 100000 (fun v1_ _ => (lb (v1_) 110 (Al.ck (a_0.Ah.getD x8.toNat default))))] (AB.plain (Aq sizeOf110 q0 q1 (Ai _)) rfl) .nil) fun b16 a w h => ?_
   refine As mixed hn hG h [0, 1, 2, 3, 4, 5, 500, 6, 7, 8] (ov [2] (Ad (p := (b16 2)) (n := 32) 0 0 underlying110 rfl sizeOf33 (by decide) q0 rfl) <| ov [500, 8] (AT [] [Af 32 ((a_0.Ah.getD x8.toNat default).BJ)] ((Al.ck (a_0.Ah.getD x8.toNat default)).drop 1) 1 isAgg33 sizeOf33 q0 rfl rfl rfl) <| ov [0, 6] (An 1 isAgg33 sizeOf33 q0) <| ov [501, 500] (Ak (EF underlying33 underlying5 type5 sizeOf5 isAgg5 eqGuardType33) q0 q1) .nil) fun _ a w h => ?_
   refine CC h hF 6 [1, 2, 8, 9] [0, 1, 3, 4, 5, 7, 8] (fun hb17 hF h => ?_) (fun hb17 hF h => ?_)
   ·refine As mixed hn hG h [501, 0, 500] (ov [1] (Ad (p := (b16 2)) (n := 1) 0 32 underlying110 rfl sizeOf3 (by decide) q0 rfl) <| ov [500, 3] (Aj [Af 32 ((a_0.Ah.getD x8.toNat default).BJ)] [Af 32 ((a_0.Ah.getD x8.toNat default).Bt)] 1 isAgg3 q0 rfl rfl) <| ov [1] (Ad (p := (b16 2)) (n := 32) 0 33 underlying110 rfl sizeOf33 (by decide) q0 rfl) <| ov [500, 3] (AT ((Al.ck (a_0.Ah.getD x8.toNat default)).take 2) [Af 32 ((a_0.Ah.getD x8.toNat default).Bt)] [] 1 isAgg33 sizeOf33 q0 rfl rfl rfl) <| ov [502] (Ae q0) <| ou [0, 501] 2 (Aq sizeOf33 q0 q1 (Ai _)) .nil) fun _ a w h => ?_
    refine wp_ret ?_
    obtain rfl := Option.some.inj hF
    exact ⟨EA, rfl, CJ h (rs := [.tmp 4, .cell 5 33]) (Vs := [(Ag .i64 ((a_0.Ah.getD x8.toNat default).BD)), (Au [Af 32 ((a_0.Ah.getD x8.toNat default).Bt)])]) results61 (by decide) ⟨(Ba 0 rfl), (Be 1 2 rfl rfl isAgg33 sizeOf33 rfl), trivial⟩ [] [] rfl rfl rfl⟩
   ·refine wp_skip ?_
    show Code.wp prog _ _ a w
    refine Cd mixed hn hG h [0, 1, 2, 3, 500, 5, 6] (ov [4] (Ak A9 q0 qi) <| od [500] 4 (Ab q0) .nil) fun _ a w h => ?_
    obtain rfl := Option.some.inj hF
    exact ⟨rfl, h.sub [0, 1, 2, 3, 4, 5, 6] (by rfl)⟩
  ·refine wp_exit ?_
   obtain rfl := Option.some.inj hF
   exact ⟨BK _, rfl, h.sub [1, 6] (by rfl)⟩
 ·clear hl19
  intro e a w hq
  cases cr18 with
  | ret r20 =>
   obtain ⟨rfl, hq⟩ := hq
   obtain rfl := Option.some.inj hF
   exact ⟨.inl rfl, hq⟩
  | next y22 =>
   obtain ⟨rfl, h⟩ := hq
   change AA c [.slot 5 (Av (b1 3) 0), .res (lb (b1 3) 33 [Af 32 (List.replicate 32 0)])] a w at h
   refine Bd ?_
   show Code.wp prog _ _ a w
   refine As mixed hn hG h [501, 0, 500] (ov [] (KB zeroValue33 underlying33 sizeOf5 FT) <| ov [] (Ae qi) <| ou [0, 501] 1 (Aq sizeOf33 q0 q1 (Ai _)) .nil) fun _ a w h => ?_
   refine wp_ret ?_
   obtain rfl := Option.some.inj hF
   exact ⟨.inl rfl, CJ h (rs := [.tmp 4, .cell 5 33]) (Vs := [(Ag .i64 0), (Au [Af 32 (List.replicate 32 0)])]) results61 (by decide) ⟨(Ba 0 rfl), (Be 1 2 rfl rfl isAgg33 sizeOf33 rfl), trivial⟩ [] [] rfl rfl rfl⟩

def CM.b1 (a_0 : Aa) (a_1 : List UInt8) (x7 : Int) : Option (Cn Bool Int) := (if (decide (x7 < (a_0.Ah.length : Int))) = true then (if (0 : Int) ≤ x7 ∧ x7 < a_0.Ah.length then (if (decide (((a_0.Ah.getD x7.toNat default).BJ) = a_1)) = true then some (.ret true) else some (.cont (IntKind.wrap .i64 (x7 + 1)))) else none) else some (.brk x7))
def CM (a_0 : Aa) (a_1 : List UInt8) : Option Bool := ((Bu (fun s : Int => CM.b1 a_0 a_1 s) (((a_0.Ah.length : Int) - 0 : Int).toNat + 2) 0).bind fun cr => match cr with | .ret r => some r | .next y21 => some false)
theorem Ht {a_0 : Aa} {a_1 : List UInt8} {r : Bool} (hF : CM a_0 a_1 = some r) : AH prog KG 62 [(Au (Aa.ck a_0)), (Au [Af 32 a_1])] [] (fun _ => []) (AL r) := by
 refine AH.intro 19 func62 rfl ntmps62 (Nat.le_of_ble_eq_true rfl) ?_
 intro c a w hG hn h
 unfold CM at hF
 change AA c [.slot 0 (Au (Aa.ck a_0)), .slot 1 (Au [Af 32 a_1])] a w at h
 refine As mixed hn hG h [504, 502, 503, 501] (ob [0] (Bc q0 (Ai _)) <| ob [1] (Bc q0 (Ai _)) <| ov [] (Ae qb) .nil) fun b1 a w h => ?_
 refine wp_seq ?_
 refine As mixed hn hG h [1, 502, 501, 500, 3] (ov [0] (Ad (p := (b1 0)) (n := 1) 0 69 underlying41 rfl sizeOf39 (by decide) q0 rfl) <| ov [500, 2] (Aj ((Aa.ck a_0).take 7) ((Aa.ck a_0).drop 8) 1 isAgg39 q0 rfl rfl) <| ov [500] (A6 underlying39 q0) <| ov [] (Ab qi) .nil) fun _ a w h => ?_
 refine wp_block ?_
 obtain ⟨cr17, hl18, hF⟩ := bind_some hF
 refine wp_mono (Bx (R := Bool) (S := Int) (fun s a w => AA c [.slot 3 (Av (b1 1) 0), .slot 8 (AJ Al.ck a_0.Ah), .slot 9 (Ag .i64 (a_0.Ah.length : Int)), .slot 10 (Ag .i64 s), .res (lb (b1 1) 33 [Af 32 a_1])] a w) (fun res e a w => match res with | .next s => e = .exit 0 ∧ AA c [] a w | .ret r => e = .ret ∧ Cu prog f62 c (AL r) (fun _ => []) a w) ?_ _ 0 _ _ _ (h.sub [0, 1, 2, 3, 4] (by rfl)) hl18) ?_
 ·clear hl18 hF h
  intro x7 a w o h hF
  change CM.b1 a_0 a_1 x7 = some o at hF
  unfold CM.b1 at hF
  change AA c [.slot 3 (Av (b1 1) 0), .slot 8 (AJ Al.ck a_0.Ah), .slot 9 (Ag .i64 (a_0.Ah.length : Int)), .slot 10 (Ag .i64 x7), .res (lb (b1 1) 33 [Af 32 a_1])] a w at h
  refine As mixed hn hG h [0, 1, 2, 3, 500, 4] (ov [3, 2] (Ak Bl q0 q1) .nil) fun _ a w h => ?_
  refine wp_seq ?_
  refine CC h hF 4 [0, 1, 2, 3, 5] [0, 1, 2, 3, 5] (fun hb13 hF h => ?_) (fun hb13 hF h => ?_)
  ·refine wp_skip ?_
   show Code.wp prog _ _ a w
   refine wp_seq ?_
   refine wp_block ?_
   obtain ⟨hv14, hF⟩ := AF hF
   refine As mixed hn hG h [0, 502, 1, 2, 3, 4, 500] (ov [1, 3] (AS underlying39 sizeOf110 Al.lens q0 q1 hv14) <| ov [500] (Bq (Al.ck (a_0.Ah.getD x7.toNat default)) [] isAgg110 sizeOf110 q0 rfl) <| ob [] (AR zeroValue110 LU) <| og [501, 502] [500] [.res 2 100000 (fun v1_ _ => (lb (v1_) 110 (Al.ck (a_0.Ah.getD x7.toNat default))))] (AB.plain (Aq sizeOf110 q0 q1 (Ai _)) rfl) .nil) fun b15 a w h => ?_
   refine As mixed hn hG h [0, 2, 3, 4, 500, 5] (ov [1] (Ad (p := (b15 2)) (n := 32) 0 0 underlying110 rfl sizeOf33 (by decide) q0 rfl) <| ov [500, 6] (AT [] [Af 32 ((a_0.Ah.getD x7.toNat default).BJ)] ((Al.ck (a_0.Ah.getD x7.toNat default)).drop 1) 1 isAgg33 sizeOf33 q0 rfl rfl rfl) <| ov [0, 5] (An 1 isAgg33 sizeOf33 q0) <| ov [501, 500] (Ak (EF underlying33 underlying5 type5 sizeOf5 isAgg5 eqGuardType33) q0 q1) .nil) fun _ a w h => ?_
   refine CC h hF 4 [] [0, 1, 2, 3, 5] (fun hb16 hF h => ?_) (fun hb16 hF h => ?_)
   ·refine As mixed hn hG h [500] (ov [] (Ae qb) .nil) fun _ a w h => ?_
    refine wp_ret ?_
    obtain rfl := Option.some.inj hF
    exact ⟨EA, rfl, BW h results62 (Ba 0 rfl) [] [] rfl rfl rfl⟩
   ·refine wp_skip ?_
    show Code.wp prog _ _ a w
    refine Cd mixed hn hG h [0, 1, 2, 500, 4] (ov [3] (Ak A9 q0 qi) <| od [500] 3 (Ab q0) .nil) fun _ a w h => ?_
    obtain rfl := Option.some.inj hF
    exact ⟨rfl, h.sub [0, 1, 2, 3, 4] (by rfl)⟩
  ·refine wp_exit ?_
   obtain rfl := Option.some.inj hF
   exact ⟨BK _, rfl, h.sub [] (by rfl)⟩
 ·clear hl18
  intro e a w hq
  cases cr17 with
  | ret r19 =>
   obtain ⟨rfl, hq⟩ := hq
   obtain rfl := Option.some.inj hF
   exact ⟨.inl rfl, hq⟩
  | next y21 =>
   obtain ⟨rfl, h⟩ := hq
   change AA c [] a w at h
   refine Bd ?_
   show Code.wp prog _ _ a w
   refine As mixed hn hG h [500] (ov [] (Ae qb) .nil) fun _ a w h => ?_
   refine wp_ret ?_
   obtain rfl := Option.some.inj hF
   exact ⟨.inl rfl, BW h results62 (Ba 0 rfl) [] [] rfl rfl rfl⟩
end Go.Proofs.YteboiefnflipjaaGreatDoor
