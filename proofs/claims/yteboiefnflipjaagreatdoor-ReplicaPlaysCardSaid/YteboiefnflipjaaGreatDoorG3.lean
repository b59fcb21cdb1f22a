/- The functions' Lean twins and contracts, printed by this session's own program: part 3. -/
import Derived.Test.YteboiefnflipjaaGreatDoorG2
namespace Go.Proofs.YteboiefnflipjaaGreatDoor
open _root_.Go.Proofs.Tryz
open Go Go.RowKit Go.Proofs
set_option maxRecDepth 100000
set_option maxHeartbeats 4000000
set_option linter.unusedVariables false
set_option linter.unusedSimpArgs false
def EL (a_0 : Ar) : Option (List UInt8) := ((Dn a_0.D3).bind fun r2 => ((Dn a_0.G3).bind fun r3 => (if r2.length + r3.length ≤ CW then ((Dn a_0.FQ).bind fun r5 => (if (r2 ++ r3).length + r5.length ≤ CW then ((EH a_0.Gw).bind fun r7 => (if ((r2 ++ r3) ++ r5).length + r7.length ≤ CW then ((EH a_0.EZ).bind fun r9 => (if (((r2 ++ r3) ++ r5) ++ r7).length + r9.length ≤ CW then ((EH a_0.G4).bind fun r11 => (if ((((r2 ++ r3) ++ r5) ++ r7) ++ r9).length + r11.length ≤ CW then some (((((r2 ++ r3) ++ r5) ++ r7) ++ r9) ++ r11) else none)) else none)) else none)) else none)) else none)))
theorem JE {a_0 : Ar} {r : (List UInt8)} (hF : EL a_0 = some r) : AH prog KG 97 [(Au (Ar.ck a_0))] [] (fun _ => []) (Br r) := by
 refine AH.intro 26 func97 rfl ntmps97 (Nat.le_of_ble_eq_true rfl) ?_
 intro c a w hG hn h
 unfold EL at hF
 change AA c [.slot 0 (Au (Ar.ck a_0))] a w at h
 refine As mixed hn hG h [502, 501] (ob [0] (Bc q0 (Ai _)) <| ov [] (Ae (D2 (sc _ (by decide)))) .nil) fun b1 a w h => ?_
 obtain ⟨r2, hr2, hF⟩ := bind_some hF
 obtain ⟨r3, hr3, hF⟩ := bind_some hF
 obtain ⟨hv4, hF⟩ := AF hF
 obtain ⟨r5, hr5, hF⟩ := bind_some hF
 obtain ⟨hv6, hF⟩ := AF hF
 obtain ⟨r7, hr7, hF⟩ := bind_some hF
 obtain ⟨hv8, hF⟩ := AF hF
 obtain ⟨r9, hr9, hF⟩ := bind_some hF
 obtain ⟨hv10, hF⟩ := AF hF
 obtain ⟨r11, hr11, hF⟩ := bind_some hF
 obtain ⟨hv12, hF⟩ := AF hF
 refine As mixed hn hG h [500] (ov [0] (Ad (p := (b1 0)) (n := 1) 0 0 underlying31 rfl sizeOf29 (by decide) q0 rfl) <| ov [500, 1] (Aj [] ((Ar.ck a_0).drop 1) 1 isAgg29 q0 rfl rfl) <| oc [500] [] call89 (D6 hr2) ⟨q0, trivial⟩ <| ov [0] (Ad (p := (b1 0)) (n := 1) 0 1 underlying31 rfl sizeOf29 (by decide) q0 rfl) <| ov [500, 1] (Aj [one (Ag .u32 a_0.D3)] ((Ar.ck a_0).drop 2) 1 isAgg29 q0 rfl rfl) <| oc [500] [] call89 (D6 hr3) ⟨q0, trivial⟩ <| ov [503, 500] (Ak (DN hv4) q0 q1) <| ov [0] (Ad (p := (b1 0)) (n := 1) 0 2 underlying31 rfl sizeOf29 (by decide) q0 rfl) <| ov [500, 1] (Aj ((Ar.ck a_0).take 2) ((Ar.ck a_0).drop 3) 1 isAgg29 q0 rfl rfl) <| oc [500] [] call89 (D6 hr5) ⟨q0, trivial⟩ <| ov [503, 500] (Ak (DN hv6) q0 q1) <| ov [0] (Ad (p := (b1 0)) (n := 1) 0 3 underlying31 rfl sizeOf9 (by decide) q0 rfl) <| ov [500, 1] (Aj ((Ar.ck a_0).take 3) ((Ar.ck a_0).drop 4) 1 isAgg9 q0 rfl rfl) <| oc [500] [] call117 (F7 hr7) ⟨q0, trivial⟩ <| ov [503, 500] (Ak (DN hv8) q0 q1) <| ov [0] (Ad (p := (b1 0)) (n := 1) 0 4 underlying31 rfl sizeOf9 (by decide) q0 rfl) <| ov [500, 1] (Aj ((Ar.ck a_0).take 4) [one (Br a_0.G4)] 1 isAgg9 q0 rfl rfl) <| oc [500] [] call117 (F7 hr9) ⟨q0, trivial⟩ <| ov [503, 500] (Ak (DN hv10) q0 q1) <| ov [0] (Ad (p := (b1 0)) (n := 1) 0 5 underlying31 rfl sizeOf9 (by decide) q0 rfl) <| ov [500, 1] (Aj ((Ar.ck a_0).take 5) [] 1 isAgg9 q0 rfl rfl) <| oc [500] [] call117 (F7 hr11) ⟨q0, trivial⟩ <| ov [503, 500] (Ak (DN hv12) q0 q1) <| ov [500] (Ae q0) .nil) fun _ a w h => ?_
 refine wp_ret ?_
 obtain rfl := Option.some.inj hF
 exact ⟨.inl rfl, BW h results97 (Ba 0 rfl) [] [] rfl rfl rfl⟩

def EE (L_0 : Option AD) (a_1 : Ar) : Option ((List UInt8) × (Option AD)) := ((EL a_1).bind fun r3 => ((C9 L_0 5 [r3]).bind fun r4 => some (r4.1, r4.2)))
theorem Ko {p_0 : Value} {L_0 : Option AD} {a_1 : Ar} {r : (List UInt8) × (Option AD)} (hF : EE L_0 a_1 = some r) : AH prog KG 64 [(Az p_0), (Au (Ar.ck a_1))] [(AK p_0 L_0)] (fun _ => [AK p_0 r.2]) (Au [Af 32 r.1]) := by
 refine AH.intro 10 func64 rfl ntmps64 (Nat.le_of_ble_eq_true rfl) ?_
 intro c a w hG hn h
 unfold EE at hF
 change AA c [.slot 0 (Az p_0), .slot 1 (Au (Ar.ck a_1)), .res (AK p_0 L_0)] a w at h
 refine As mixed hn hG h [0, 503, 501, 2, 502, 500] (ob [1] (Bc q0 (Ai _)) <| ob [] (AR zeroValue33 FT) .nil) fun b1 a w h => ?_
 obtain ⟨r3, hr3, hF⟩ := bind_some hF
 obtain ⟨r4, hr4, hF⟩ := bind_some hF
 refine As mixed hn hG h [2, 500, 501] (ov [0] (Ab q0) <| ov [1, 4] (An 1 isAgg31 sizeOf31 q0) <| oc [500] [] call97 (JE hr3) ⟨q0, trivial⟩ <| ov [500] (CP (xs := [.tmp 7]) (ys := [r3]) _ rfl underlying22 sizeOf9 zeroValue9 rfl rfl (by decide) (by decide) ⟨⟨_, q0, (AG (CD _))⟩, trivial⟩ CF) <| oc [503, 500] [3] call80 (DA hr4) ⟨q0, qi, q1, trivial⟩ <| ou [2, 501] 5 (Aq sizeOf33 q0 q1 (Ai _)) .nil) fun _ a w h => ?_
 refine wp_ret ?_
 obtain rfl := Option.some.inj hF
 exact ⟨.inl rfl, BW h results64 (Be 0 1 rfl rfl isAgg33 sizeOf33 rfl) [2] [(AK p_0 r4.2)] rfl rfl rfl⟩

def BT.j2 (a_1 : Aa) (a_2 : Int) (r8 : (List UInt8) × (Option AD)) (r9 : Int) (x11 : Bool) : Option (Aa × Int × (Option AD)) := (if x11 = true then some (a_1, 37, r8.2) else (if (0 : Int) ≤ r9 ∧ r9 < a_1.Ah.length then ((Eh a_1 ((a_1.Ah.getD r9.toNat default).Bt) a_2).bind fun r14 => (if (!decide (r14 = (0 : Int))) = true then some (a_1, r14, r8.2) else ((Cq a_1.Ah).bind fun r16 => (if (0 : Int) ≤ r9 ∧ r9 < r16.length then some ((Aa.mk a_1.AX a_1.BC a_1.AQ a_1.AP a_1.A4 a_1.AN a_1.Ay (r16.set r9.toNat (Al.mk ((r16.getD r9.toNat default).BJ) 2 ((r16.getD r9.toNat default).Bt))) a_1.Bj a_1.BR), 0, r8.2) else none)))) else none))
def BT.j1 (L_0 : Option AD) (a_1 : Aa) (a_2 : Int) (a_3 : Ar) (x6 : Bool) : Option (Aa × Int × (Option AD)) := (if x6 = true then some (a_1, 38, L_0) else ((EE L_0 a_3).bind fun r8 => ((Ee a_1 r8.1).bind fun r9 => (if (decide (r9 < (0 : Int))) = true then BT.j2 a_1 a_2 r8 r9 true else (if (0 : Int) ≤ r9 ∧ r9 < a_1.Ah.length then BT.j2 a_1 a_2 r8 r9 (!decide (((a_1.Ah.getD r9.toNat default).BD) = (1 : Int))) else none)))))
def BT (L_0 : Option AD) (a_1 : Aa) (a_2 : Int) (a_3 : Ar) : Option (Aa × Int × (Option AD)) := ((Cy a_1).bind fun r4 => (if (!decide (r4 = (0 : Int))) = true then some (a_1, r4, L_0) else (if (!decide (a_3.FQ = a_1.BC)) = true then BT.j1 L_0 a_1 a_2 a_3 true else BT.j1 L_0 a_1 a_2 a_3 (!decide (a_3.D3 = a_1.AX)))))
theorem Hd {p_0 : Value} {L_0 : Option AD} {a_1 : Aa} {a_2 : Int} {a_3 : Ar} {r : Aa × Int × (Option AD)} (hF : BT L_0 a_1 a_2 a_3 = some r) : AH prog KG 25 [(Az p_0), (Au (Aa.ck a_1)), (Ag .u64 a_2), (Au (Ar.ck a_3))] [(AK p_0 L_0)] (fun _ => [AK p_0 r.2.2]) (Db [(Au (Aa.ck r.1)), (Ag .i64 r.2.1)]) := by
 refine AH.intro 72 func25 rfl ntmps25 (Nat.le_of_ble_eq_true rfl) ?_
 intro c a w hG hn h
 unfold BT at hF
 change AA c [.slot 0 (Az p_0), .slot 1 (Au (Aa.ck a_1)), .slot 2 (Ag .u64 a_2), .slot 3 (Au (Ar.ck a_3)), .res (AK p_0 L_0)] a w at h
 refine As mixed hn hG h [0, 2, 506, 504, 502, 4, 505, 503, 501] (ob [1] (Bc q0 (Ai _)) <| ob [3] (Bc q0 (Ai _)) <| ob [] (AR zeroValue41 MN) <| ov [] (Ae qi) .nil) fun b1 a w h => ?_
 refine wp_seq ?_
 obtain ⟨r4, hr4, hF⟩ := bind_some hF
 refine As mixed hn hG h [0, 1, 2, 3, 4, 500, 5, 6, 7, 8] (ov [2, 6] (An 1 isAgg41 sizeOf41 q0) <| oc [500] [] call56 (FV hr4) ⟨q0, trivial⟩ <| ov [500] (Ae q0) .nil) fun _ a w h => ?_
 refine As mixed hn hG h [0, 1, 2, 3, 4, 5, 500, 6, 7, 8, 9] (ov [5] (Ab q0) <| ov [500] (Ak Bg q0 qi) .nil) fun _ a w h => ?_
 refine CC h hF 6 [2, 4, 5, 7, 8, 10] [0, 1, 2, 3, 4, 7, 8, 9, 10] (fun hb5 hF h => ?_) (fun hb5 hF h => ?_)
 ·refine As mixed hn hG h [1, 500, 3, 501] (ov [0, 4] (An 1 isAgg41 sizeOf41 q0) <| ov [2] (Ab q0) <| ou [1, 501] 5 (Aq sizeOf41 q0 q1 (Ai _)) <| ov [501] (Ae q0) .nil) fun _ a w h => ?_
  refine wp_ret ?_
  obtain rfl := Option.some.inj hF
  exact ⟨.inl rfl, CJ h (rs := [.cell 8 41, .tmp 9]) (Vs := [(Au (Aa.ck a_1)), (Ag .i64 r4)]) results25 (by decide) ⟨(Be 0 3 rfl rfl isAgg41 sizeOf41 rfl), (Ba 1 rfl), trivial⟩ [2] [(AK p_0 L_0)] rfl rfl rfl⟩
 ·refine wp_skip ?_
  show Code.wp prog _ _ a w
  refine wp_seq ?_
  refine wp_seq ?_
  refine wp_cut (fun a w => ∃ (x6 : Bool), BT.j1 L_0 a_1 a_2 a_3 x6 = some r ∧ AA c [.slot 0 (Az p_0), .slot 2 (Ag .u64 a_2), .slot 5 (Av (b1 0) 0), .slot 7 (Av (b1 1) 0), .slot 8 (Av (b1 2) 0), .slot 30 (AL x6), .res (AK p_0 L_0), .res (lb (b1 0) 41 (Aa.ck a_1)), .res (lb (b1 1) 31 (Ar.ck a_3)), .res (lb (b1 2) 41 (Aa.ck (Aa.mk (0 : Int) (0 : Int) (List.replicate 32 0) [] (0 : Int) (List.replicate 32 0) [] [] false false)))] a w) ?_ ?_
  ·rcases Bool.eq_false_or_eq_true (!decide (a_3.FQ = a_1.BC)) with hb20 | hb20
   ·replace hF := CQ hb20 hF
    refine Cd mixed hn hG h [0, 1, 2, 3, 4, 500, 5, 6, 7, 8] (ov [3] (Ad (p := (b1 1)) (n := 1) 0 2 underlying31 rfl sizeOf29 (by decide) q0 rfl) <| ov [500, 7] (Aj ((Ar.ck a_3).take 2) ((Ar.ck a_3).drop 3) 1 isAgg29 q0 rfl rfl) <| ov [2] (Ad (p := (b1 0)) (n := 1) 0 1 underlying41 rfl sizeOf29 (by decide) q0 rfl) <| ov [500, 6] (Aj [one (Ag .u32 a_1.AX)] ((Aa.ck a_1).drop 2) 1 isAgg29 q0 rfl rfl) <| ov [502, 500] (Ak Bg q0 q1) <| ov [500] (Ab q0) <| oe [500] [] (AB.At (want := false) hb20 rfl rfl rfl rfl) <| oe [501] [] (AB.At (want := false) hb20 rfl rfl rfl rfl) <| oe [502] [] (AB.At (want := false) hb20 rfl rfl rfl rfl) <| oe [503] [] (AB.At (want := false) hb20 rfl rfl rfl rfl) <| oe [504] [] (AB.At (want := false) hb20 rfl rfl rfl rfl) <| ov [505] (AU hb20 q0 qb) .nil) fun _ a w h => ?_
    exact ⟨true, hF, h.sub [0, 1, 2, 3, 4, 5, 6, 7, 8, 9] (by rfl)⟩
   ·replace hF := CT hb20 hF
    refine Cd mixed hn hG h [0, 1, 2, 3, 4, 500, 5, 6, 7, 8] (ov [3] (Ad (p := (b1 1)) (n := 1) 0 2 underlying31 rfl sizeOf29 (by decide) q0 rfl) <| ov [500, 7] (Aj ((Ar.ck a_3).take 2) ((Ar.ck a_3).drop 3) 1 isAgg29 q0 rfl rfl) <| ov [2] (Ad (p := (b1 0)) (n := 1) 0 1 underlying41 rfl sizeOf29 (by decide) q0 rfl) <| ov [500, 6] (Aj [one (Ag .u32 a_1.AX)] ((Aa.ck a_1).drop 2) 1 isAgg29 q0 rfl rfl) <| ov [502, 500] (Ak Bg q0 q1) <| ov [500] (Ab q0) <| oe [500, 3] [] (AB.Aw hb20 rfl rfl rfl (Ad (p := (b1 1)) (n := 1) 0 0 underlying31 rfl sizeOf29 (by decide) q0 rfl)) <| oe [501, 500, 7] [] (AB.Aw hb20 rfl rfl rfl (Aj [] ((Ar.ck a_3).drop 1) 1 isAgg29 q0 rfl rfl)) <| oe [502, 2] [] (AB.Aw hb20 rfl rfl rfl (Ad (p := (b1 0)) (n := 1) 0 0 underlying41 rfl sizeOf29 (by decide) q0 rfl)) <| oe [503, 500, 6] [] (AB.Aw hb20 rfl rfl rfl (Aj [] ((Aa.ck a_1).drop 1) 1 isAgg29 q0 rfl rfl)) <| oe [504, 502, 500] [] (AB.Aw hb20 rfl rfl rfl (Ak Bg q0 q1)) <| ov [505, 500] (AV hb20 q0 q1) .nil) fun _ a w h => ?_
    exact ⟨!decide (a_3.D3 = a_1.AX), hF, h.sub [0, 1, 2, 3, 4, 5, 6, 7, 8, 9] (by rfl)⟩
  ·clear h hF
   rintro a w ⟨x6, hF, h⟩
   unfold BT.j1 at hF
   show Code.wp prog _ _ a w
   refine CC h hF 5 [2, 4, 6, 7, 9] [0, 1, 2, 3, 4, 6, 7, 8, 9] (fun hb7 hF h => ?_) (fun hb7 hF h => ?_)
   ·refine As mixed hn hG h [1, 500, 2, 501] (ov [0, 3] (An 1 isAgg41 sizeOf41 q0) <| ou [1, 500] 4 (Aq sizeOf41 q0 q1 (Ai _)) <| ov [] (Ae qi) .nil) fun _ a w h => ?_
    refine wp_ret ?_
    obtain rfl := Option.some.inj hF
    exact ⟨.inl rfl, CJ h (rs := [.cell 8 41, .tmp 9]) (Vs := [(Au (Aa.ck a_1)), (Ag .i64 38)]) results25 (by decide) ⟨(Be 0 3 rfl rfl isAgg41 sizeOf41 rfl), (Ba 1 rfl), trivial⟩ [2] [(AK p_0 L_0)] rfl rfl rfl⟩
   ·refine wp_skip ?_
    show Code.wp prog _ _ a w
    obtain ⟨r8, hr8, hF⟩ := bind_some hF
    obtain ⟨r9, hr9, hF⟩ := bind_some hF
    refine As mixed hn hG h [1, 2, 4, 500, 6, 8, 502] (ov [2, 6] (An 1 isAgg41 sizeOf41 q0) <| ov [0] (Ab q0) <| ov [3, 7] (An 1 isAgg31 sizeOf31 q0) <| oc [501, 500] [5] call64 (Ko hr8) ⟨q0, q1, trivial⟩ <| oc [504, 501] [] call41 (DT hr9) ⟨q0, q1, trivial⟩ <| ov [500] (Ae q0) .nil) fun _ a w h => ?_
    refine wp_seq ?_
    refine wp_seq ?_
    refine wp_cut (fun a w => ∃ (x11 : Bool), BT.j2 a_1 a_2 r8 r9 x11 = some r ∧ AA c [.slot 2 (Ag .u64 a_2), .slot 5 (Av (b1 0) 0), .slot 8 (Av (b1 2) 0), .slot 11 (Ag .i64 r9), .slot 47 (AL x11), .res (lb (b1 0) 41 (Aa.ck a_1)), .res (lb (b1 2) 41 (Aa.ck (Aa.mk (0 : Int) (0 : Int) (List.replicate 32 0) [] (0 : Int) (List.replicate 32 0) [] [] false false))), .res (AK p_0 r8.2)] a w) ?_ ?_
    ·rcases Bool.eq_false_or_eq_true (decide (r9 < (0 : Int))) with hb19 | hb19
     ·replace hF := CQ hb19 hF
      refine Cd mixed hn hG h [0, 1, 2, 3, 500, 4, 5, 6] (ov [3] (Ab q0) <| ov [500] (Ak Bl q0 qi) <| ov [500] (Ab q0) <| oe [500] [] (AB.At (want := false) hb19 rfl rfl rfl rfl) <| oe [501] [] (AB.At (want := false) hb19 rfl rfl rfl rfl) <| oe [502] [] (AB.At (want := false) hb19 rfl rfl rfl rfl) <| oe [503] [] (AB.At (want := false) hb19 rfl rfl rfl rfl) <| oe [504] [] (AB.At (want := false) hb19 rfl rfl rfl rfl) <| oe [505] [] (AB.At (want := false) hb19 rfl rfl rfl rfl) <| oe [506] [] (AB.At (want := false) hb19 rfl rfl rfl rfl) <| ov [507] (AU hb19 q0 qb) .nil) fun _ a w h => ?_
      exact ⟨true, hF, h.sub [0, 1, 2, 3, 4, 5, 6, 7] (by rfl)⟩
     ·replace hF := CT hb19 hF
      obtain ⟨hv10, hF⟩ := AF hF
      refine Cd mixed hn hG h [0, 1, 2, 3, 500, 4, 5, 6] (ov [3] (Ab q0) <| ov [500] (Ak Bl q0 qi) <| ov [500] (Ab q0) <| oe [500, 1] [] (AB.Aw hb19 rfl rfl rfl (Ad (p := (b1 0)) (n := 1) 0 69 underlying41 rfl sizeOf39 (by decide) q0 rfl)) <| oe [501, 500, 4] [] (AB.Aw hb19 rfl rfl rfl (Aj ((Aa.ck a_1).take 7) ((Aa.ck a_1).drop 8) 1 isAgg39 q0 rfl rfl)) <| oe [502, 3] [] (AB.Aw hb19 rfl rfl rfl (Ab q0)) <| oe [503, 501, 500] [] (AB.Aw hb19 rfl rfl rfl (AS underlying39 sizeOf110 Al.lens q0 q1 hv10)) <| oe [504, 500] [] (AB.Aw hb19 rfl rfl rfl (EV (n := 1) [Af 32 ((a_1.Ah.getD r9.toNat default).BJ)] _ underlying110 rfl sizeOf3 (by decide) q0 rfl)) <| oe [505, 500] [] (AB.Aw hb19 rfl rfl rfl (Ds [Af 32 ((a_1.Ah.getD r9.toNat default).Bt)] isAgg3 q0)) <| oe [506, 500] [] (AB.Aw hb19 rfl rfl rfl (Ak Bg q0 qi)) <| ov [507, 500] (AV hb19 q0 q1) .nil) fun _ a w h => ?_
      exact ⟨!decide (((a_1.Ah.getD r9.toNat default).BD) = (1 : Int)), hF, h.sub [0, 1, 2, 3, 4, 5, 6, 7] (by rfl)⟩
    ·clear h hF
     rintro a w ⟨x11, hF, h⟩
     unfold BT.j2 at hF
     show Code.wp prog _ _ a w
     refine CC h hF 4 [1, 2, 5, 6, 7] [0, 1, 2, 3, 5, 6, 7] (fun hb12 hF h => ?_) (fun hb12 hF h => ?_)
     ·refine As mixed hn hG h [1, 500, 501, 4] (ov [0, 2] (An 1 isAgg41 sizeOf41 q0) <| ou [1, 500] 3 (Aq sizeOf41 q0 q1 (Ai _)) <| ov [] (Ae qi) .nil) fun _ a w h => ?_
      refine wp_ret ?_
      obtain rfl := Option.some.inj hF
      exact ⟨.inl rfl, CJ h (rs := [.cell 8 41, .tmp 9]) (Vs := [(Au (Aa.ck a_1)), (Ag .i64 37)]) results25 (by decide) ⟨(Be 0 2 rfl rfl isAgg41 sizeOf41 rfl), (Ba 1 rfl), trivial⟩ [3] [(AK p_0 r8.2)] rfl rfl rfl⟩
     ·refine wp_skip ?_
      show Code.wp prog _ _ a w
      refine wp_seq ?_
      obtain ⟨hv13, hF⟩ := AF hF
      obtain ⟨r14, hr14, hF⟩ := bind_some hF
      refine As mixed hn hG h [1, 2, 3, 500, 4, 5, 6] (ov [1, 4] (An 1 isAgg41 sizeOf41 q0) <| ov [1] (Ad (p := (b1 0)) (n := 1) 0 69 underlying41 rfl sizeOf39 (by decide) q0 rfl) <| ov [500, 4] (Aj ((Aa.ck a_1).take 7) ((Aa.ck a_1).drop 8) 1 isAgg39 q0 rfl rfl) <| ov [3] (Ab q0) <| ov [501, 500] (AS underlying39 sizeOf110 Al.lens q0 q1 hv13) <| ov [500] (EV (n := 32) ((Al.ck (a_1.Ah.getD r9.toNat default)).take 2) _ underlying110 rfl sizeOf33 (by decide) q0 rfl) <| ov [500] (Bq [Af 32 ((a_1.Ah.getD r9.toNat default).Bt)] [] isAgg33 sizeOf33 q0 rfl) <| ov [0] (Ab q0) <| oc [507, 501, 500] [] call58 (Gz hr14) ⟨q0, q1, q2, trivial⟩ <| ov [500] (Ae q0) .nil) fun _ a w h => ?_
      refine As mixed hn hG h [0, 1, 2, 3, 500, 4, 5, 6] (ov [3] (Ab q0) <| ov [500] (Ak Bg q0 qi) .nil) fun _ a w h => ?_
      refine CC h hF 4 [0, 1, 3, 5, 6, 7] [0, 1, 2, 5, 6, 7] (fun hb15 hF h => ?_) (fun hb15 hF h => ?_)
      ·refine As mixed hn hG h [1, 500, 501, 5] (ov [0, 3] (An 1 isAgg41 sizeOf41 q0) <| ov [2] (Ab q0) <| ou [1, 501] 4 (Aq sizeOf41 q0 q1 (Ai _)) <| ov [501] (Ae q0) .nil) fun _ a w h => ?_
       refine wp_ret ?_
       obtain rfl := Option.some.inj hF
       exact ⟨.inl rfl, CJ h (rs := [.cell 8 41, .tmp 9]) (Vs := [(Au (Aa.ck a_1)), (Ag .i64 r14)]) results25 (by decide) ⟨(Be 0 2 rfl rfl isAgg41 sizeOf41 rfl), (Ba 1 rfl), trivial⟩ [3] [(AK p_0 r8.2)] rfl rfl rfl⟩
      ·refine wp_skip ?_
       show Code.wp prog _ _ a w
       obtain ⟨r16, hr16, hF⟩ := bind_some hF
       refine As mixed hn hG h [0, 1, 2, 500, 4, 5, 502] (ov [0] (Ad (p := (b1 0)) (n := 1) 0 69 underlying41 rfl sizeOf39 (by decide) q0 rfl) <| ov [500, 3] (Aj ((Aa.ck a_1).take 7) ((Aa.ck a_1).drop 8) 1 isAgg39 q0 rfl rfl) <| og [500] [] [.slot 64 2 100000 (fun v1_ _ => (Az v1_)), .res 2 100000 (fun v1_ _ => (own (v1_) 110 65 Al.ck r16))] (AB.plain (Kj call59 (Ey hr16) ⟨q0, trivial⟩) rfl) <| ov [0] (Ad (p := (b1 0)) (n := 1) 0 69 underlying41 rfl sizeOf39 (by decide) q0 rfl) <| og [500, 502, 501] [3] [.res 2 100000 (fun v1_ _ => (lb (b1 0) 41 [one (Ag .u32 a_1.AX), one (Ag .u32 a_1.BC), Af 32 a_1.AQ, one (AJ (dC 32) a_1.AP), one (Ag .u64 a_1.A4), Af 32 a_1.AN, one (AJ Ao.ck a_1.Ay), one (Az (v1_)), one (AL a_1.Bj), one (AL a_1.BR)]))] (fun {β} => (AB.plain (B8 ((Aa.ck a_1).take 7) [one (AJ Al.ck a_1.Ah)] ((Aa.ck a_1).drop 8) [one (Az ((β 2)))] sizeOf39 q0 (HU 1 2 rfl rfl Iy) (FG _) rfl rfl rfl) rfl)) .nil) fun b17 a w h => ?_
       obtain ⟨hv18, hF⟩ := AF hF
       refine As mixed hn hG h [0, 1, 3, 4, 5, 500] (ov [0] (Ad (p := (b1 0)) (n := 1) 0 69 underlying41 rfl sizeOf39 (by decide) q0 rfl) <| ov [500, 3] (Aj ((Aa.ck a_1).take 7) ((Aa.ck a_1).drop 8) 1 isAgg39 q0 rfl rfl) <| ov [2] (Ab q0) <| ov [501, 6, 500] (Fz 0 1 underlying39 sizeOf110 rfl rfl q2 hv18) <| ov [500] (GR (n := 1) (r9.toNat * 65) (r9.toNat * 65 + 32) underlying110 rfl sizeOf3 (by decide) q0 rfl) <| ou [500] 6 (G0 (i := r9) (c := Al.ck) (z := (Al.mk ((r16.getD r9.toNat default).BJ) 2 ((r16.getD r9.toNat default).Bt))) Al.lens [Af 32 ((r16.getD r9.toNat default).BJ)] [one (Ag .i64 ((r16.getD r9.toNat default).BD))] [Af 32 ((r16.getD r9.toNat default).Bt)] [one (Ag .i64 2)] sizeOf3 q0 qi (AG (A8 _ _)) rfl rfl rfl rfl rfl hv18) .nil) fun _ a w h => ?_
       refine As mixed hn hG h [1, 500, 501, 4] (oe [0, 2] [5] (AB.plain (BM.I2 (Mo [(acc (b17 2) 110 65 Al.ck (r16.set r9.toNat (Al.mk ((r16.getD r9.toNat default).BJ) 2 ((r16.getD r9.toNat default).Bt))))] 1 isAgg41 sizeOf41 q0 rfl rfl (.JH (.JH (.JH (.JH (.JH (.JH (.JH (.sub 0 rfl (.JH (.JH .nil)))))))))))) rfl) <| ou [1, 501] 3 (Aq sizeOf41 q0 q1 (Ai _)) <| ov [] (Ae qi) .nil) fun _ a w h => ?_
       refine wp_ret ?_
       obtain rfl := Option.some.inj hF
       exact ⟨.inl rfl, CJ h (rs := [.cell 8 41, .tmp 9]) (Vs := [(Au [one (Ag .u32 a_1.AX), one (Ag .u32 a_1.BC), Af 32 a_1.AQ, one (AJ (dC 32) a_1.AP), one (Ag .u64 a_1.A4), Af 32 a_1.AN, one (AJ Ao.ck a_1.Ay), one (AJ Al.ck (r16.set r9.toNat (Al.mk ((r16.getD r9.toNat default).BJ) 2 ((r16.getD r9.toNat default).Bt)))), one (AL a_1.Bj), one (AL a_1.BR)]), (Ag .i64 0)]) results25 (by decide) ⟨(Be 0 2 rfl rfl isAgg41 sizeOf41 rfl), (Ba 1 rfl), trivial⟩ [3] [(AK p_0 r8.2)] rfl rfl rfl⟩

def DE.j1 (x4 : Bool) : Option Bool := some x4
def DE : Option Bool := ((E2 1 2 ([B5 1] ++ List.replicate (32 - 1) 0) [] 5 (List.replicate 32 0)).bind fun r1 => ((BT none r1 9 (Ar.mk 1 (0 : Int) 2 [] [] [])).bind fun r3 => (if (decide (r3.2.1 = (37 : Int))) = true then (if (decide (r1.A4 = (5 : Int))) = true then DE.j1 (decide (r1.BC = (2 : Int))) else DE.j1 false) else DE.j1 false)))
theorem Kq {r : Bool} (hF : DE = some r) : AH prog KG 13 [] [] (fun _ => []) (AL r) := by
 refine AH.intro 25 func13 rfl ntmps13 (Nat.le_of_ble_eq_true rfl) ?_
 intro c a w hG hn h
 unfold DE at hF
 change AA c [] a w at h
 refine As mixed hn hG h [] (ov [] (Ae qb) .nil) fun _ a w h => ?_
 obtain ⟨r1, hr1, hF⟩ := bind_some hF
 refine As mixed hn hG h [502, 500] (ov [] (I7 (xs := [.const (.int .u8 1)]) (ys := [B5 1]) rfl Rw ⟨⟨_, qi, (Fo _)⟩, trivial⟩ (by decide) rfl) <| ov [] (KB zeroValue33 underlying33 sizeOf5 FT) <| oc [501, 500] [] call16 (Hs hr1) ⟨qi, qi, q0, NA, qi, q1, trivial⟩ <| ob [] (AR zeroValue41 MN) <| og [501, 502] [500] [.res 3 100000 (fun v1_ _ => (lb (v1_) 41 (Aa.ck r1)))] (AB.plain (Aq sizeOf41 q0 q1 (Ai _)) rfl) .nil) fun b2 a w h => ?_
 replace h := h.snoc NU
 replace h := h.sub [0, 1, 2] (by rfl)
 change AA c [.slot 1 (Av (b2 3) 0), .res (lb (b2 3) 41 (Aa.ck r1)), .res (AK (.pointer none) none)] a w at h
 obtain ⟨r3, hr3, hF⟩ := bind_some hF
 refine As mixed hn hG h [0, 500, 1, 507] (ov [0, 1] (An 1 isAgg41 sizeOf41 q0) <| ov [] (Dw [(0, .const (.int .u32 1)), (2, .const (.int .u32 2))] rfl R8 z31 ⟨[], [one (Ag .u32 (0 : Int))], [one (Ag .u32 (0 : Int)), one (Ag .u32 (0 : Int)), one (Br []), one (Br []), one (Br [])], [one (Ag .u32 1)], _, rfl, rfl, rfl, qi, (AG (A8 _ _)), ⟨[one (Ag .u32 1), one (Ag .u32 (0 : Int))], [one (Ag .u32 (0 : Int))], [one (Br []), one (Br []), one (Br [])], [one (Ag .u32 2)], _, rfl, rfl, rfl, qi, (AG (A8 _ _)), rfl⟩⟩) <| oc [501, 500] [2] call25 (Hd hr3) ⟨(D2 (ec _)), q0, qi, q1, trivial⟩ <| ov [501] (Ab q0) <| ov [500] (A5 q0 rfl) <| ov [501] (A5 q0 rfl) <| ob [] (AR zeroValue41 MN) <| og [501, 503] [500] [.res 6 100000 (fun v1_ _ => (lb (v1_) 41 (Aa.ck r3.1)))] (AB.plain (Aq sizeOf41 q0 q1 (Ai _)) rfl) <| ov [503] (Ae q0) .nil) fun _ a w h => ?_
 refine wp_seq ?_
 refine wp_cut (fun a w => ∃ (x4 : Bool), DE.j1 x4 = some r ∧ AA c [.slot 0 (AL x4), .res (AK (.pointer none) r3.2.2)] a w) ?_ ?_
 ·rcases Bool.eq_false_or_eq_true (decide (r3.2.1 = (37 : Int))) with hb5 | hb5
  ·replace hF := CQ hb5 hF
   rcases Bool.eq_false_or_eq_true (decide (r1.A4 = (5 : Int))) with hb6 | hb6
   ·replace hF := CQ hb6 hF
    refine Cd mixed hn hG h [500, 3] (ov [1] (Ab q0) <| ov [500] (Ak CI q0 qi) <| ov [500] (Ab q0) <| oe [500, 0] [] (AB.Aw hb5 rfl rfl rfl (Ad (p := (b2 3)) (n := 1) 0 35 underlying41 rfl sizeOf24 (by decide) q0 rfl)) <| oe [501, 500, 2] [] (AB.Aw hb5 rfl rfl rfl (Aj ((Aa.ck r1).take 4) ((Aa.ck r1).drop 5) 1 isAgg24 q0 rfl rfl)) <| oe [502, 500] [] (AB.Aw hb5 rfl rfl rfl (Ak CI q0 qi)) <| ov [503, 500] (AU hb5 q0 q1) <| ov [500] (Ab q0) <| oe [500, 0] [] (AB.Aw hb6 rfl rfl rfl (Ad (p := (b2 3)) (n := 1) 0 1 underlying41 rfl sizeOf29 (by decide) q0 rfl)) <| oe [501, 500, 2] [] (AB.Aw hb6 rfl rfl rfl (Aj [one (Ag .u32 r1.AX)] ((Aa.ck r1).drop 2) 1 isAgg29 q0 rfl rfl)) <| oe [502, 500] [] (AB.Aw hb6 rfl rfl rfl (Ak CI q0 qi)) <| ov [503, 500] (AU hb6 q0 q1) <| ov [500] (Ae q0) .nil) fun _ a w h => ?_
    exact ⟨decide (r1.BC = (2 : Int)), hF, h.sub [0, 1] (by rfl)⟩
   ·replace hF := CT hb6 hF
    refine Cd mixed hn hG h [500, 3] (ov [1] (Ab q0) <| ov [500] (Ak CI q0 qi) <| ov [500] (Ab q0) <| oe [500, 0] [] (AB.Aw hb5 rfl rfl rfl (Ad (p := (b2 3)) (n := 1) 0 35 underlying41 rfl sizeOf24 (by decide) q0 rfl)) <| oe [501, 500, 2] [] (AB.Aw hb5 rfl rfl rfl (Aj ((Aa.ck r1).take 4) ((Aa.ck r1).drop 5) 1 isAgg24 q0 rfl rfl)) <| oe [502, 500] [] (AB.Aw hb5 rfl rfl rfl (Ak CI q0 qi)) <| ov [503, 500] (AU hb5 q0 q1) <| ov [500] (Ab q0) <| oe [500] [] (AB.At (want := true) hb6 rfl rfl rfl rfl) <| oe [501] [] (AB.At (want := true) hb6 rfl rfl rfl rfl) <| oe [502] [] (AB.At (want := true) hb6 rfl rfl rfl rfl) <| ov [503] (AV hb6 q0 qb) <| ov [500] (Ae q0) .nil) fun _ a w h => ?_
    exact ⟨false, hF, h.sub [0, 1] (by rfl)⟩
  ·replace hF := CT hb5 hF
   refine Cd mixed hn hG h [500, 3] (ov [1] (Ab q0) <| ov [500] (Ak CI q0 qi) <| ov [500] (Ab q0) <| oe [500] [] (AB.At (want := true) hb5 rfl rfl rfl rfl) <| oe [501] [] (AB.At (want := true) hb5 rfl rfl rfl rfl) <| oe [502] [] (AB.At (want := true) hb5 rfl rfl rfl rfl) <| ov [503] (AV hb5 q0 qb) <| ov [500] (Ab q0) <| oe [500] [] (AB.At (want := true) rfl rfl rfl rfl rfl) <| oe [501] [] (AB.At (want := true) rfl rfl rfl rfl rfl) <| oe [502] [] (AB.At (want := true) rfl rfl rfl rfl rfl) <| ov [503] (AV rfl q0 qb) <| ov [500] (Ae q0) .nil) fun _ a w h => ?_
   exact ⟨false, hF, h.sub [0, 1] (by rfl)⟩
 ·clear h hF
  rintro a w ⟨x4, hF, h⟩
  unfold DE.j1 at hF
  show Code.wp prog _ _ a w
  refine wp_ret ?_
  obtain rfl := Option.some.inj hF
  exact ⟨.inl rfl, BW h results13 (Ba 0 rfl) [] [] rfl rfl rfl⟩

def DC (a_0 : List UInt8) : Option (List UInt8) := some (a_0.take ((32 : Int).toNat - (0 : Int).toNat))
theorem DU {a_0 : List UInt8} {r : (List UInt8)} (hF : DC a_0 = some r) : AH prog KG 79 [(Au [Af 32 a_0])] [] (fun _ => []) (Br r) := by
 refine AH.intro 5 func79 rfl ntmps79 (Nat.le_of_ble_eq_true rfl) ?_
 intro c a w hG hn h
 unfold DC at hF
 change AA c [.slot 0 (Au [Af 32 a_0])] a w at h
 refine As mixed hn hG h [502, 501] (ob [0] (Bc q0 (Ai _)) <| ov [] (Ae (D2 (sc _ (by decide)))) .nil) fun b1 a w h => ?_
 refine As mixed hn hG h [500] (ov [0] (EC (a := 0) (b := 32) underlying33 sizeOf5 q0 rfl rfl (by decide)) <| ov [500, 1] (Gr [] [] 1 underlying207 underlying5 underlying9 q0 rfl rfl (by decide) (by decide)) <| ov [500] (Ae q0) .nil) fun _ a w h => ?_
 refine wp_ret ?_
 obtain rfl := Option.some.inj hF
 exact ⟨.inl rfl, BW h results79 (Ba 0 rfl) [] [] rfl rfl rfl⟩

def DX (L_0 : Option AD) (a_1 : List UInt8) : Option ((List UInt8) × (Option AD)) := ((DC a_1).bind fun r3 => ((C9 L_0 2 [r3]).bind fun r4 => some (r4.1, r4.2)))
theorem Fk {p_0 : Value} {L_0 : Option AD} {a_1 : List UInt8} {r : (List UInt8) × (Option AD)} (hF : DX L_0 a_1 = some r) : AH prog KG 83 [(Az p_0), (Au [Af 32 a_1])] [(AK p_0 L_0)] (fun _ => [AK p_0 r.2]) (Au [Af 32 r.1]) := by
 refine AH.intro 10 func83 rfl ntmps83 (Nat.le_of_ble_eq_true rfl) ?_
 intro c a w hG hn h
 unfold DX at hF
 change AA c [.slot 0 (Az p_0), .slot 1 (Au [Af 32 a_1]), .res (AK p_0 L_0)] a w at h
 refine As mixed hn hG h [0, 503, 501, 2, 502, 500] (ob [1] (Bc q0 (Ai _)) <| ob [] (AR zeroValue33 FT) .nil) fun b1 a w h => ?_
 obtain ⟨r3, hr3, hF⟩ := bind_some hF
 obtain ⟨r4, hr4, hF⟩ := bind_some hF
 refine As mixed hn hG h [2, 500, 501] (ov [0] (Ab q0) <| ov [1, 4] (An 1 isAgg33 sizeOf33 q0) <| oc [500] [] call79 (DU hr3) ⟨q0, trivial⟩ <| ov [500] (CP (xs := [.tmp 7]) (ys := [r3]) _ rfl underlying22 sizeOf9 zeroValue9 rfl rfl (by decide) (by decide) ⟨⟨_, q0, (AG (CD _))⟩, trivial⟩ CF) <| oc [503, 500] [3] call80 (DA hr4) ⟨q0, qi, q1, trivial⟩ <| ou [2, 501] 5 (Aq sizeOf33 q0 q1 (Ai _)) .nil) fun _ a w h => ?_
 refine wp_ret ?_
 obtain rfl := Option.some.inj hF
 exact ⟨.inl rfl, BW h results83 (Be 0 1 rfl rfl isAgg33 sizeOf33 rfl) [2] [(AK p_0 r4.2)] rfl rfl rfl⟩

def Gf (a_0 : Int) : Option (List UInt8) := ((ES (IntKind.wrap .u64 a_0) 1).bind fun r1 => some r1)
theorem Ii {a_0 : Int} {r : (List UInt8)} (hF : Gf a_0 = some r) : AH prog KG 105 [(Ag .u8 a_0)] [] (fun _ => []) (Br r) := by
 refine AH.intro 6 func105 rfl ntmps105 (Nat.le_of_ble_eq_true rfl) ?_
 intro c a w hG hn h
 unfold Gf at hF
 change AA c [.slot 0 (Ag .u8 a_0)] a w at h
 refine As mixed hn hG h [0] (ov [] (Ae (D2 (sc _ (by decide)))) .nil) fun _ a w h => ?_
 obtain ⟨r1, hr1, hF⟩ := bind_some hF
 refine As mixed hn hG h [500] (ov [0] (Ab q0) <| ov [500] (A3 underlying5 underlying24 q0) <| oc [500] [] call114 (Jj hr1) ⟨q0, qi, trivial⟩ <| ov [500] (Ae q0) .nil) fun _ a w h => ?_
 refine wp_ret ?_
 obtain rfl := Option.some.inj hF
 exact ⟨.inl rfl, BW h results105 (Ba 0 rfl) [] [] rfl rfl rfl⟩

def DW (L_0 : Option AD) (a_1 : List UInt8) (a_2 : Int) (a_3 : Int) (a_4 : Int) : Option ((List UInt8) × (Option AD)) := ((DC a_1).bind fun r3 => ((Dn (IntKind.wrap .u32 a_2)).bind fun r4 => ((Gf (IntKind.wrap .u8 a_3)).bind fun r5 => ((Gf (IntKind.wrap .u8 a_4)).bind fun r6 => ((C9 L_0 1 [r3, r4, r5, r6]).bind fun r7 => some (r7.1, r7.2))))))
theorem Fj {p_0 : Value} {L_0 : Option AD} {a_1 : List UInt8} {a_2 : Int} {a_3 : Int} {a_4 : Int} {r : (List UInt8) × (Option AD)} (hF : DW L_0 a_1 a_2 a_3 a_4 = some r) : AH prog KG 84 [(Az p_0), (Au [Af 32 a_1]), (Ag .i64 a_2), (Ag .i64 a_3), (Ag .i64 a_4)] [(AK p_0 L_0)] (fun _ => [AK p_0 r.2]) (Au [Af 32 r.1]) := by
 refine AH.intro 25 func84 rfl ntmps84 (Nat.le_of_ble_eq_true rfl) ?_
 intro c a w hG hn h
 unfold DW at hF
 change AA c [.slot 0 (Az p_0), .slot 1 (Au [Af 32 a_1]), .slot 2 (Ag .i64 a_2), .slot 3 (Ag .i64 a_3), .slot 4 (Ag .i64 a_4), .res (AK p_0 L_0)] a w at h
 refine As mixed hn hG h [0, 2, 3, 4, 503, 501, 5, 502, 500] (ob [1] (Bc q0 (Ai _)) <| ob [] (AR zeroValue33 FT) .nil) fun b1 a w h => ?_
 obtain ⟨r3, hr3, hF⟩ := bind_some hF
 obtain ⟨r4, hr4, hF⟩ := bind_some hF
 obtain ⟨r5, hr5, hF⟩ := bind_some hF
 obtain ⟨r6, hr6, hF⟩ := bind_some hF
 obtain ⟨r7, hr7, hF⟩ := bind_some hF
 refine As mixed hn hG h [5, 500, 501] (ov [0] (Ab q0) <| ov [4, 7] (An 1 isAgg33 sizeOf33 q0) <| oc [500] [] call79 (DU hr3) ⟨q0, trivial⟩ <| ov [1] (Ab q0) <| ov [500] (A3 underlying3 underlying29 q0) <| oc [500] [] call89 (D6 hr4) ⟨q0, trivial⟩ <| ov [2] (Ab q0) <| ov [500] (A3 underlying3 underlying5 q0) <| oc [500] [] call105 (Ii hr5) ⟨q0, trivial⟩ <| ov [3] (Ab q0) <| ov [500] (A3 underlying3 underlying5 q0) <| oc [500] [] call105 (Ii hr6) ⟨q0, trivial⟩ <| ov [509, 506, 503, 500] (CP (xs := [.tmp 13, .tmp 16, .tmp 19, .tmp 22]) (ys := [r3, r4, r5, r6]) _ rfl underlying22 sizeOf9 zeroValue9 rfl rfl (by decide) (by decide) ⟨⟨_, q0, (AG (CD _))⟩, ⟨_, q1, (AG (CD _))⟩, ⟨_, q2, (AG (CD _))⟩, ⟨_, q3, (AG (CD _))⟩, trivial⟩ CF) <| oc [512, 500] [6] call80 (DA hr7) ⟨q0, qi, q1, trivial⟩ <| ou [5, 501] 8 (Aq sizeOf33 q0 q1 (Ai _)) .nil) fun _ a w h => ?_
 refine wp_ret ?_
 obtain rfl := Option.some.inj hF
 exact ⟨.inl rfl, BW h results84 (Be 0 1 rfl rfl isAgg33 sizeOf33 rfl) [2] [(AK p_0 r7.2)] rfl rfl rfl⟩

def Dv (L_0 : Ea) (a_1 : List (UInt8)) : Option (Int × Value × Ea) := (if L_0.DF.length + a_1.length ≤ CW ∧ (L_0.DF.length + a_1.length) * 1 ≤ 140737488355328 then some ((a_1.length : Int), Value.nilIface, ⟨L_0.DF ++ a_1⟩) else none)
theorem GG {p_0 : Value} {L_0 : Ea} {a_1 : List (UInt8)} {r : Int × Value × Ea} (hF : Dv L_0 a_1 = some r) : AH prog KG 110 [(Az p_0), (AJ bC a_1)] [(DJ p_0 (some L_0))] (fun _ => [DJ p_0 (some r.2.2)]) (Db [(Ag .i64 r.1), (Az r.2.1)]) := by
 refine AH.intro 19 func110 rfl ntmps110 (Nat.le_of_ble_eq_true rfl) ?_
 intro c a w hG hn h
 unfold Dv at hF
 change AA c [.slot 0 (Az p_0), .slot 1 (AJ bC a_1), .res (DJ p_0 (some L_0))] a w at h
 obtain ⟨h_0_1, h⟩ := h.ex 2 rfl
 change AA c [.slot 0 (Az p_0), .slot 1 (AJ bC a_1), .res (Ll p_0 h_0_1 (some L_0))] a w at h
 have hp := h.PK 2 rfl (fun Φ f w q => LQ Φ f w q)
 replace h := h.Gy 0 rfl (V' := Av p_0 0) (fun _ _ h => Jr h hp)
 replace h := h.sep (R := lb p_0 222 [one (DL p_0), one (Az h_0_1)]) (S := (acc h_0_1 5 1 bC L_0.DF)) 2 rfl
 replace h := h.sub [0, 1, 2, 3] (by rfl)
 change AA c [.slot 0 (Av p_0 0), .slot 1 (AJ bC a_1), .res (lb p_0 222 [one (DL p_0), one (Az h_0_1)]), .res (acc h_0_1 5 1 bC L_0.DF)] a w at h
 refine As mixed hn hG h [0, 1, 2, 3] (ov [] (Ae qi) <| ov [] (Ae (D2 (ec _))) .nil) fun _ a w h => ?_
 refine As mixed hn hG h [0, 1, 3, 500] (ov [0] (Ab q0) <| oc [500] [2] call132 G5 ⟨(Nd 0 rfl), trivial⟩ .nil) fun _ a w h => ?_
 obtain ⟨hv1, hF⟩ := AF hF
 refine As mixed hn hG h [1, 500, 503] (ov [0] (Ab q0) <| ov [0] (Ab q0) <| ov [500] (CY q0 (EX _ _)) <| ov [500] (Ad (p := p_0) (n := 1) 0 1 underlying222 rfl sizeOf207 (by decide) q0 rfl) <| ov [500, 3] (Aj [one (DL p_0)] [] 1 isAgg207 q0 rfl rfl) <| ov [1] (Ab q0) <| og [501, 500] [2] [.slot 14 6 100000 (fun v1_ _ => (Az v1_)), .res 6 100000 (fun v1_ _ => (acc (v1_) 5 1 bC (L_0.DF ++ a_1)))] (AB.plain (CL (i := t5) underlying207 type5 rfl D0 (by decide) rfl q0 q1 hv1) rfl) <| ov [507] (CY q0 (EX _ _)) <| ov [500] (Ad (p := p_0) (n := 1) 0 1 underlying222 rfl sizeOf207 (by decide) q0 rfl) <| og [500, 503, 502] [3] [.res 6 100000 (fun v1_ _ => (lb p_0 222 [one (DL p_0), one (Az (v1_))]))] (fun {β} => (AB.plain (B8 [one (DL p_0)] [one (Az h_0_1)] [] [one (Az ((β 6)))] sizeOf207 q0 (HU 1 2 rfl rfl IM) (FG _) rfl rfl rfl) rfl)) .nil) fun b2 a w h => ?_
 refine As mixed hn hG h [501, 500, 1, 2] (ov [0] (Ab q0) <| ov [500] (A6 underlying207 q0) <| ov [500] (Ae q0) <| ov [] (Ae (D2 (ec _))) .nil) fun _ a w h => ?_
 refine wp_ret ?_
 replace h := h.F4 2 3 rfl rfl (by decide)
 replace h := h.conv 2 rfl (R' := DJ p_0 (some ⟨L_0.DF ++ a_1⟩)) (Ji (v1 := (b2 6)) (o := (some ⟨L_0.DF ++ a_1⟩)))
 replace h := h.sub [0, 1, 2] (by rfl)
 change AA c [.slot 4 (Ag .i64 (a_1.length : Int)), .slot 5 (Az Value.nilIface), .res (DJ p_0 (some ⟨L_0.DF ++ a_1⟩))] a w at h
 obtain rfl := Option.some.inj hF
 exact ⟨.inl rfl, CJ h (rs := [.tmp 4, .tmp 5]) (Vs := [(Ag .i64 (a_1.length : Int)), (Az Value.nilIface)]) results110 (by decide) ⟨(Ba 0 rfl), (Ba 1 rfl), trivial⟩ [2] [(DJ p_0 (some ⟨L_0.DF ++ a_1⟩))] rfl rfl rfl⟩

def CG.b1 (a_1 : List (List UInt8)) (x10 : Int) (x11 : Ea) : Option (Cn ((List UInt8) × (Option AD)) (Int × Ea)) := (if (decide (x10 < (64 : Int))) = true then (if (0 : Int) ≤ x10 ∧ x10 < 64 then ((Dv x11 (((a_1.getD x10.toNat default).take (32 : Int).toNat).drop (0 : Int).toNat)).bind fun r21 => some (.cont (IntKind.wrap .i64 (x10 + 1), r21.2.2))) else none) else some (.brk (x10, x11)))
def CG (L_0 : Option AD) (a_1 : List (List UInt8)) : Option ((List UInt8) × (Option AD)) := ((Bu (fun s : Int × Ea => CG.b1 a_1 s.1 s.2) ((64 - 0 : Int).toNat + 2) (0, ⟨[]⟩)).bind fun cr => match cr with | .ret r => some r | .next (y26, y27) => ((C2 y27).bind fun r28 => ((C9 L_0 3 [r28]).bind fun r29 => some (r29.1, r29.2))))
theorem Hi {p_0 : Value} {L_0 : Option AD} {a_1 : List (List UInt8)} {r : (List UInt8) × (Option AD)} (hF : CG L_0 a_1 = some r) : AH prog KG 85 [(Az p_0), (Au [C7 64 32 (dC 32) (Bk 32) a_1])] [(AK p_0 L_0)] (fun _ => [AK p_0 r.2]) (Au [Af 32 r.1]) := by
 refine AH.intro 19 func85 rfl ntmps85 (Nat.le_of_ble_eq_true rfl) ?_
 intro c a w hG hn h
 unfold CG at hF
 change AA c [.slot 0 (Az p_0), .slot 1 (Au [C7 64 32 (dC 32) (Bk 32) a_1]), .res (AK p_0 L_0)] a w at h
 refine As mixed hn hG h [0, 503, 501, 2, 502, 500] (ob [1] (Bc q0 (Ai _)) <| ob [] (AR zeroValue33 FT) .nil) fun b1 a w h => ?_
 refine As mixed hn hG h [0, 1, 2, 501, 3, 4, 5, 500] (ob [] (AR zeroValue222 QC) .nil) fun b3 a w h => ?_
 refine wp_seq ?_
 refine As mixed hn hG h [0, 2, 3, 501, 500, 4, 6, 7] (ov [1, 5] (An 1 isAgg187 sizeOf187 q0 (hn := by simp only [Pe, Pd, one, Af, C7, AY])) <| ov [] (Ab qi) .nil) fun _ a w h => ?_
 refine wp_block ?_
 replace h := h.conv 7 rfl NW
 replace h := h.Gy 2 rfl (fun _ _ h => LD h)
 replace h := h.sub [0, 1, 2, 3, 4, 5, 6, 7] (by rfl)
 change AA c [.slot 0 (Az p_0), .slot 4 (Av (b1 1) 0), .slot 5 (Az (b3 0)), .slot 8 (Au [C7 64 32 (dC 32) (Bk 32) a_1]), .slot 9 (Ag .i64 0), .res (AK p_0 L_0), .res (lb (b1 1) 33 [Af 32 (List.replicate 32 0)]), .res (DJ (b3 0) (some ⟨[]⟩))] a w at h
 obtain ⟨cr22, hl23, hF⟩ := bind_some hF
 refine wp_mono (Bx (R := (List UInt8) × (Option AD)) (S := Int × Ea) (fun s a w => AA c [.slot 0 (Az p_0), .slot 4 (Av (b1 1) 0), .slot 5 (Az (b3 0)), .slot 8 (Au [C7 64 32 (dC 32) (Bk 32) a_1]), .slot 9 (Ag .i64 s.1), .res (AK p_0 L_0), .res (lb (b1 1) 33 [Af 32 (List.replicate 32 0)]), .res (DJ (b3 0) (some s.2))] a w) (fun res e a w => match res with | .next s => e = .exit 0 ∧ AA c [.slot 0 (Az p_0), .slot 4 (Av (b1 1) 0), .slot 5 (Az (b3 0)), .res (AK p_0 L_0), .res (lb (b1 1) 33 [Af 32 (List.replicate 32 0)]), .res (DJ (b3 0) (some s.2))] a w | .ret r => e = .ret ∧ Cu prog f85 c (Au [Af 32 r.1]) (fun _ => [AK p_0 r.2]) a w) ?_ _ (0, ⟨[]⟩) _ _ _ (h.sub [0, 1, 2, 3, 4, 5, 6, 7] (by rfl)) hl23) ?_
 ·clear hl23 hF h
  intro s a w o h hF
  obtain ⟨x10, x11⟩ := s
  change CG.b1 a_1 x10 x11 = some o at hF
  unfold CG.b1 at hF
  change AA c [.slot 0 (Az p_0), .slot 4 (Av (b1 1) 0), .slot 5 (Az (b3 0)), .slot 8 (Au [C7 64 32 (dC 32) (Bk 32) a_1]), .slot 9 (Ag .i64 x10), .res (AK p_0 L_0), .res (lb (b1 1) 33 [Af 32 (List.replicate 32 0)]), .res (DJ (b3 0) (some x11))] a w at h
  refine As mixed hn hG h [0, 1, 2, 3, 4, 500, 5, 6, 7] (ov [4] (Ak Bl q0 qi) .nil) fun _ a w h => ?_
  refine wp_seq ?_
  refine CC h hF 5 [0, 1, 2, 3, 4, 6, 7, 8] [0, 1, 2, 3, 4, 6, 7, 8] (fun hb18 hF h => ?_) (fun hb18 hF h => ?_)
  ·refine wp_skip ?_
   show Code.wp prog _ _ a w
   refine wp_seq ?_
   refine wp_block ?_
   obtain ⟨hv19, hF⟩ := AF hF
   refine As mixed hn hG h [0, 1, 2, 502, 3, 4, 5, 6, 7, 500] (ov [3, 4] (KQ (c := (dC 32)) underlying187 sizeOf33 isAgg33 q0 q1 hv19) <| ob [] (AR zeroValue33 FT) <| og [501, 502] [500] [.res 1 100000 (fun v1_ _ => (lb (v1_) 33 [Af 32 (a_1.getD x10.toNat default)]))] (AB.plain (Aq sizeOf33 q0 q1 (Ai _)) rfl) .nil) fun b20 a w h => ?_
   replace h := h.Lx 9 rfl
   replace h := h.Kx 3 9 rfl rfl
   replace h := h.sub [0, 1, 2, 3, 4, 5, 6, 7, 8] (by rfl)
   change AA c [.slot 0 (Az p_0), .slot 4 (Av (b1 1) 0), .slot 5 (Az (b3 0)), .slot 7 (Fy [Af 32 (a_1.getD x10.toNat default)]), .slot 8 (Au [C7 64 32 (dC 32) (Bk 32) a_1]), .slot 9 (Ag .i64 x10), .res (AK p_0 L_0), .res (lb (b1 1) 33 [Af 32 (List.replicate 32 0)]), .res (DJ (b3 0) (some x11))] a w at h
   obtain ⟨r21, hr21, hF⟩ := bind_some hF
   refine Cd mixed hn hG h [0, 1, 2, 4, 5, 6, 7, 500] (ov [3] (Lz (a := 0) (b := 32) underlying33 sizeOf5 q0 rfl rfl (by decide)) <| oc [2, 500] [8] call110 (GG hr21) ⟨q0, q1, trivial⟩ .nil) fun _ a w h => ?_
   show Code.wp prog _ _ a w
   refine Cd mixed hn hG h [0, 1, 2, 3, 500, 5, 6, 7] (ov [4] (Ak A9 q0 qi) <| od [500] 4 (Ab q0) .nil) fun _ a w h => ?_
   obtain rfl := Option.some.inj hF
   exact ⟨rfl, h.sub [0, 1, 2, 3, 4, 5, 6, 7] (by rfl)⟩
  ·refine wp_exit ?_
   obtain rfl := Option.some.inj hF
   exact ⟨BK _, rfl, h.sub [0, 1, 2, 5, 6, 7] (by rfl)⟩
 ·clear hl23
  intro e a w hq
  cases cr22 with
  | ret r24 =>
   obtain ⟨rfl, hq⟩ := hq
   obtain rfl := Option.some.inj hF
   exact ⟨.inl rfl, hq⟩
  | next s25 =>
   obtain ⟨y26, y27⟩ := s25
   obtain ⟨rfl, h⟩ := hq
   change AA c [.slot 0 (Az p_0), .slot 4 (Av (b1 1) 0), .slot 5 (Az (b3 0)), .res (AK p_0 L_0), .res (lb (b1 1) 33 [Af 32 (List.replicate 32 0)]), .res (DJ (b3 0) (some y27))] a w at h
   refine Bd ?_
   show Code.wp prog _ _ a w
   obtain ⟨r28, hr28, hF⟩ := bind_some hF
   obtain ⟨r29, hr29, hF⟩ := bind_some hF
   refine As mixed hn hG h [1, 500, 501] (ov [0] (Ab q0) <| oc [2] [5] call111 (EN hr28) ⟨q0, trivial⟩ <| ov [500] (CP (xs := [.tmp 16]) (ys := [r28]) _ rfl underlying22 sizeOf9 zeroValue9 rfl rfl (by decide) (by decide) ⟨⟨_, q0, (AG (CD _))⟩, trivial⟩ CF) <| oc [502, 500] [3] call80 (DA hr29) ⟨q0, qi, q1, trivial⟩ <| ou [1, 501] 4 (Aq sizeOf33 q0 q1 (Ai _)) .nil) fun _ a w h => ?_
   refine wp_ret ?_
   obtain rfl := Option.some.inj hF
   exact ⟨.inl rfl, BW h results85 (Be 0 1 rfl rfl isAgg33 sizeOf33 rfl) [2] [(AK p_0 r29.2)] rfl rfl rfl⟩

def CR.b1 (a_1 : List UInt8) (a_2 : Int) (x7 : Int) (x8 : Option AD) (x9 : List (List UInt8)) : Option (Cn ((List UInt8) × (Option AD)) (Int × (Option AD) × (List (List UInt8)))) := (if (decide (x7 < (64 : Int))) = true then ((DW x8 a_1 a_2 (IntKind.wrap .i64 (x7.tdiv 2)) (x7.tmod 2)).bind fun r18 => ((DX r18.2 r18.1).bind fun r19 => (if (0 : Int) ≤ x7 ∧ x7 < 64 then some (.cont (IntKind.wrap .i64 (x7 + 1), r19.2, x9.set x7.toNat r19.1)) else none))) else some (.brk (x7, x8, x9)))
def CR (L_0 : Option AD) (a_1 : List UInt8) (a_2 : Int) : Option ((List UInt8) × (Option AD)) := ((Bu (fun s : Int × (Option AD) × (List (List UInt8)) => CR.b1 a_1 a_2 s.1 s.2.1 s.2.2) ((64 - 0 : Int).toNat + 2) (0, L_0, (List.replicate 64 (List.replicate 32 0)))).bind fun cr => match cr with | .ret r => some r | .next (y25, y26, y27) => ((CG y26 y27).bind fun r28 => some (r28.1, r28.2)))
theorem JF {p_0 : Value} {L_0 : Option AD} {a_1 : List UInt8} {a_2 : Int} {r : (List UInt8) × (Option AD)} (hF : CR L_0 a_1 a_2 = some r) : AH prog KG 42 [(Az p_0), (Au [Af 32 a_1]), (Ag .i64 a_2)] [(AK p_0 L_0)] (fun _ => [AK p_0 r.2]) (Au [Af 32 r.1]) := by
 refine AH.intro 28 func42 rfl ntmps42 (Nat.le_of_ble_eq_true rfl) ?_
 intro c a w hG hn h
 unfold CR at hF
 change AA c [.slot 0 (Az p_0), .slot 1 (Au [Af 32 a_1]), .slot 2 (Ag .i64 a_2), .res (AK p_0 L_0)] a w at h
 refine As mixed hn hG h [0, 2, 503, 501, 3, 502, 500] (ob [1] (Bc q0 (Ai _)) <| ob [] (AR zeroValue33 FT) .nil) fun b1 a w h => ?_
 refine As mixed hn hG h [0, 1, 2, 3, 501, 4, 5, 6, 500] (ob [] (AR zeroValue187 RH) .nil) fun b3 a w h => ?_
 refine wp_seq ?_
 refine As mixed hn hG h [0, 1, 2, 3, 4, 500, 5, 6, 7, 8] (ov [] (Ab qi) .nil) fun _ a w h => ?_
 refine wp_block ?_
 obtain ⟨cr21, hl22, hF⟩ := bind_some hF
 refine wp_mono (Bx (R := (List UInt8) × (Option AD)) (S := Int × (Option AD) × (List (List UInt8))) (fun s a w => AA c [.slot 0 (Az p_0), .slot 2 (Ag .i64 a_2), .slot 4 (Av (b1 0) 0), .slot 6 (Av (b1 1) 0), .slot 7 (Av (b3 0) 0), .slot 9 (Ag .i64 s.1), .res (AK p_0 s.2.1), .res (lb (b1 0) 33 [Af 32 a_1]), .res (lb (b1 1) 33 [Af 32 (List.replicate 32 0)]), .res (lb (b3 0) 187 [C7 64 32 (dC 32) (Bk 32) s.2.2])] a w) (fun res e a w => match res with | .next s => e = .exit 0 ∧ AA c [.slot 0 (Az p_0), .slot 6 (Av (b1 1) 0), .slot 7 (Av (b3 0) 0), .res (AK p_0 s.2.1), .res (lb (b1 1) 33 [Af 32 (List.replicate 32 0)]), .res (lb (b3 0) 187 [C7 64 32 (dC 32) (Bk 32) s.2.2])] a w | .ret r => e = .ret ∧ Cu prog f42 c (Au [Af 32 r.1]) (fun _ => [AK p_0 r.2]) a w) ?_ _ (0, L_0, (List.replicate 64 (List.replicate 32 0))) _ _ _ (h.sub [0, 1, 2, 3, 4, 5, 6, 7, 8, 9] (by rfl)) hl22) ?_
 ·clear hl22 hF h
  intro s a w o h hF
  obtain ⟨x7, x8, x9⟩ := s
  change CR.b1 a_1 a_2 x7 x8 x9 = some o at hF
  unfold CR.b1 at hF
  change AA c [.slot 0 (Az p_0), .slot 2 (Ag .i64 a_2), .slot 4 (Av (b1 0) 0), .slot 6 (Av (b1 1) 0), .slot 7 (Av (b3 0) 0), .slot 9 (Ag .i64 x7), .res (AK p_0 x8), .res (lb (b1 0) 33 [Af 32 a_1]), .res (lb (b1 1) 33 [Af 32 (List.replicate 32 0)]), .res (lb (b3 0) 187 [C7 64 32 (dC 32) (Bk 32) x9])] a w at h
  refine As mixed hn hG h [0, 1, 2, 3, 4, 5, 500, 6, 7, 8, 9] (ov [5] (Ak Bl q0 qi) .nil) fun _ a w h => ?_
  refine wp_seq ?_
  refine CC h hF 6 [0, 1, 2, 3, 4, 5, 7, 8, 9, 10] [0, 1, 2, 3, 4, 5, 7, 8, 9, 10] (fun hb17 hF h => ?_) (fun hb17 hF h => ?_)
  ·refine wp_skip ?_
   show Code.wp prog _ _ a w
   refine wp_seq ?_
   refine wp_block ?_
   refine As mixed hn hG h [0, 1, 2, 3, 4, 500, 5, 6, 7, 8, 9] (ov [5] (Ab q0) <| ov [500] (Ae q0) .nil) fun _ a w h => ?_
   obtain ⟨r18, hr18, hF⟩ := bind_some hF
   obtain ⟨r19, hr19, hF⟩ := bind_some hF
   obtain ⟨hv20, hF⟩ := AF hF
   refine Cd mixed hn hG h [0, 1, 2, 3, 4, 6, 8, 9, 500, 502] (ov [5] (Ab q0) <| ov [0] (Ab q0) <| ov [0] (Ab q0) <| ov [2, 8] (An 1 isAgg33 sizeOf33 q0) <| ov [1] (Ab q0) <| ov [5] (Ab q0) <| ov [500] (Ak (FH (by decide)) q0 qi) <| ov [5] (Ab q0) <| ov [500] (Ak (DH (by decide)) q0 qi) <| oc [506, 505, 504, 502, 500] [7] call84 (Fj hr18) ⟨q0, q1, q2, q3, (opt 4 rfl), trivial⟩ <| oc [509, 501] [500] call83 (Fk hr19) ⟨q0, q1, trivial⟩ <| ov [4, 512] (AM underlying187 sizeOf33 q0 q1 hv20) <| ou [500, 502] 10 (F9 (i := x7) [] [] sizeOf33 q0 q1 rfl hv20) .nil) fun _ a w h => ?_
   show Code.wp prog _ _ a w
   refine Cd mixed hn hG h [0, 1, 2, 3, 4, 500, 6, 7, 8, 9] (ov [5] (Ak A9 q0 qi) <| od [500] 5 (Ab q0) .nil) fun _ a w h => ?_
   obtain rfl := Option.some.inj hF
   exact ⟨rfl, h.sub [0, 1, 2, 3, 4, 5, 9, 6, 7, 8] (by rfl)⟩
  ·refine wp_exit ?_
   obtain rfl := Option.some.inj hF
   exact ⟨BK _, rfl, h.sub [0, 3, 4, 6, 8, 9] (by rfl)⟩
 ·clear hl22
  intro e a w hq
  cases cr21 with
  | ret r23 =>
   obtain ⟨rfl, hq⟩ := hq
   obtain rfl := Option.some.inj hF
   exact ⟨.inl rfl, hq⟩
  | next s24 =>
   obtain ⟨y25, y26, y27⟩ := s24
   obtain ⟨rfl, h⟩ := hq
   change AA c [.slot 0 (Az p_0), .slot 6 (Av (b1 1) 0), .slot 7 (Av (b3 0) 0), .res (AK p_0 y26), .res (lb (b1 1) 33 [Af 32 (List.replicate 32 0)]), .res (lb (b3 0) 187 [C7 64 32 (dC 32) (Bk 32) y27])] a w at h
   refine Bd ?_
   show Code.wp prog _ _ a w
   obtain ⟨r28, hr28, hF⟩ := bind_some hF
   refine As mixed hn hG h [1, 500, 501] (ov [0] (Ab q0) <| ov [2, 5] (An 1 isAgg187 sizeOf187 q0 (hn := by simp only [Pe, Pd, one, Af, C7, AY])) <| oc [501, 500] [3] call85 (Hi hr28) ⟨q0, q1, trivial⟩ <| ou [1, 501] 4 (Aq sizeOf33 q0 q1 (Ai _)) .nil) fun _ a w h => ?_
   refine wp_ret ?_
   obtain rfl := Option.some.inj hF
   exact ⟨.inl rfl, BW h results42 (Be 0 1 rfl rfl isAgg33 sizeOf33 rfl) [2] [(AK p_0 r28.2)] rfl rfl rfl⟩

def DY.b1 (a_1 : List UInt8) (x9 : Int) (x10 : Option AD) (x11 : Option Am) : Option (Cn (Am × (Option AD)) (Int × (Option AD) × (Option Am))) := (if (decide (x9 < (16 : Int))) = true then ((x11).bind fun s23 => ((CR x10 a_1 x9).bind fun r26 => (if s23.Bi.length + [r26.1].length ≤ CW ∧ (s23.Bi.length + [r26.1].length) * 32 ≤ 140737488355328 then some (.cont (IntKind.wrap .i64 (x9 + 1), r26.2, (some ⟨s23.CV, s23.CH, s23.Bi ++ [r26.1]⟩))) else none))) else some (.brk (x9, x10, x11)))
def DY (L_0 : Option AD) (a_1 : List UInt8) : Option (Am × (Option AD)) := ((Bu (fun s : Int × (Option AD) × (Option Am) => DY.b1 a_1 s.1 s.2.1 s.2.2) ((16 - 0 : Int).toNat + 2) (0, L_0, (some ⟨a_1, (0 : Int), []⟩))).bind fun cr => match cr with | .ret r => some r | .next (y33, y34, y35) => ((y35).bind fun s36 => some (s36, y34)))
theorem Jp {p_0 : Value} {L_0 : Option AD} {a_1 : List UInt8} {r : Am × (Option AD)} (hF : DY L_0 a_1 = some r) : AH prog KG 14 [(Az p_0), (Au [Af 32 a_1])] [(AK p_0 L_0)] (fun _ => [AK p_0 r.2]) (Au (Am.ck r.1)) := by
 refine AH.intro 23 func14 rfl ntmps14 (Nat.le_of_ble_eq_true rfl) ?_
 intro c a w hG hn h
 unfold DY at hF
 change AA c [.slot 0 (Az p_0), .slot 1 (Au [Af 32 a_1]), .res (AK p_0 L_0)] a w at h
 refine As mixed hn hG h [0, 503, 501, 2, 502, 500] (ob [1] (Bc q0 (Ai _)) <| ob [] (AR zeroValue58 QY) .nil) fun b1 a w h => ?_
 refine As mixed hn hG h [0, 1, 2, 502, 3, 4, 5, 500] (ov [1, 4] (An 1 isAgg33 sizeOf33 q0) <| ov [500] (Dw [(0, .tmp 7)] rfl SA QY ⟨[], [Af 32 (List.replicate 32 0)], [one (Ag .i64 (0 : Int)), one (Az (.slice none 0 0))], [Af 32 a_1], _, rfl, rfl, rfl, q0, (Ai _), rfl⟩) <| ob [] (AR zeroValue58 QY) <| og [501, 502] [500] [.res 2 100000 (fun v1_ _ => (lb (v1_) 58 [Af 32 a_1, one (Ag .i64 (0 : Int)), one (Az (.slice none 0 0))]))] (AB.plain (Aq sizeOf58 q0 q1 (Ai _)) rfl) .nil) fun b3 a w h => ?_
 refine wp_seq ?_
 refine As mixed hn hG h [0, 1, 2, 3, 500, 4, 5, 6, 7] (ov [] (Ab qi) .nil) fun _ a w h => ?_
 refine wp_block ?_
 replace h := h.Fh 33 32 (dC 32)
 replace h := h.F4 8 9 rfl rfl (by decide)
 replace h := h.conv 8 rfl (R' := HZ (b3 2) (some ⟨a_1, (0 : Int), []⟩)) (Li (v2 := (.slice none 0 0)) (o := (some ⟨a_1, (0 : Int), []⟩)))
 replace h := h.Gy 3 rfl (fun _ _ h => LD h)
 replace h := h.sub [0, 1, 2, 3, 4, 5, 6, 7, 8] (by rfl)
 change AA c [.slot 0 (Az p_0), .slot 3 (Av (b1 0) 0), .slot 4 (Av (b1 1) 0), .slot 5 (Az (b3 2)), .slot 9 (Ag .i64 0), .res (AK p_0 L_0), .res (lb (b1 0) 33 [Af 32 a_1]), .res (lb (b1 1) 58 [Af 32 (List.replicate 32 0), one (Ag .i64 (0 : Int)), one (Az (.slice none 0 0))]), .res (HZ (b3 2) (some ⟨a_1, (0 : Int), []⟩))] a w at h
 obtain ⟨cr29, hl30, hF⟩ := bind_some hF
 refine wp_mono (Bx (R := Am × (Option AD)) (S := Int × (Option AD) × (Option Am)) (fun s a w => AA c [.slot 0 (Az p_0), .slot 3 (Av (b1 0) 0), .slot 4 (Av (b1 1) 0), .slot 5 (Az (b3 2)), .slot 9 (Ag .i64 s.1), .res (AK p_0 s.2.1), .res (lb (b1 0) 33 [Af 32 a_1]), .res (lb (b1 1) 58 [Af 32 (List.replicate 32 0), one (Ag .i64 (0 : Int)), one (Az (.slice none 0 0))]), .res (HZ (b3 2) s.2.2)] a w) (fun res e a w => match res with | .next s => e = .exit 0 ∧ AA c [.slot 4 (Av (b1 1) 0), .slot 5 (Az (b3 2)), .res (AK p_0 s.2.1), .res (lb (b1 1) 58 [Af 32 (List.replicate 32 0), one (Ag .i64 (0 : Int)), one (Az (.slice none 0 0))]), .res (HZ (b3 2) s.2.2)] a w | .ret r => e = .ret ∧ Cu prog f14 c (Au (Am.ck r.1)) (fun _ => [AK p_0 r.2]) a w) ?_ _ (0, L_0, (some ⟨a_1, (0 : Int), []⟩)) _ _ _ (h.sub [0, 1, 2, 3, 4, 5, 6, 7, 8] (by rfl)) hl30) ?_
 ·clear hl30 hF h
  intro s a w o h hF
  obtain ⟨x9, x10, x11⟩ := s
  change DY.b1 a_1 x9 x10 x11 = some o at hF
  unfold DY.b1 at hF
  change AA c [.slot 0 (Az p_0), .slot 3 (Av (b1 0) 0), .slot 4 (Av (b1 1) 0), .slot 5 (Az (b3 2)), .slot 9 (Ag .i64 x9), .res (AK p_0 x10), .res (lb (b1 0) 33 [Af 32 a_1]), .res (lb (b1 1) 58 [Af 32 (List.replicate 32 0), one (Ag .i64 (0 : Int)), one (Az (.slice none 0 0))]), .res (HZ (b3 2) x11)] a w at h
  refine As mixed hn hG h [0, 1, 2, 3, 4, 500, 5, 6, 7, 8] (ov [4] (Ak Bl q0 qi) .nil) fun _ a w h => ?_
  refine wp_seq ?_
  refine CC h hF 5 [0, 1, 2, 3, 4, 6, 7, 8, 9] [0, 1, 2, 3, 4, 6, 7, 8, 9] (fun hb22 hF h => ?_) (fun hb22 hF h => ?_)
  ·refine wp_skip ?_
   show Code.wp prog _ _ a w
   refine wp_seq ?_
   refine wp_block ?_
   refine As mixed hn hG h [0, 1, 2, 3, 500, 4, 5, 6, 7, 8] (ov [4] (Ab q0) <| ov [500] (Ae q0) .nil) fun _ a w h => ?_
   obtain ⟨s23, hs24, hF⟩ := bind_some hF
   rw [hs24] at h
   obtain ⟨h25, h⟩ := h.ex 9 rfl
   have hp := h.PK 9 rfl (fun Φ f w q => PF Φ f w q)
   replace h := h.Gy 3 rfl (V' := Av (b3 2) 0) (fun _ _ h => Jr h hp)
   replace h := h.sep (R := lb (b3 2) 58 [Af 32 s23.CV, one (Ag .i64 s23.CH), one (Az h25)]) (S := (acc h25 33 32 (dC 32) s23.Bi)) 9 rfl
   replace h := h.sub [0, 1, 2, 3, 4, 5, 6, 7, 8, 9, 10] (by rfl)
   change AA c [.slot 0 (Az p_0), .slot 3 (Av (b1 0) 0), .slot 4 (Av (b1 1) 0), .slot 5 (Av (b3 2) 0), .slot 6 (Ag .i64 x9), .slot 9 (Ag .i64 x9), .res (AK p_0 x10), .res (lb (b1 0) 33 [Af 32 a_1]), .res (lb (b1 1) 58 [Af 32 (List.replicate 32 0), one (Ag .i64 (0 : Int)), one (Az (.slice none 0 0))]), .res (lb (b3 2) 58 [Af 32 s23.CV, one (Ag .i64 s23.CH), one (Az h25)]), .res (acc h25 33 32 (dC 32) s23.Bi)] a w at h
   replace h := h.Fh 33 32 (dC 32)
   replace h := h.sub [0, 1, 2, 3, 4, 5, 6, 7, 8, 9, 10, 11] (by rfl)
   change AA c [.slot 0 (Az p_0), .slot 3 (Av (b1 0) 0), .slot 4 (Av (b1 1) 0), .slot 5 (Av (b3 2) 0), .slot 6 (Ag .i64 x9), .slot 9 (Ag .i64 x9), .res (AK p_0 x10), .res (lb (b1 0) 33 [Af 32 a_1]), .res (lb (b1 1) 58 [Af 32 (List.replicate 32 0), one (Ag .i64 (0 : Int)), one (Az (.slice none 0 0))]), .res (lb (b3 2) 58 [Af 32 s23.CV, one (Ag .i64 s23.CH), one (Az h25)]), .res (acc h25 33 32 (dC 32) s23.Bi), .res (acc (.slice none 0 0) 33 32 (dC 32) ([] : List (List UInt8)))] a w at h
   obtain ⟨r26, hr26, hF⟩ := bind_some hF
   obtain ⟨hv27, hF⟩ := AF hF
   refine Cd mixed hn hG h [0, 1, 2, 3, 5, 7, 8, 500, 505, 502] (ov [3] (Ad (p := (b3 2)) (n := 1) 0 33 underlying58 rfl sizeOf27 (by decide) q0 rfl) <| ov [500, 9] (Aj ((Am.ck s23).take 2) [] 1 isAgg27 q0 rfl rfl) <| ov [0] (Ab q0) <| ov [1, 7] (An 1 isAgg33 sizeOf33 q0) <| ov [4] (Ab q0) <| oc [502, 501, 500] [6] call42 (JF hr26) ⟨q0, q1, q2, trivial⟩ <| ov [501] (CP (xs := [.tmp 17]) (ys := [r26.1]) _ rfl underlying27 sizeOf33 zeroValue33 rfl rfl (by decide) (by decide) ⟨⟨_, q0, (Ai _)⟩, trivial⟩ (Bk 32)) <| og [506, 500] [10] [.slot 19 7 100000 (fun v1_ _ => (Az v1_)), .res 7 100000 (fun v1_ _ => (acc (v1_) 33 32 (dC 32) (s23.Bi ++ [r26.1])))] (AB.plain (CL (i := t33) underlying27 type33 rfl (Bk 32) (by decide) rfl q0 q1 hv27) rfl) <| ov [3] (Ad (p := (b3 2)) (n := 1) 0 33 underlying58 rfl sizeOf27 (by decide) q0 rfl) <| og [500, 502, 501] [9] [.res 7 100000 (fun v1_ _ => (lb (b3 2) 58 [Af 32 s23.CV, one (Ag .i64 s23.CH), one (Az (v1_))]))] (fun {β} => (AB.plain (B8 ((Am.ck s23).take 2) [one (Az h25)] [] [one (Az ((β 7)))] sizeOf27 q0 (HU 1 2 rfl rfl IM) (FG _) rfl rfl rfl) rfl)) .nil) fun b28 a w h => ?_
   replace h := h.F4 7 9 rfl rfl (by decide)
   replace h := h.conv 7 rfl (R' := HZ (b3 2) (some ⟨s23.CV, s23.CH, s23.Bi ++ [r26.1]⟩)) (Li (v2 := (b28 7)) (o := (some ⟨s23.CV, s23.CH, s23.Bi ++ [r26.1]⟩)))
   replace h := h.Gy 3 rfl (fun _ _ h => LD h)
   replace h := h.sub [0, 1, 2, 3, 4, 5, 6, 8, 7] (by rfl)
   change AA c [.slot 0 (Az p_0), .slot 3 (Av (b1 0) 0), .slot 4 (Av (b1 1) 0), .slot 5 (Az (b3 2)), .slot 9 (Ag .i64 x9), .res (lb (b1 0) 33 [Af 32 a_1]), .res (lb (b1 1) 58 [Af 32 (List.replicate 32 0), one (Ag .i64 (0 : Int)), one (Az (.slice none 0 0))]), .res (AK p_0 r26.2), .res (HZ (b3 2) (some ⟨s23.CV, s23.CH, s23.Bi ++ [r26.1]⟩))] a w at h
   show Code.wp prog _ _ a w
   refine Cd mixed hn hG h [0, 1, 2, 3, 500, 5, 6, 7, 8] (ov [4] (Ak A9 q0 qi) <| od [500] 4 (Ab q0) .nil) fun _ a w h => ?_
   obtain rfl := Option.some.inj hF
   exact ⟨rfl, h.sub [0, 1, 2, 3, 4, 7, 5, 6, 8] (by rfl)⟩
  ·refine wp_exit ?_
   obtain rfl := Option.some.inj hF
   exact ⟨BK _, rfl, h.sub [2, 3, 5, 7, 8] (by rfl)⟩
 ·clear hl30
  intro e a w hq
  cases cr29 with
  | ret r31 =>
   obtain ⟨rfl, hq⟩ := hq
   obtain rfl := Option.some.inj hF
   exact ⟨.inl rfl, hq⟩
  | next s32 =>
   obtain ⟨y33, y34, y35⟩ := s32
   obtain ⟨rfl, h⟩ := hq
   change AA c [.slot 4 (Av (b1 1) 0), .slot 5 (Az (b3 2)), .res (AK p_0 y34), .res (lb (b1 1) 58 [Af 32 (List.replicate 32 0), one (Ag .i64 (0 : Int)), one (Az (.slice none 0 0))]), .res (HZ (b3 2) y35)] a w at h
   refine Bd ?_
   show Code.wp prog _ _ a w
   obtain ⟨s36, hs37, hF⟩ := bind_some hF
   rw [hs37] at h
   obtain ⟨h38, h⟩ := h.ex 4 rfl
   have hp := h.PK 4 rfl (fun Φ f w q => PF Φ f w q)
   replace h := h.Gy 1 rfl (V' := Av (b3 2) 0) (fun _ _ h => Jr h hp)
   replace h := h.sep (R := lb (b3 2) 58 [Af 32 s36.CV, one (Ag .i64 s36.CH), one (Az h38)]) (S := (acc h38 33 32 (dC 32) s36.Bi)) 4 rfl
   replace h := h.sub [0, 1, 2, 3, 4, 5] (by rfl)
   change AA c [.slot 4 (Av (b1 1) 0), .slot 5 (Av (b3 2) 0), .res (AK p_0 y34), .res (lb (b1 1) 58 [Af 32 (List.replicate 32 0), one (Ag .i64 (0 : Int)), one (Az (.slice none 0 0))]), .res (lb (b3 2) 58 [Af 32 s36.CV, one (Ag .i64 s36.CH), one (Az h38)]), .res (acc h38 33 32 (dC 32) s36.Bi)] a w at h
   replace h := h.F4 4 5 rfl rfl (by decide)
   replace h := h.conv 4 rfl (settle (pre := ((Am.ck s36).take 2)) (post := []))
   replace h := h.sep 4 rfl
   replace h := h.sub [0, 1, 2, 3, 4] (by rfl)
   change AA c [.slot 4 (Av (b1 1) 0), .slot 5 (Av (b3 2) 0), .res (AK p_0 y34), .res (lb (b1 1) 58 [Af 32 (List.replicate 32 0), one (Ag .i64 (0 : Int)), one (Az (.slice none 0 0))]), .res (lb (b3 2) 58 (Am.ck s36))] a w at h
   refine As mixed hn hG h [0, 2, 500] (ov [1, 4] (An 1 isAgg58 sizeOf58 q0) <| ou [0, 500] 3 (Aq sizeOf58 q0 q1 (Ai _)) .nil) fun _ a w h => ?_
   refine wp_ret ?_
   obtain rfl := Option.some.inj hF
   exact ⟨.inl rfl, BW h results14 (Be 0 2 rfl rfl isAgg58 sizeOf58 rfl) [1] [(AK p_0 y34)] rfl rfl rfl⟩

def DS.b1 (a_0 : Int) (x9 : Int) (x10 : List (Ar)) : Option (Cn (List (Ar)) (Int × (List (Ar)))) := (if (decide (x9 < a_0)) = true then (if x10.length + [(Ar.mk 1 (IntKind.wrap .u32 x9) 2 [97] [98] [])].length ≤ CW ∧ (x10.length + [(Ar.mk 1 (IntKind.wrap .u32 x9) 2 [97] [98] [])].length) * 64 ≤ 140737488355328 then some (.cont (IntKind.wrap .i64 (x9 + 1), x10 ++ [(Ar.mk 1 (IntKind.wrap .u32 x9) 2 [97] [98] [])])) else none) else some (.brk (x9, x10)))
def DS (a_0 : Int) : Option (List (Ar)) := ((Bu (fun s : Int × (List (Ar)) => DS.b1 a_0 s.1 s.2) ((a_0 - 0 : Int).toNat + 2) (0, [])).bind fun cr => match cr with | .ret r => some r | .next (y25, y26) => some y26)
theorem I9 {a_0 : Int} {r : (List (Ar))} (hF : DS a_0 = some r) : AH prog KG 15 [(Ag .i64 a_0)] [] (fun _ => []) (AJ Ar.ck r) := by
 refine AH.intro 17 func15 rfl ntmps15 (Nat.le_of_ble_eq_true rfl) ?_
 intro c a w hG hn h
 unfold DS at hF
 change AA c [.slot 0 (Ag .i64 a_0)] a w at h
 refine As mixed hn hG h [0] (ov [] (Ae (D2 (ec _))) .nil) fun _ a w h => ?_
 refine As mixed hn hG h [0, 500] (ov [] (Ae (D2 (ec _))) .nil) fun _ a w h => ?_
 refine wp_seq ?_
 refine As mixed hn hG h [1, 501, 500] (ov [0] (Ab q0) <| ov [] (Ab qi) .nil) fun _ a w h => ?_
 refine wp_block ?_
 obtain ⟨q5, h⟩ : ∃ q5 : Value, AA c [.slot 3 (Az q5), .slot 5 (Ag .i64 a_0), .slot 6 (Ag .i64 0), .res (acc q5 31 6 Ar.ck [])] a w := ⟨.slice none 0 0, (h.Fh 31 6 Ar.ck).sub [0, 1, 2, 3] (by rfl)⟩
 obtain ⟨cr21, hl22, hF⟩ := bind_some hF
 refine wp_mono (Bx (R := (List (Ar))) (S := Int × (List (Ar))) (fun s a w => ∃ q11 : Value, AA c [.slot 3 (Az q11), .slot 5 (Ag .i64 a_0), .slot 6 (Ag .i64 s.1), .res (acc q11 31 6 Ar.ck s.2)] a w) (fun res e a w => match res with | .next s => e = .exit 0 ∧ ∃ q11 : Value, AA c [.slot 3 (Az q11), .res (acc q11 31 6 Ar.ck s.2)] a w | .ret r => e = .ret ∧ Cu prog f15 c (AJ Ar.ck r) (fun _ => []) a w) ?_ _ (0, []) _ _ _ ⟨q5, (h.sub [0, 1, 2, 3] (by rfl))⟩ hl22) ?_
 ·clear hl22 hF h
  intro s a w o h hF
  obtain ⟨x9, x10⟩ := s
  obtain ⟨q11, h⟩ := h
  change DS.b1 a_0 x9 x10 = some o at hF
  unfold DS.b1 at hF
  change AA c [.slot 3 (Az q11), .slot 5 (Ag .i64 a_0), .slot 6 (Ag .i64 x9), .res (acc q11 31 6 Ar.ck x10)] a w at h
  refine As mixed hn hG h [0, 1, 2, 500, 3] (ov [2, 1] (Ak Bl q0 q1) .nil) fun _ a w h => ?_
  refine wp_seq ?_
  refine CC h hF 3 [0, 1, 2, 4] [0, 1, 2, 4] (fun hb18 hF h => ?_) (fun hb18 hF h => ?_)
  ·refine wp_skip ?_
   show Code.wp prog _ _ a w
   refine wp_seq ?_
   refine wp_block ?_
   refine As mixed hn hG h [0, 500, 1, 2, 3] (ov [2] (Ab q0) <| ov [500] (Ae q0) .nil) fun _ a w h => ?_
   obtain ⟨hv19, hF⟩ := AF hF
   refine Cd mixed hn hG h [500, 2, 3, 501] (ov [0] (Ab q0) <| ov [1] (Ab q0) <| ov [500] (A3 underlying3 underlying29 q0) <| ov [500] (Dw [(0, .const (.int .u32 1)), (1, .tmp 11), (2, .const (.int .u32 2)), (3, .const (.string ⟨#[97]⟩)), (4, .const (.string ⟨#[98]⟩))] rfl R8 z31 ⟨[], [one (Ag .u32 (0 : Int))], [one (Ag .u32 (0 : Int)), one (Ag .u32 (0 : Int)), one (Br []), one (Br []), one (Br [])], [one (Ag .u32 1)], _, rfl, rfl, rfl, qi, (AG (A8 _ _)), ⟨[one (Ag .u32 1)], [one (Ag .u32 (0 : Int))], [one (Ag .u32 (0 : Int)), one (Br []), one (Br []), one (Br [])], [one (Ag .u32 (IntKind.wrap .u32 x9))], _, rfl, rfl, rfl, q0, (AG (A8 _ _)), ⟨[one (Ag .u32 1), one (Ag .u32 (IntKind.wrap .u32 x9))], [one (Ag .u32 (0 : Int))], [one (Br []), one (Br []), one (Br [])], [one (Ag .u32 2)], _, rfl, rfl, rfl, qi, (AG (A8 _ _)), ⟨[one (Ag .u32 1), one (Ag .u32 (IntKind.wrap .u32 x9)), one (Ag .u32 2)], [one (Br [])], [one (Br []), one (Br [])], [one (Br [97])], _, rfl, rfl, rfl, (D2 (sc _ (by decide))), (AG (CD _)), ⟨[one (Ag .u32 1), one (Ag .u32 (IntKind.wrap .u32 x9)), one (Ag .u32 2), one (Br [97])], [one (Br [])], [one (Br [])], [one (Br [98])], _, rfl, rfl, rfl, (D2 (sc _ (by decide))), (AG (CD _)), rfl⟩⟩⟩⟩⟩) <| ov [500] (CP (xs := [.tmp 12]) (ys := [(Ar.mk 1 (IntKind.wrap .u32 x9) 2 [97] [98] [])]) _ rfl underlying26 sizeOf31 zeroValue31 rfl rfl (by decide) (by decide) ⟨⟨_, q0, (Ai _)⟩, trivial⟩ Ar.lens) <| og [504, 500] [4] [.slot 14 5 100000 (fun v1_ _ => (Az v1_)), .res 5 100000 (fun v1_ _ => (acc (v1_) 31 6 Ar.ck (x10 ++ [(Ar.mk 1 (IntKind.wrap .u32 x9) 2 [97] [98] [])])))] (AB.plain (CL (i := t31) underlying26 type31 rfl Ar.lens (by decide) rfl q0 q1 hv19) rfl) <| og [501] [0] [.slot 3 5 100000 (fun v1_ _ => (Az v1_))] (fun {β} => (AB.drop _ (AB.plain (Ae (V := (Az (β 5))) q0) rfl))) .nil) fun b20 a w h => ?_
   show Code.wp prog _ _ a w
   refine Cd mixed hn hG h [0, 1, 500, 3] (ov [2] (Ak A9 q0 qi) <| od [500] 2 (Ab q0) .nil) fun _ a w h => ?_
   obtain rfl := Option.some.inj hF
   exact ⟨rfl, (b20 5), h.sub [0, 1, 2, 3] (by rfl)⟩
  ·refine wp_exit ?_
   obtain rfl := Option.some.inj hF
   exact ⟨BK _, rfl, q11, h.sub [0, 3] (by rfl)⟩
 ·clear hl22
  intro e a w hq
  cases cr21 with
  | ret r23 =>
   obtain ⟨rfl, hq⟩ := hq
   obtain rfl := Option.some.inj hF
   exact ⟨.inl rfl, hq⟩
  | next s24 =>
   obtain ⟨y25, y26⟩ := s24
   obtain ⟨rfl, q11, h⟩ := hq
   change AA c [.slot 3 (Az q11), .res (acc q11 31 6 Ar.ck y26)] a w at h
   refine Bd ?_
   show Code.wp prog _ _ a w
   refine As mixed hn hG h [500, 1] (ov [0] (Ab q0) <| ov [500] (Ae q0) .nil) fun _ a w h => ?_
   refine wp_ret ?_
   obtain rfl := Option.some.inj hF
   exact ⟨.inl rfl, BW h results15 (Ke 0 1 rfl rfl) [] [] rfl rfl rfl⟩

def C8 (L_0 : Option AD) (a_1 : Int) (a_2 : List UInt8) (a_3 : List UInt8) : Option ((List UInt8) × (Option AD)) := ((DC a_2).bind fun r4 => ((DC a_3).bind fun r5 => ((C9 L_0 a_1 [r4, r5]).bind fun r6 => some (r6.1, r6.2))))
theorem Ev {p_0 : Value} {L_0 : Option AD} {a_1 : Int} {a_2 : List UInt8} {a_3 : List UInt8} {r : (List UInt8) × (Option AD)} (hF : C8 L_0 a_1 a_2 a_3 = some r) : AH prog KG 86 [(Az p_0), (Ag .u8 a_1), (Au [Af 32 a_2]), (Au [Af 32 a_3])] [(AK p_0 L_0)] (fun _ => [AK p_0 r.2]) (Au [Af 32 r.1]) := by
 refine AH.intro 17 func86 rfl ntmps86 (Nat.le_of_ble_eq_true rfl) ?_
 intro c a w hG hn h
 unfold C8 at hF
 change AA c [.slot 0 (Az p_0), .slot 1 (Ag .u8 a_1), .slot 2 (Au [Af 32 a_2]), .slot 3 (Au [Af 32 a_3]), .res (AK p_0 L_0)] a w at h
 refine As mixed hn hG h [0, 1, 505, 503, 501, 4, 504, 502, 500] (ob [2] (Bc q0 (Ai _)) <| ob [3] (Bc q0 (Ai _)) <| ob [] (AR zeroValue33 FT) .nil) fun b1 a w h => ?_
 obtain ⟨r4, hr4, hF⟩ := bind_some hF
 obtain ⟨r5, hr5, hF⟩ := bind_some hF
 obtain ⟨r6, hr6, hF⟩ := bind_some hF
 refine As mixed hn hG h [4, 500, 501] (ov [0] (Ab q0) <| ov [1] (Ab q0) <| ov [2, 6] (An 1 isAgg33 sizeOf33 q0) <| oc [500] [] call79 (DU hr4) ⟨q0, trivial⟩ <| ov [3, 7] (An 1 isAgg33 sizeOf33 q0) <| oc [500] [] call79 (DU hr5) ⟨q0, trivial⟩ <| ov [502, 500] (CP (xs := [.tmp 12, .tmp 14]) (ys := [r4, r5]) _ rfl underlying22 sizeOf9 zeroValue9 rfl rfl (by decide) (by decide) ⟨⟨_, q0, (AG (CD _))⟩, ⟨_, q1, (AG (CD _))⟩, trivial⟩ CF) <| oc [506, 505, 500] [5] call80 (DA hr6) ⟨q0, q1, q2, trivial⟩ <| ou [4, 501] 8 (Aq sizeOf33 q0 q1 (Ai _)) .nil) fun _ a w h => ?_
 refine wp_ret ?_
 obtain rfl := Option.some.inj hF
 exact ⟨.inl rfl, BW h results86 (Be 0 1 rfl rfl isAgg33 sizeOf33 rfl) [2] [(AK p_0 r6.2)] rfl rfl rfl⟩

def D8.b1 (a_1 : List (List UInt8)) (x15 : Int) (x16 : Option AD) (x17 : List (List UInt8)) : Option (Cn ((List (List UInt8)) × (Option AD)) (Int × (Option AD) × (List (List UInt8)))) := (if (decide ((IntKind.wrap .i64 (x15 + 1)) < (a_1.length : Int))) = true then (if (0 : Int) ≤ x15 ∧ x15 < a_1.length then (if (0 : Int) ≤ IntKind.wrap .i64 (x15 + 1) ∧ IntKind.wrap .i64 (x15 + 1) < a_1.length then ((C8 x16 4 (a_1.getD x15.toNat default) (a_1.getD (IntKind.wrap .i64 (x15 + 1)).toNat default)).bind fun r32 => (if x17.length + [r32.1].length ≤ CW ∧ (x17.length + [r32.1].length) * 32 ≤ 140737488355328 then some (.cont (IntKind.wrap .i64 (x15 + 2), r32.2, x17 ++ [r32.1])) else none)) else none) else none) else some (.brk (x15, x16, x17)))
def D8 (L_0 : Option AD) (a_1 : List (List UInt8)) : Option ((List (List UInt8)) × (Option AD)) := ((Bu (fun s : Int × (Option AD) × (List (List UInt8)) => D8.b1 a_1 s.1 s.2.1 s.2.2) 100000 (0, L_0, [])).bind fun cr => match cr with | .ret r => some r | .next (y39, y40, y41) => some (y41, y40))
theorem Kr {p_0 : Value} {L_0 : Option AD} {a_1 : List (List UInt8)} {r : (List (List UInt8)) × (Option AD)} (hF : D8 L_0 a_1 = some r) : AH prog KG 44 [(Az p_0), (AJ (dC 32) a_1)] [(AK p_0 L_0)] (fun _ => [AK p_0 r.2]) (AJ (dC 32) r.1) := by
 refine AH.intro 29 func44 rfl ntmps44 (Nat.le_of_ble_eq_true rfl) ?_
 intro c a w hG hn h
 unfold D8 at hF
 change AA c [.slot 0 (Az p_0), .slot 1 (AJ (dC 32) a_1), .res (AK p_0 L_0)] a w at h
 refine As mixed hn hG h [0, 1, 2] (ov [] (Ae (D2 (ec _))) .nil) fun _ a w h => ?_
 refine As mixed hn hG h [0, 1, 500, 2] (ov [] (Ae (D2 (ec _))) .nil) fun _ a w h => ?_
 refine wp_seq ?_
 refine As mixed hn hG h [0, 1, 2, 500, 3] (ov [] (Ae qi) .nil) fun _ a w h => ?_
 refine wp_block ?_
 obtain ⟨q8, h⟩ : ∃ q8 : Value, AA c [.slot 0 (Az p_0), .slot 1 (AJ (dC 32) a_1), .slot 5 (Az q8), .slot 6 (Ag .i64 0), .res (AK p_0 L_0), .res (acc q8 33 32 (dC 32) [])] a w := ⟨.slice none 0 0, (h.Fh 33 32 (dC 32)).sub [0, 1, 2, 3, 4, 5] (by rfl)⟩
 obtain ⟨cr35, hl36, hF⟩ := bind_some hF
 refine wp_mono (Bx (R := (List (List UInt8)) × (Option AD)) (S := Int × (Option AD) × (List (List UInt8))) (fun s a w => ∃ q18 : Value, AA c [.slot 0 (Az p_0), .slot 1 (AJ (dC 32) a_1), .slot 5 (Az q18), .slot 6 (Ag .i64 s.1), .res (AK p_0 s.2.1), .res (acc q18 33 32 (dC 32) s.2.2)] a w) (fun res e a w => match res with | .next s => e = .exit 0 ∧ ∃ q18 : Value, AA c [.slot 5 (Az q18), .res (AK p_0 s.2.1), .res (acc q18 33 32 (dC 32) s.2.2)] a w | .ret r => e = .ret ∧ Cu prog f44 c (AJ (dC 32) r.1) (fun _ => [AK p_0 r.2]) a w) ?_ _ (0, L_0, []) _ _ _ ⟨q8, (h.sub [0, 1, 2, 3, 4, 5] (by rfl))⟩ hl36) ?_
 ·clear hl36 hF h
  intro s a w o h hF
  obtain ⟨x15, x16, x17⟩ := s
  obtain ⟨q18, h⟩ := h
  change D8.b1 a_1 x15 x16 x17 = some o at hF
  unfold D8.b1 at hF
  change AA c [.slot 0 (Az p_0), .slot 1 (AJ (dC 32) a_1), .slot 5 (Az q18), .slot 6 (Ag .i64 x15), .res (AK p_0 x16), .res (acc q18 33 32 (dC 32) x17)] a w at h
  refine wp_seq ?_
  refine As mixed hn hG h [0, 1, 2, 3, 500, 4, 5] (ov [3] (Ab q0) <| ov [500] (Ak A9 q0 qi) <| ov [1] (Ab q0) <| ov [500] (A6 underlying27 q0) <| ov [502, 500] (Ak Bl q0 q1) .nil) fun _ a w h => ?_
  refine CC h hF 4 [0, 1, 2, 3, 5, 6] [0, 1, 2, 3, 5, 6] (fun hb29 hF h => ?_) (fun hb29 hF h => ?_)
  ·refine wp_skip ?_
   show Code.wp prog _ _ a w
   refine wp_seq ?_
   refine wp_block ?_
   obtain ⟨hv30, hF⟩ := AF hF
   obtain ⟨hv31, hF⟩ := AF hF
   obtain ⟨r32, hr32, hF⟩ := bind_some hF
   obtain ⟨hv33, hF⟩ := AF hF
   refine Cd mixed hn hG h [0, 1, 500, 3, 504, 501] (ov [2] (Ab q0) <| ov [0] (Ab q0) <| ov [1] (Ab q0) <| ov [3] (Ab q0) <| ov [501, 500] (AS underlying27 sizeOf33 (Bk 32) q0 q1 hv30) <| ov [500] (Bq [Af 32 (a_1.getD x15.toNat default)] [] isAgg33 sizeOf33 q0 rfl) <| ov [1] (Ab q0) <| ov [3] (Ab q0) <| ov [500] (Ak A9 q0 qi) <| ov [502, 500] (AS underlying27 sizeOf33 (Bk 32) q0 q1 hv31) <| ov [500] (Bq [Af 32 (a_1.getD (IntKind.wrap .i64 (x15 + 1)).toNat default)] [] isAgg33 sizeOf33 q0 rfl) <| oc [509, 505, 500] [4] call86 (Ev hr32) ⟨q0, qi, q1, q2, trivial⟩ <| ov [501] (CP (xs := [.tmp 25]) (ys := [r32.1]) _ rfl underlying27 sizeOf33 zeroValue33 rfl rfl (by decide) (by decide) ⟨⟨_, q0, (Ai _)⟩, trivial⟩ (Bk 32)) <| og [513, 500] [5] [.slot 27 13 100000 (fun v1_ _ => (Az v1_)), .res 13 100000 (fun v1_ _ => (acc (v1_) 33 32 (dC 32) (x17 ++ [r32.1])))] (AB.plain (CL (i := t33) underlying27 type33 rfl (Bk 32) (by decide) rfl q0 q1 hv33) rfl) <| og [501] [2] [.slot 5 13 100000 (fun v1_ _ => (Az v1_))] (fun {β} => (AB.drop _ (AB.plain (Ae (V := (Az (β 13))) q0) rfl))) .nil) fun b34 a w h => ?_
   show Code.wp prog _ _ a w
   refine Cd mixed hn hG h [0, 1, 2, 500, 4, 5] (ov [3] (Ab q0) <| ov [500] (Ak A9 q0 qi) <| od [500] 3 (Ae q0) .nil) fun _ a w h => ?_
   obtain rfl := Option.some.inj hF
   exact ⟨rfl, (b34 13), h.sub [0, 1, 2, 3, 4, 5] (by rfl)⟩
  ·refine wp_exit ?_
   obtain rfl := Option.some.inj hF
   exact ⟨BK _, rfl, q18, h.sub [2, 4, 5] (by rfl)⟩
 ·clear hl36
  intro e a w hq
  cases cr35 with
  | ret r37 =>
   obtain ⟨rfl, hq⟩ := hq
   obtain rfl := Option.some.inj hF
   exact ⟨.inl rfl, hq⟩
  | next s38 =>
   obtain ⟨y39, y40, y41⟩ := s38
   obtain ⟨rfl, q18, h⟩ := hq
   change AA c [.slot 5 (Az q18), .res (AK p_0 y40), .res (acc q18 33 32 (dC 32) y41)] a w at h
   refine Bd ?_
   show Code.wp prog _ _ a w
   refine As mixed hn hG h [500, 1, 2] (ov [0] (Ab q0) <| ov [500] (Ae q0) .nil) fun _ a w h => ?_
   refine wp_ret ?_
   obtain rfl := Option.some.inj hF
   exact ⟨.inl rfl, BW h results44 (Ke 0 2 rfl rfl) [1] [(AK p_0 y40)] rfl rfl rfl⟩

def B4.b1 (x6 : List (List UInt8)) (x7 : Option AD) : Option (Cn ((List UInt8) × (Option AD)) ((List (List UInt8)) × (Option AD))) := (if (decide ((1 : Int) < (x6.length : Int))) = true then ((D8 x7 x6).bind fun r13 => some (.cont (r13.1, r13.2))) else some (.brk (x6, x7)))
def B4 (a_0 : Am) (L_1 : Option AD) : Option ((List UInt8) × (Option AD)) := (if (!decide ((a_0.Bi.length : Int) = (16 : Int))) = true then some ((List.replicate 32 0), L_1) else ((Bu (fun s : (List (List UInt8)) × (Option AD) => B4.b1 s.1 s.2) (((a_0.Bi.length : Int) - 1 : Int).toNat + 2) (a_0.Bi, L_1)).bind fun cr => match cr with | .ret r => some r | .next (y18, y19) => (if (0 : Int) ≤ 0 ∧ (0 : Int) < y18.length then some (y18.getD (0 : Int).toNat default, y19) else none)))
theorem F6 {p_1 : Value} {a_0 : Am} {L_1 : Option AD} {r : (List UInt8) × (Option AD)} (hF : B4 a_0 L_1 = some r) : AH prog KG 17 [(Au (Am.ck a_0)), (Az p_1)] [(AK p_1 L_1)] (fun _ => [AK p_1 r.2]) (Au [Af 32 r.1]) := by
 refine AH.intro 22 func17 rfl ntmps17 (Nat.le_of_ble_eq_true rfl) ?_
 intro c a w hG hn h
 unfold B4 at hF
 change AA c [.slot 0 (Au (Am.ck a_0)), .slot 1 (Az p_1), .res (AK p_1 L_1)] a w at h
 refine As mixed hn hG h [1, 503, 501, 2, 502, 500] (ob [0] (Bc q0 (Ai _)) <| ob [] (AR zeroValue33 FT) .nil) fun b1 a w h => ?_
 refine wp_seq ?_
 refine As mixed hn hG h [0, 1, 2, 500, 3, 4, 5] (ov [1] (Ad (p := (b1 0)) (n := 1) 0 33 underlying58 rfl sizeOf27 (by decide) q0 rfl) <| ov [500, 4] (Aj ((Am.ck a_0).take 2) [] 1 isAgg27 q0 rfl rfl) <| ov [500] (A6 underlying27 q0) <| ov [500] (Ak Bg q0 qi) .nil) fun _ a w h => ?_
 refine CC h hF 3 [2, 4, 6] [0, 1, 2, 4, 5, 6] (fun hb3 hF h => ?_) (fun hb3 hF h => ?_)
 ·refine As mixed hn hG h [0, 1, 500] (ov [] (KB zeroValue33 underlying33 sizeOf5 FT) <| ou [0, 500] 2 (Aq sizeOf33 q0 q1 (Ai _)) .nil) fun _ a w h => ?_
  refine wp_ret ?_
  obtain rfl := Option.some.inj hF
  exact ⟨.inl rfl, BW h results17 (Be 0 2 rfl rfl isAgg33 sizeOf33 rfl) [1] [(AK p_1 L_1)] rfl rfl rfl⟩
 ·refine wp_skip ?_
  show Code.wp prog _ _ a w
  refine As mixed hn hG h [0, 2, 500, 3, 5] (ov [1] (Ad (p := (b1 0)) (n := 1) 0 33 underlying58 rfl sizeOf27 (by decide) q0 rfl) <| ov [500, 4] (Aj ((Am.ck a_0).take 2) [] 1 isAgg27 q0 rfl rfl) <| ov [500] (Ae q0) .nil) fun _ a w h => ?_
  refine wp_seq ?_
  refine wp_block ?_
  obtain ⟨cr14, hl15, hF⟩ := bind_some hF
  refine wp_mono (Bx (R := (List UInt8) × (Option AD)) (S := (List (List UInt8)) × (Option AD)) (fun s a w => AA c [.slot 1 (Az p_1), .slot 4 (Av (b1 1) 0), .slot 5 (AJ (dC 32) s.1), .res (AK p_1 s.2), .res (lb (b1 1) 33 [Af 32 (List.replicate 32 0)])] a w) (fun res e a w => match res with | .next s => e = .exit 0 ∧ AA c [.slot 4 (Av (b1 1) 0), .slot 5 (AJ (dC 32) s.1), .res (AK p_1 s.2), .res (lb (b1 1) 33 [Af 32 (List.replicate 32 0)])] a w | .ret r => e = .ret ∧ Cu prog f17 c (Au [Af 32 r.1]) (fun _ => [AK p_1 r.2]) a w) ?_ _ (a_0.Bi, L_1) _ _ _ (h.sub [0, 1, 2, 3, 4] (by rfl)) hl15) ?_
  ·clear hl15 hF h
   intro s a w o h hF
   obtain ⟨x6, x7⟩ := s
   change B4.b1 x6 x7 = some o at hF
   unfold B4.b1 at hF
   change AA c [.slot 1 (Az p_1), .slot 4 (Av (b1 1) 0), .slot 5 (AJ (dC 32) x6), .res (AK p_1 x7), .res (lb (b1 1) 33 [Af 32 (List.replicate 32 0)])] a w at h
   refine wp_seq ?_
   refine As mixed hn hG h [0, 1, 2, 500, 3, 4] (ov [2] (Ab q0) <| ov [500] (A6 underlying27 q0) <| ov [500] (Ak EW q0 qi) .nil) fun _ a w h => ?_
   refine CC h hF 3 [0, 1, 2, 4, 5] [0, 1, 2, 4, 5] (fun hb12 hF h => ?_) (fun hb12 hF h => ?_)
   ·refine wp_skip ?_
    show Code.wp prog _ _ a w
    refine wp_block ?_
    obtain ⟨r13, hr13, hF⟩ := bind_some hF
    refine Cd mixed hn hG h [0, 1, 500, 4, 501] (ov [0] (Ab q0) <| ov [2] (Ab q0) <| oc [501, 500] [3] call44 (Kr hr13) ⟨q0, q1, trivial⟩ <| od [501] 2 (Ae q0) .nil) fun _ a w h => ?_
    obtain rfl := Option.some.inj hF
    exact ⟨rfl, h.sub [0, 1, 2, 4, 3] (by rfl)⟩
   ·refine wp_exit ?_
    obtain rfl := Option.some.inj hF
    exact ⟨BK _, rfl, h.sub [1, 2, 3, 4] (by rfl)⟩
  ·clear hl15
   intro e a w hq
   cases cr14 with
   | ret r16 =>
    obtain ⟨rfl, hq⟩ := hq
    obtain rfl := Option.some.inj hF
    exact ⟨.inl rfl, hq⟩
   | next s17 =>
    obtain ⟨y18, y19⟩ := s17
    obtain ⟨rfl, h⟩ := hq
    change AA c [.slot 4 (Av (b1 1) 0), .slot 5 (AJ (dC 32) y18), .res (AK p_1 y19), .res (lb (b1 1) 33 [Af 32 (List.replicate 32 0)])] a w at h
    refine Bd ?_
    show Code.wp prog _ _ a w
    obtain ⟨hv20, hF⟩ := AF hF
    refine As mixed hn hG h [0, 2, 500] (ov [1] (Ab q0) <| ov [500] (AS underlying27 sizeOf33 (Bk 32) q0 qi hv20) <| ov [500] (Bq [Af 32 (y18.getD (0 : Int).toNat default)] [] isAgg33 sizeOf33 q0 rfl) <| ou [0, 500] 3 (Aq sizeOf33 q0 q1 (Ai _)) .nil) fun _ a w h => ?_
    refine wp_ret ?_
    obtain rfl := Option.some.inj hF
    exact ⟨.inl rfl, BW h results17 (Be 0 2 rfl rfl isAgg33 sizeOf33 rfl) [1] [(AK p_1 y19)] rfl rfl rfl⟩

def DR (L_0 : Option AD) (a_1 : List UInt8) (a_2 : List UInt8) : Option ((List UInt8) × (Option AD)) := ((C8 L_0 6 a_1 a_2).bind fun r4 => some (r4.1, r4.2))
theorem Fi {p_0 : Value} {L_0 : Option AD} {a_1 : List UInt8} {a_2 : List UInt8} {r : (List UInt8) × (Option AD)} (hF : DR L_0 a_1 a_2 = some r) : AH prog KG 87 [(Az p_0), (Au [Af 32 a_1]), (Au [Af 32 a_2])] [(AK p_0 L_0)] (fun _ => [AK p_0 r.2]) (Au [Af 32 r.1]) := by
 refine AH.intro 11 func87 rfl ntmps87 (Nat.le_of_ble_eq_true rfl) ?_
 intro c a w hG hn h
 unfold DR at hF
 change AA c [.slot 0 (Az p_0), .slot 1 (Au [Af 32 a_1]), .slot 2 (Au [Af 32 a_2]), .res (AK p_0 L_0)] a w at h
 refine As mixed hn hG h [0, 505, 503, 501, 3, 504, 502, 500] (ob [1] (Bc q0 (Ai _)) <| ob [2] (Bc q0 (Ai _)) <| ob [] (AR zeroValue33 FT) .nil) fun b1 a w h => ?_
 obtain ⟨r4, hr4, hF⟩ := bind_some hF
 refine As mixed hn hG h [3, 500, 501] (ov [0] (Ab q0) <| ov [1, 5] (An 1 isAgg33 sizeOf33 q0) <| ov [2, 6] (An 1 isAgg33 sizeOf33 q0) <| oc [502, 501, 500] [4] call86 (Ev hr4) ⟨q0, qi, q1, q2, trivial⟩ <| ou [3, 501] 7 (Aq sizeOf33 q0 q1 (Ai _)) .nil) fun _ a w h => ?_
 refine wp_ret ?_
 obtain rfl := Option.some.inj hF
 exact ⟨.inl rfl, BW h results87 (Be 0 1 rfl rfl isAgg33 sizeOf33 rfl) [2] [(AK p_0 r4.2)] rfl rfl rfl⟩

def Ci.b1 (x6 : Int) (x7 : Option AD) (x8 : List (List UInt8)) : Option (Cn ((List (List UInt8)) × (Option AD)) (Int × (Option AD) × (List (List UInt8)))) := (if (decide (x6 < (32 : Int))) = true then (if (0 : Int) ≤ x6 ∧ x6 < 33 then ((DR x7 (x8.getD x6.toNat default) (x8.getD x6.toNat default)).bind fun r18 => (if (0 : Int) ≤ IntKind.wrap .i64 (x6 + 1) ∧ IntKind.wrap .i64 (x6 + 1) < 33 then some (.cont (IntKind.wrap .i64 (x6 + 1), r18.2, x8.set (IntKind.wrap .i64 (x6 + 1)).toNat r18.1)) else none)) else none) else some (.brk (x6, x7, x8)))
def Ci (L_0 : Option AD) : Option ((List (List UInt8)) × (Option AD)) := ((Bu (fun s : Int × (Option AD) × (List (List UInt8)) => Ci.b1 s.1 s.2.1 s.2.2) ((32 - 0 : Int).toNat + 2) (0, L_0, (List.replicate 33 (List.replicate 32 0)))).bind fun cr => match cr with | .ret r => some r | .next (y24, y25, y26) => some (y26, y25))
theorem GF {p_0 : Value} {L_0 : Option AD} {r : (List (List UInt8)) × (Option AD)} (hF : Ci L_0 = some r) : AH prog KG 45 [(Az p_0)] [(AK p_0 L_0)] (fun _ => [AK p_0 r.2]) (Au [C7 33 32 (dC 32) (Bk 32) r.1]) := by
 refine AH.intro 21 func45 rfl ntmps45 (Nat.le_of_ble_eq_true rfl) ?_
 intro c a w hG hn h
 unfold Ci at hF
 change AA c [.slot 0 (Az p_0), .res (AK p_0 L_0)] a w at h
 refine As mixed hn hG h [0, 501, 1, 500] (ob [] (AR zeroValue113 PO) .nil) fun b1 a w h => ?_
 refine As mixed hn hG h [0, 1, 501, 2, 3, 500] (ob [] (AR zeroValue113 PO) .nil) fun b2 a w h => ?_
 refine wp_seq ?_
 refine As mixed hn hG h [0, 1, 2, 500, 3, 4, 5] (ov [] (Ab qi) .nil) fun _ a w h => ?_
 refine wp_block ?_
 obtain ⟨cr20, hl21, hF⟩ := bind_some hF
 refine wp_mono (Bx (R := (List (List UInt8)) × (Option AD)) (S := Int × (Option AD) × (List (List UInt8))) (fun s a w => AA c [.slot 0 (Az p_0), .slot 2 (Av (b1 0) 0), .slot 3 (Av (b2 0) 0), .slot 5 (Ag .i64 s.1), .res (AK p_0 s.2.1), .res (lb (b1 0) 113 [C7 33 32 (dC 32) (Bk 32) (List.replicate 33 (List.replicate 32 0))]), .res (lb (b2 0) 113 [C7 33 32 (dC 32) (Bk 32) s.2.2])] a w) (fun res e a w => match res with | .next s => e = .exit 0 ∧ AA c [.slot 2 (Av (b1 0) 0), .slot 3 (Av (b2 0) 0), .res (AK p_0 s.2.1), .res (lb (b1 0) 113 [C7 33 32 (dC 32) (Bk 32) (List.replicate 33 (List.replicate 32 0))]), .res (lb (b2 0) 113 [C7 33 32 (dC 32) (Bk 32) s.2.2])] a w | .ret r => e = .ret ∧ Cu prog f45 c (Au [C7 33 32 (dC 32) (Bk 32) r.1]) (fun _ => [AK p_0 r.2]) a w) ?_ _ (0, L_0, (List.replicate 33 (List.replicate 32 0))) _ _ _ (h.sub [0, 1, 2, 3, 4, 5, 6] (by rfl)) hl21) ?_
 ·clear hl21 hF h
  intro s a w o h hF
  obtain ⟨x6, x7, x8⟩ := s
  change Ci.b1 x6 x7 x8 = some o at hF
  unfold Ci.b1 at hF
  change AA c [.slot 0 (Az p_0), .slot 2 (Av (b1 0) 0), .slot 3 (Av (b2 0) 0), .slot 5 (Ag .i64 x6), .res (AK p_0 x7), .res (lb (b1 0) 113 [C7 33 32 (dC 32) (Bk 32) (List.replicate 33 (List.replicate 32 0))]), .res (lb (b2 0) 113 [C7 33 32 (dC 32) (Bk 32) x8])] a w at h
  refine As mixed hn hG h [0, 1, 2, 3, 500, 4, 5, 6] (ov [3] (Ak Bl q0 qi) .nil) fun _ a w h => ?_
  refine wp_seq ?_
  refine CC h hF 4 [0, 1, 2, 3, 5, 6, 7] [0, 1, 2, 3, 5, 6, 7] (fun hb16 hF h => ?_) (fun hb16 hF h => ?_)
  ·refine wp_skip ?_
   show Code.wp prog _ _ a w
   refine wp_seq ?_
   refine wp_block ?_
   refine As mixed hn hG h [0, 1, 2, 500, 3, 4, 5, 6] (ov [3] (Ab q0) <| ov [500] (Ae q0) .nil) fun _ a w h => ?_
   obtain ⟨hv17, hF⟩ := AF hF
   obtain ⟨r18, hr18, hF⟩ := bind_some hF
   obtain ⟨hv19, hF⟩ := AF hF
   refine Cd mixed hn hG h [0, 1, 2, 4, 6, 500, 502] (ov [3] (Ab q0) <| ov [500] (Ak A9 q0 qi) <| ov [0] (Ab q0) <| ov [3] (Ab q0) <| ov [2, 500] (AM underlying113 sizeOf33 q0 q1 hv17) <| ov [500, 7] (E4 (i := x6) [] [] 1 isAgg33 sizeOf33 q0 rfl rfl hv17) <| ov [3] (Ab q0) <| ov [2, 500] (AM underlying113 sizeOf33 q0 q1 hv17) <| ov [500, 7] (E4 (i := x6) [] [] 1 isAgg33 sizeOf33 q0 rfl rfl hv17) <| oc [506, 503, 500] [5] call87 (Fi hr18) ⟨q0, q1, q2, trivial⟩ <| ov [2, 509] (AM underlying113 sizeOf33 q0 q1 hv19) <| ou [500, 502] 7 (F9 (i := IntKind.wrap .i64 (x6 + 1)) [] [] sizeOf33 q0 q1 rfl hv19) .nil) fun _ a w h => ?_
   show Code.wp prog _ _ a w
   refine Cd mixed hn hG h [0, 1, 2, 500, 4, 5, 6] (ov [3] (Ak A9 q0 qi) <| od [500] 3 (Ab q0) .nil) fun _ a w h => ?_
   obtain rfl := Option.some.inj hF
   exact ⟨rfl, h.sub [0, 1, 2, 3, 6, 4, 5] (by rfl)⟩
  ·refine wp_exit ?_
   obtain rfl := Option.some.inj hF
   exact ⟨BK _, rfl, h.sub [1, 2, 4, 5, 6] (by rfl)⟩
 ·clear hl21
  intro e a w hq
  cases cr20 with
  | ret r22 =>
   obtain ⟨rfl, hq⟩ := hq
   obtain rfl := Option.some.inj hF
   exact ⟨.inl rfl, hq⟩
  | next s23 =>
   obtain ⟨y24, y25, y26⟩ := s23
   obtain ⟨rfl, h⟩ := hq
   change AA c [.slot 2 (Av (b1 0) 0), .slot 3 (Av (b2 0) 0), .res (AK p_0 y25), .res (lb (b1 0) 113 [C7 33 32 (dC 32) (Bk 32) (List.replicate 33 (List.replicate 32 0))]), .res (lb (b2 0) 113 [C7 33 32 (dC 32) (Bk 32) y26])] a w at h
   refine Bd ?_
   show Code.wp prog _ _ a w
   refine As mixed hn hG h [0, 2, 500] (ov [1, 4] (An 1 isAgg113 sizeOf113 q0) <| ou [0, 500] 3 (Aq sizeOf113 q0 q1 (Ai _)) .nil) fun _ a w h => ?_
   refine wp_ret ?_
   obtain rfl := Option.some.inj hF
   exact ⟨.inl rfl, BW h results45 (Be 0 2 rfl rfl isAgg113 sizeOf113 rfl) [1] [(AK p_0 y25)] rfl rfl rfl⟩

def Cp.j1 (a_1 : List (List UInt8)) (x20 : Int) (x21 : Option AD) (x22 : List (List UInt8)) (x39 : List UInt8) : Option (Cn ((List (List UInt8)) × (Option AD)) (Int × (Option AD) × (List (List UInt8)))) := (if (0 : Int) ≤ x20 ∧ x20 < a_1.length then ((DR x21 (a_1.getD x20.toNat default) x39).bind fun r41 => (if x22.length + [r41.1].length ≤ CW ∧ (x22.length + [r41.1].length) * 32 ≤ 140737488355328 then some (.cont (IntKind.wrap .i64 (x20 + 2), r41.2, x22 ++ [r41.1])) else none)) else none)
def Cp.b1 (a_1 : List (List UInt8)) (a_2 : List UInt8) (x20 : Int) (x21 : Option AD) (x22 : List (List UInt8)) : Option (Cn ((List (List UInt8)) × (Option AD)) (Int × (Option AD) × (List (List UInt8)))) := (if (decide (x20 < (a_1.length : Int))) = true then (if (decide ((IntKind.wrap .i64 (x20 + 1)) < (a_1.length : Int))) = true then (if (0 : Int) ≤ IntKind.wrap .i64 (x20 + 1) ∧ IntKind.wrap .i64 (x20 + 1) < a_1.length then Cp.j1 a_1 x20 x21 x22 (a_1.getD (IntKind.wrap .i64 (x20 + 1)).toNat default) else none) else Cp.j1 a_1 x20 x21 x22 a_2) else some (.brk (x20, x21, x22)))
def Cp (L_0 : Option AD) (a_1 : List (List UInt8)) (a_2 : List UInt8) : Option ((List (List UInt8)) × (Option AD)) := ((Bu (fun s : Int × (Option AD) × (List (List UInt8)) => Cp.b1 a_1 a_2 s.1 s.2.1 s.2.2) (((a_1.length : Int) - 0 : Int).toNat + 2) (0, L_0, [])).bind fun cr => match cr with | .ret r => some r | .next (y50, y51, y52) => some (y52, y51))
theorem ID {p_0 : Value} {L_0 : Option AD} {a_1 : List (List UInt8)} {a_2 : List UInt8} {r : (List (List UInt8)) × (Option AD)} (hF : Cp L_0 a_1 a_2 = some r) : AH prog KG 46 [(Az p_0), (AJ (dC 32) a_1), (Au [Af 32 a_2])] [(AK p_0 L_0)] (fun _ => [AK p_0 r.2]) (AJ (dC 32) r.1) := by
 refine AH.intro 38 func46 rfl ntmps46 (Nat.le_of_ble_eq_true rfl) ?_
 intro c a w hG hn h
 unfold Cp at hF
 change AA c [.slot 0 (Az p_0), .slot 1 (AJ (dC 32) a_1), .slot 2 (Au [Af 32 a_2]), .res (AK p_0 L_0)] a w at h
 refine As mixed hn hG h [0, 1, 502, 3, 501] (ob [2] (Bc q0 (Ai _)) <| ov [] (Ae (D2 (ec _))) .nil) fun b1 a w h => ?_
 refine As mixed hn hG h [0, 1, 2, 500, 3, 4] (ov [] (Ae (D2 (ec _))) .nil) fun _ a w h => ?_
 refine wp_seq ?_
 refine As mixed hn hG h [0, 1, 2, 3, 500, 4, 5] (ov [] (Ae qi) .nil) fun _ a w h => ?_
 refine wp_block ?_
 obtain ⟨q11, h⟩ : ∃ q11 : Value, AA c [.slot 0 (Az p_0), .slot 1 (AJ (dC 32) a_1), .slot 5 (Av (b1 0) 0), .slot 7 (Az q11), .slot 8 (Ag .i64 0), .res (AK p_0 L_0), .res (lb (b1 0) 33 [Af 32 a_2]), .res (acc q11 33 32 (dC 32) [])] a w := ⟨.slice none 0 0, (h.Fh 33 32 (dC 32)).sub [0, 1, 2, 3, 4, 5, 6, 7] (by rfl)⟩
 obtain ⟨cr46, hl47, hF⟩ := bind_some hF
 refine wp_mono (Bx (R := (List (List UInt8)) × (Option AD)) (S := Int × (Option AD) × (List (List UInt8))) (fun s a w => ∃ q23 : Value, AA c [.slot 0 (Az p_0), .slot 1 (AJ (dC 32) a_1), .slot 5 (Av (b1 0) 0), .slot 7 (Az q23), .slot 8 (Ag .i64 s.1), .res (AK p_0 s.2.1), .res (lb (b1 0) 33 [Af 32 a_2]), .res (acc q23 33 32 (dC 32) s.2.2)] a w) (fun res e a w => match res with | .next s => e = .exit 0 ∧ ∃ q23 : Value, AA c [.slot 7 (Az q23), .res (AK p_0 s.2.1), .res (acc q23 33 32 (dC 32) s.2.2)] a w | .ret r => e = .ret ∧ Cu prog f46 c (AJ (dC 32) r.1) (fun _ => [AK p_0 r.2]) a w) ?_ _ (0, L_0, []) _ _ _ ⟨q11, (h.sub [0, 1, 2, 3, 4, 5, 6, 7] (by rfl))⟩ hl47) ?_
 ·clear hl47 hF h
  intro s a w o h hF
  obtain ⟨x20, x21, x22⟩ := s
  obtain ⟨q23, h⟩ := h
  change Cp.b1 a_1 a_2 x20 x21 x22 = some o at hF
  unfold Cp.b1 at hF
  change AA c [.slot 0 (Az p_0), .slot 1 (AJ (dC 32) a_1), .slot 5 (Av (b1 0) 0), .slot 7 (Az q23), .slot 8 (Ag .i64 x20), .res (AK p_0 x21), .res (lb (b1 0) 33 [Af 32 a_2]), .res (acc q23 33 32 (dC 32) x22)] a w at h
  refine wp_seq ?_
  refine As mixed hn hG h [0, 1, 2, 3, 4, 500, 5, 6, 7] (ov [4] (Ab q0) <| ov [1] (Ab q0) <| ov [500] (A6 underlying27 q0) <| ov [502, 500] (Ak Bl q0 q1) .nil) fun _ a w h => ?_
  refine CC h hF 5 [0, 1, 2, 3, 4, 6, 7, 8] [0, 1, 2, 3, 4, 6, 7, 8] (fun hb36 hF h => ?_) (fun hb36 hF h => ?_)
  ·refine wp_skip ?_
   show Code.wp prog _ _ a w
   refine wp_seq ?_
   refine wp_block ?_
   refine As mixed hn hG h [0, 1, 2, 3, 4, 502, 5, 6, 7, 500] (ov [2, 6] (An 1 isAgg33 sizeOf33 q0) <| ob [] (AR zeroValue33 FT) <| og [501, 502] [500] [.res 1 100000 (fun v1_ _ => (lb (v1_) 33 [Af 32 a_2]))] (AB.plain (Aq sizeOf33 q0 q1 (Ai _)) rfl) .nil) fun b37 a w h => ?_
   refine wp_seq ?_
   refine As mixed hn hG h [0, 1, 2, 3, 4, 5, 500, 6, 7, 8, 9] (ov [4] (Ab q0) <| ov [500] (Ak A9 q0 qi) <| ov [1] (Ab q0) <| ov [500] (A6 underlying27 q0) <| ov [502, 500] (Ak Bl q0 q1) .nil) fun _ a w h => ?_
   refine wp_cut (fun a w => ∃ (x39 : List UInt8), Cp.j1 a_1 x20 x21 x22 x39 = some o ∧ AA c [.slot 0 (Az p_0), .slot 1 (AJ (dC 32) a_1), .slot 5 (Av (b1 0) 0), .slot 7 (Az q23), .slot 8 (Ag .i64 x20), .slot 9 (Av (b37 1) 0), .res (AK p_0 x21), .res (lb (b1 0) 33 [Af 32 a_2]), .res (acc q23 33 32 (dC 32) x22), .res (lb (b37 1) 33 [Af 32 x39])] a w) ?_ ?_
   ·refine CC h hF 6 [0, 1, 2, 3, 4, 5, 7, 8, 9, 10] [0, 1, 2, 3, 4, 5, 7, 8, 9, 10] (fun hb44 hF h => ?_) (fun hb44 hF h => ?_)
    ·obtain ⟨hv45, hF⟩ := AF hF
     refine Cd mixed hn hG h [0, 1, 2, 3, 4, 5, 6, 7, 8, 500] (ov [1] (Ab q0) <| ov [4] (Ab q0) <| ov [500] (Ak A9 q0 qi) <| ov [502, 500] (AS underlying27 sizeOf33 (Bk 32) q0 q1 hv45) <| ov [500] (Bq [Af 32 (a_1.getD (IntKind.wrap .i64 (x20 + 1)).toNat default)] [] isAgg33 sizeOf33 q0 rfl) <| ou [5, 500] 9 (Aq sizeOf33 q0 q1 (Ai _)) .nil) fun _ a w h => ?_
     exact ⟨a_1.getD (IntKind.wrap .i64 (x20 + 1)).toNat default, hF, h.sub [0, 1, 2, 3, 4, 5, 6, 7, 8, 9] (by rfl)⟩
    ·refine wp_skip ?_
     exact ⟨a_2, hF, h.sub [0, 1, 2, 3, 4, 5, 6, 7, 8, 9] (by rfl)⟩
   ·clear h hF
    rintro a w ⟨x39, hF, h⟩
    unfold Cp.j1 at hF
    show Code.wp prog _ _ a w
    obtain ⟨hv40, hF⟩ := AF hF
    obtain ⟨r41, hr41, hF⟩ := bind_some hF
    obtain ⟨hv42, hF⟩ := AF hF
    refine Cd mixed hn hG h [0, 1, 2, 500, 4, 7, 504, 501] (ov [3] (Ab q0) <| ov [0] (Ab q0) <| ov [1] (Ab q0) <| ov [4] (Ab q0) <| ov [501, 500] (AS underlying27 sizeOf33 (Bk 32) q0 q1 hv40) <| ov [500] (Bq [Af 32 (a_1.getD x20.toNat default)] [] isAgg33 sizeOf33 q0 rfl) <| ov [5, 9] (An 1 isAgg33 sizeOf33 q0) <| oc [505, 501, 500] [6] call87 (Fi hr41) ⟨q0, q1, q2, trivial⟩ <| ov [501] (CP (xs := [.tmp 34]) (ys := [r41.1]) _ rfl underlying27 sizeOf33 zeroValue33 rfl rfl (by decide) (by decide) ⟨⟨_, q0, (Ai _)⟩, trivial⟩ (Bk 32)) <| og [509, 500] [8] [.slot 36 9 100000 (fun v1_ _ => (Az v1_)), .res 9 100000 (fun v1_ _ => (acc (v1_) 33 32 (dC 32) (x22 ++ [r41.1])))] (AB.plain (CL (i := t33) underlying27 type33 rfl (Bk 32) (by decide) rfl q0 q1 hv42) rfl) <| og [501] [3] [.slot 7 9 100000 (fun v1_ _ => (Az v1_))] (fun {β} => (AB.drop _ (AB.plain (Ae (V := (Az (β 9))) q0) rfl))) .nil) fun b43 a w h => ?_
    show Code.wp prog _ _ a w
    refine Cd mixed hn hG h [0, 1, 2, 3, 500, 5, 6, 7] (ov [4] (Ab q0) <| ov [500] (Ak A9 q0 qi) <| od [500] 4 (Ae q0) .nil) fun _ a w h => ?_
    obtain rfl := Option.some.inj hF
    exact ⟨rfl, (b43 9), h.sub [0, 1, 2, 3, 4, 6, 5, 7] (by rfl)⟩
  ·refine wp_exit ?_
   obtain rfl := Option.some.inj hF
   exact ⟨BK _, rfl, q23, h.sub [3, 5, 7] (by rfl)⟩
 ·clear hl47
  intro e a w hq
  cases cr46 with
  | ret r48 =>
   obtain ⟨rfl, hq⟩ := hq
   obtain rfl := Option.some.inj hF
   exact ⟨.inl rfl, hq⟩
  | next s49 =>
   obtain ⟨y50, y51, y52⟩ := s49
   obtain ⟨rfl, q23, h⟩ := hq
   change AA c [.slot 7 (Az q23), .res (AK p_0 y51), .res (acc q23 33 32 (dC 32) y52)] a w at h
   refine Bd ?_
   show Code.wp prog _ _ a w
   refine As mixed hn hG h [500, 1, 2] (ov [0] (Ab q0) <| ov [500] (Ae q0) .nil) fun _ a w h => ?_
   refine wp_ret ?_
   obtain rfl := Option.some.inj hF
   exact ⟨.inl rfl, BW h results46 (Ke 0 2 rfl rfl) [1] [(AK p_0 y51)] rfl rfl rfl⟩

def Dz.b1 (r3 : (List (List UInt8)) × (Option AD)) (x7 : List (List UInt8)) (x8 : Int) (x9 : Option AD) : Option (Cn ((List UInt8) × (Option AD)) ((List (List UInt8)) × Int × (Option AD))) := (if (decide (x8 < (32 : Int))) = true then (if (0 : Int) ≤ x8 ∧ x8 < 33 then ((Cp x9 x7 (r3.1.getD x8.toNat default)).bind fun r18 => some (.cont (r18.1, IntKind.wrap .i64 (x8 + 1), r18.2))) else none) else some (.brk (x7, x8, x9)))
def Dz (L_0 : Option AD) (a_1 : List (List UInt8)) : Option ((List UInt8) × (Option AD)) := (if (0 : Int) ≤ 0 ∧ (0 : Int) ≤ (if (4096 : Int) < (a_1.length : Int) then (4096 : Int) else (a_1.length : Int)) ∧ (if (4096 : Int) < (a_1.length : Int) then (4096 : Int) else (a_1.length : Int)) ≤ a_1.length then ((Ci L_0).bind fun r3 => ((Bu (fun s : (List (List UInt8)) × Int × (Option AD) => Dz.b1 r3 s.1 s.2.1 s.2.2) ((32 - 0 : Int).toNat + 2) ((a_1.take (if (4096 : Int) < (a_1.length : Int) then (4096 : Int) else (a_1.length : Int)).toNat).drop (0 : Int).toNat, 0, r3.2)).bind fun cr => match cr with | .ret r => some r | .next (y23, y24, y25) => (if (decide ((y23.length : Int) = (0 : Int))) = true then some (r3.1.getD (32 : Int).toNat default, y25) else (if (0 : Int) ≤ 0 ∧ (0 : Int) < y23.length then some (y23.getD (0 : Int).toNat default, y25) else none)))) else none)
theorem IE {p_0 : Value} {L_0 : Option AD} {a_1 : List (List UInt8)} {r : (List UInt8) × (Option AD)} (hF : Dz L_0 a_1 = some r) : AH prog KG 18 [(Az p_0), (AJ (dC 32) a_1)] [(AK p_0 L_0)] (fun _ => [AK p_0 r.2]) (Au [Af 32 r.1]) := by
 refine AH.intro 33 func18 rfl ntmps18 (Nat.le_of_ble_eq_true rfl) ?_
 intro c a w hG hn h
 unfold Dz at hF
 change AA c [.slot 0 (Az p_0), .slot 1 (AJ (dC 32) a_1), .res (AK p_0 L_0)] a w at h
 refine As mixed hn hG h [0, 1, 501, 2, 500] (ob [] (AR zeroValue33 FT) .nil) fun b1 a w h => ?_
 obtain ⟨hv2, hF⟩ := AF hF
 refine As mixed hn hG h [0, 2, 500, 3, 4] (ov [1] (Ab q0) <| ov [1] (Ab q0) <| ov [500] (A6 underlying27 q0) <| ov [500] (M7 q0 qi) <| ov [503, 500] (E3 (a := 0) (b := (if (4096 : Int) < (a_1.length : Int) then (4096 : Int) else (a_1.length : Int))) underlying27 sizeOf33 (Bk 32) q0 rfl ⟨_, q1⟩ hv2) <| ov [500] (Ae q0) .nil) fun _ a w h => ?_
 obtain ⟨r3, hr3, hF⟩ := bind_some hF
 refine As mixed hn hG h [0, 1, 2, 502, 4, 503, 500] (ov [0] (Ab q0) <| oc [500] [3] call45 (GF hr3) ⟨q0, trivial⟩ <| ob [] (AR zeroValue113 PO) <| og [501, 503] [500] [.res 2 100000 (fun v1_ _ => (lb (v1_) 113 [C7 33 32 (dC 32) (Bk 32) r3.1]))] (AB.plain (Aq sizeOf113 q0 q1 (Ai _)) rfl) .nil) fun b4 a w h => ?_
 refine wp_seq ?_
 refine As mixed hn hG h [0, 1, 2, 3, 500, 4, 5, 6] (ov [] (Ab qi) .nil) fun _ a w h => ?_
 refine wp_block ?_
 obtain ⟨cr19, hl20, hF⟩ := bind_some hF
 refine wp_mono (Bx (R := (List UInt8) × (Option AD)) (S := (List (List UInt8)) × Int × (Option AD)) (fun s a w => AA c [.slot 0 (Az p_0), .slot 4 (Av (b1 0) 0), .slot 5 (AJ (dC 32) s.1), .slot 6 (Av (b4 2) 0), .slot 15 (Ag .i64 s.2.1), .res (lb (b1 0) 33 [Af 32 (List.replicate 32 0)]), .res (AK p_0 s.2.2), .res (lb (b4 2) 113 [C7 33 32 (dC 32) (Bk 32) r3.1])] a w) (fun res e a w => match res with | .next s => e = .exit 0 ∧ AA c [.slot 4 (Av (b1 0) 0), .slot 5 (AJ (dC 32) s.1), .slot 6 (Av (b4 2) 0), .res (lb (b1 0) 33 [Af 32 (List.replicate 32 0)]), .res (AK p_0 s.2.2), .res (lb (b4 2) 113 [C7 33 32 (dC 32) (Bk 32) r3.1])] a w | .ret r => e = .ret ∧ Cu prog f18 c (Au [Af 32 r.1]) (fun _ => [AK p_0 r.2]) a w) ?_ _ ((a_1.take (if (4096 : Int) < (a_1.length : Int) then (4096 : Int) else (a_1.length : Int)).toNat).drop (0 : Int).toNat, 0, r3.2) _ _ _ (h.sub [0, 1, 2, 3, 4, 5, 6, 7] (by rfl)) hl20) ?_
 ·clear hl20 hF h
  intro s a w o h hF
  obtain ⟨x7, x8, x9⟩ := s
  change Dz.b1 r3 x7 x8 x9 = some o at hF
  unfold Dz.b1 at hF
  change AA c [.slot 0 (Az p_0), .slot 4 (Av (b1 0) 0), .slot 5 (AJ (dC 32) x7), .slot 6 (Av (b4 2) 0), .slot 15 (Ag .i64 x8), .res (lb (b1 0) 33 [Af 32 (List.replicate 32 0)]), .res (AK p_0 x9), .res (lb (b4 2) 113 [C7 33 32 (dC 32) (Bk 32) r3.1])] a w at h
  refine As mixed hn hG h [0, 1, 2, 3, 4, 500, 5, 6, 7] (ov [4] (Ak Bl q0 qi) .nil) fun _ a w h => ?_
  refine wp_seq ?_
  refine CC h hF 5 [0, 1, 2, 3, 4, 6, 7, 8] [0, 1, 2, 3, 4, 6, 7, 8] (fun hb16 hF h => ?_) (fun hb16 hF h => ?_)
  ·refine wp_skip ?_
   show Code.wp prog _ _ a w
   refine wp_seq ?_
   refine wp_block ?_
   refine As mixed hn hG h [0, 1, 2, 3, 500, 4, 5, 6, 7] (ov [4] (Ab q0) <| ov [500] (Ae q0) .nil) fun _ a w h => ?_
   obtain ⟨hv17, hF⟩ := AF hF
   obtain ⟨r18, hr18, hF⟩ := bind_some hF
   refine Cd mixed hn hG h [0, 1, 500, 3, 5, 6, 8, 501] (ov [0] (Ab q0) <| ov [2] (Ab q0) <| ov [4] (Ab q0) <| ov [3, 500] (AM underlying113 sizeOf33 q0 q1 hv17) <| ov [500, 8] (E4 (i := x8) [] [] 1 isAgg33 sizeOf33 q0 rfl rfl hv17) <| oc [504, 503, 500] [7] call46 (ID hr18) ⟨q0, q1, q2, trivial⟩ <| od [501] 2 (Ae q0) .nil) fun _ a w h => ?_
   show Code.wp prog _ _ a w
   refine Cd mixed hn hG h [0, 1, 2, 3, 500, 5, 6, 7] (ov [4] (Ak A9 q0 qi) <| od [500] 4 (Ab q0) .nil) fun _ a w h => ?_
   obtain rfl := Option.some.inj hF
   exact ⟨rfl, h.sub [0, 1, 2, 3, 4, 5, 7, 6] (by rfl)⟩
  ·refine wp_exit ?_
   obtain rfl := Option.some.inj hF
   exact ⟨BK _, rfl, h.sub [1, 2, 3, 5, 6, 7] (by rfl)⟩
 ·clear hl20
  intro e a w hq
  cases cr19 with
  | ret r21 =>
   obtain ⟨rfl, hq⟩ := hq
   obtain rfl := Option.some.inj hF
   exact ⟨.inl rfl, hq⟩
  | next s22 =>
   obtain ⟨y23, y24, y25⟩ := s22
   obtain ⟨rfl, h⟩ := hq
   change AA c [.slot 4 (Av (b1 0) 0), .slot 5 (AJ (dC 32) y23), .slot 6 (Av (b4 2) 0), .res (lb (b1 0) 33 [Af 32 (List.replicate 32 0)]), .res (AK p_0 y25), .res (lb (b4 2) 113 [C7 33 32 (dC 32) (Bk 32) r3.1])] a w at h
   refine Bd ?_
   show Code.wp prog _ _ a w
   refine wp_seq ?_
   refine As mixed hn hG h [0, 1, 2, 500, 3, 4, 5] (ov [1] (Ab q0) <| ov [500] (A6 underlying27 q0) <| ov [500] (Ak CI q0 qi) .nil) fun _ a w h => ?_
   refine CC h hF 3 [0, 2, 4, 5, 6] [0, 1, 4, 5] (fun hb26 hF h => ?_) (fun hb26 hF h => ?_)
   ·refine As mixed hn hG h [0, 500, 3] (ov [1] (AM underlying113 sizeOf33 q0 qi (by decide)) <| ov [500, 4] (E4 (i := 32) [] [] 1 isAgg33 sizeOf33 q0 rfl rfl (by decide)) <| ou [0, 500] 2 (Aq sizeOf33 q0 q1 (Ai _)) .nil) fun _ a w h => ?_
    refine wp_ret ?_
    obtain rfl := Option.some.inj hF
    exact ⟨.inl rfl, BW h results18 (Be 0 1 rfl rfl isAgg33 sizeOf33 rfl) [2] [(AK p_0 y25)] rfl rfl rfl⟩
   ·refine wp_skip ?_
    show Code.wp prog _ _ a w
    obtain ⟨hv27, hF⟩ := AF hF
    refine As mixed hn hG h [0, 500, 3] (ov [1] (Ab q0) <| ov [500] (AS underlying27 sizeOf33 (Bk 32) q0 qi hv27) <| ov [500] (Bq [Af 32 (y23.getD (0 : Int).toNat default)] [] isAgg33 sizeOf33 q0 rfl) <| ou [0, 500] 2 (Aq sizeOf33 q0 q1 (Ai _)) .nil) fun _ a w h => ?_
    refine wp_ret ?_
    obtain rfl := Option.some.inj hF
    exact ⟨.inl rfl, BW h results18 (Be 0 1 rfl rfl isAgg33 sizeOf33 rfl) [2] [(AK p_0 y25)] rfl rfl rfl⟩

def Cm.j1 (a_0 : List UInt8) (a_1 : Int) (x2 : Bool) : Option Int := (if x2 = true then some 0 else (if (0 : Int) ≤ IntKind.wrap .i64 (a_1.tdiv 8) ∧ IntKind.wrap .i64 (a_1.tdiv 8) < 32 then (if (0 : Int) ≤ IntKind.wrap .i64 (7 - (a_1.tmod 8)) then some (bits .and .i64 (IntKind.wrap .i64 (shr .u8 ((a_0.getD (IntKind.wrap .i64 (a_1.tdiv 8)).toNat 0).toNat) (IntKind.wrap .i64 (7 - (a_1.tmod 8))))) 1) else none) else none))
def Cm (a_0 : List UInt8) (a_1 : Int) : Option Int := (if (decide (a_1 < (0 : Int))) = true then Cm.j1 a_0 a_1 true else Cm.j1 a_0 a_1 (decide ((256 : Int) ≤ a_1)))
theorem Hy {a_0 : List UInt8} {a_1 : Int} {r : Int} (hF : Cm a_0 a_1 = some r) : AH prog KG 133 [(Au [Af 32 a_0]), (Ag .i64 a_1)] [] (fun _ => []) (Ag .i64 r) := by
 refine AH.intro 21 func133 rfl ntmps133 (Nat.le_of_ble_eq_true rfl) ?_
 intro c a w hG hn h
 unfold Cm at hF
 change AA c [.slot 0 (Au [Af 32 a_0]), .slot 1 (Ag .i64 a_1)] a w at h
 refine As mixed hn hG h [1, 502, 501] (ob [0] (Bc q0 (Ai _)) <| ov [] (Ae qi) .nil) fun b1 a w h => ?_
 refine wp_seq ?_
 refine wp_seq ?_
 refine wp_cut (fun a w => ∃ (x2 : Bool), Cm.j1 a_0 a_1 x2 = some r ∧ AA c [.slot 1 (Ag .i64 a_1), .slot 2 (Av (b1 0) 0), .slot 10 (AL x2), .res (lb (b1 0) 33 [Af 32 a_0])] a w) ?_ ?_
 ·rcases Bool.eq_false_or_eq_true (decide (a_1 < (0 : Int))) with hb6 | hb6
  ·replace hF := CQ hb6 hF
   refine Cd mixed hn hG h [0, 1, 500, 2] (ov [0] (Ab q0) <| ov [500] (Ak Bl q0 qi) <| ov [500] (Ab q0) <| oe [500] [] (AB.At (want := false) hb6 rfl rfl rfl rfl) <| oe [501] [] (AB.At (want := false) hb6 rfl rfl rfl rfl) <| ov [502] (AU hb6 q0 qb) .nil) fun _ a w h => ?_
   exact ⟨true, hF, h.sub [0, 1, 2, 3] (by rfl)⟩
  ·replace hF := CT hb6 hF
   refine Cd mixed hn hG h [0, 1, 500, 2] (ov [0] (Ab q0) <| ov [500] (Ak Bl q0 qi) <| ov [500] (Ab q0) <| oe [500, 0] [] (AB.Aw hb6 rfl rfl rfl (Ab q0)) <| oe [501, 500] [] (AB.Aw hb6 rfl rfl rfl (Ak Ef q0 qi)) <| ov [502, 500] (AV hb6 q0 q1) .nil) fun _ a w h => ?_
   exact ⟨decide ((256 : Int) ≤ a_1), hF, h.sub [0, 1, 2, 3] (by rfl)⟩
 ·clear h hF
  rintro a w ⟨x2, hF, h⟩
  unfold Cm.j1 at hF
  show Code.wp prog _ _ a w
  refine CC h hF 2 [] [0, 1, 3] (fun hb3 hF h => ?_) (fun hb3 hF h => ?_)
  ·refine As mixed hn hG h [500] (ov [] (Ae qi) .nil) fun _ a w h => ?_
   refine wp_ret ?_
   obtain rfl := Option.some.inj hF
   exact ⟨.inl rfl, BW h results133 (Ba 0 rfl) [] [] rfl rfl rfl⟩
  ·refine wp_skip ?_
   show Code.wp prog _ _ a w
   obtain ⟨hv4, hF⟩ := AF hF
   obtain ⟨hv5, hF⟩ := AF hF
   refine As mixed hn hG h [500] (ov [0] (Ab q0) <| ov [500] (Ak (FH (by decide)) q0 qi) <| ov [1, 500] (AM underlying33 sizeOf5 q0 q1 hv4) <| ov [500, 2] (Jn (i := IntKind.wrap .i64 (a_1.tdiv 8)) [] [] 1 isAgg5 q0 rfl rfl hv4) <| ov [0] (Ab q0) <| ov [500] (Ak (DH (by decide)) q0 qi) <| ov [500] (Ak CX qi q0) <| ov [503, 500] (Ak (HO hv5) q0 q1) <| ov [500] (A3 underlying5 underlying3 q0) <| ov [500] (Ak Ew q0 qi) <| ov [500] (Ae q0) .nil) fun _ a w h => ?_
   refine wp_ret ?_
   obtain rfl := Option.some.inj hF
   exact ⟨.inl rfl, BW h results133 (Ba 0 rfl) [] [] rfl rfl rfl⟩

def CS.b1 (a_1 : List UInt8) (a_2 : Int) (a_3 : List UInt8) (x25 : Int) (x26 : Option AD) (x27 : List (List UInt8)) (x29 : List (List UInt8)) : Option (Cn ((List (List UInt8)) × (List (List UInt8)) × (Option AD)) (Int × (Option AD) × (List (List UInt8)) × (List (List UInt8)))) := (if (decide (x25 < (32 : Int))) = true then ((Cm a_3 x25).bind fun r47 => ((DW x26 a_1 a_2 x25 r47).bind fun r48 => (if x27.length + [r48.1].length ≤ CW ∧ (x27.length + [r48.1].length) * 32 ≤ 140737488355328 then ((DW r48.2 a_1 a_2 x25 (IntKind.wrap .i64 (1 - r47))).bind fun r51 => ((DX r51.2 r51.1).bind fun r52 => (if x29.length + [r52.1].length ≤ CW ∧ (x29.length + [r52.1].length) * 32 ≤ 140737488355328 then some (.cont (IntKind.wrap .i64 (x25 + 1), r52.2, x27 ++ [r48.1], x29 ++ [r52.1])) else none))) else none))) else some (.brk (x25, x26, x27, x29)))
def CS (L_0 : Option AD) (a_1 : List UInt8) (a_2 : Int) (a_3 : List UInt8) : Option ((List (List UInt8)) × (List (List UInt8)) × (Option AD)) := ((Bu (fun s : Int × (Option AD) × (List (List UInt8)) × (List (List UInt8)) => CS.b1 a_1 a_2 a_3 s.1 s.2.1 s.2.2.1 s.2.2.2) ((32 - 0 : Int).toNat + 2) (0, L_0, [], [])).bind fun cr => match cr with | .ret r => some r | .next (y59, y60, y61, y62) => some (y61, y62, y60))
theorem JG {p_0 : Value} {L_0 : Option AD} {a_1 : List UInt8} {a_2 : Int} {a_3 : List UInt8} {r : (List (List UInt8)) × (List (List UInt8)) × (Option AD)} (hF : CS L_0 a_1 a_2 a_3 = some r) : AH prog KG 112 [(Az p_0), (Au [Af 32 a_1]), (Ag .i64 a_2), (Au [Af 32 a_3])] [(AK p_0 L_0)] (fun _ => [AK p_0 r.2.2]) (Db [(AJ (dC 32) r.1), (AJ (dC 32) r.2.1)]) := by
 refine AH.intro 44 func112 rfl ntmps112 (Nat.le_of_ble_eq_true rfl) ?_
 intro c a w hG hn h
 unfold CS at hF
 change AA c [.slot 0 (Az p_0), .slot 1 (Au [Af 32 a_1]), .slot 2 (Ag .i64 a_2), .slot 3 (Au [Af 32 a_3]), .res (AK p_0 L_0)] a w at h
 refine As mixed hn hG h [0, 2, 505, 503, 4, 504, 502] (ob [1] (Bc q0 (Ai _)) <| ob [3] (Bc q0 (Ai _)) <| ov [] (Ae (D2 (ec _))) <| ov [] (Ae (D2 (ec _))) .nil) fun b1 a w h => ?_
 refine As mixed hn hG h [0, 1, 2, 3, 501, 500, 4, 5, 6] (ov [] (Ae (D2 (ec _))) <| ov [] (Ae (D2 (ec _))) .nil) fun _ a w h => ?_
 refine wp_seq ?_
 refine As mixed hn hG h [0, 1, 2, 3, 4, 5, 500, 6, 7, 8] (ov [] (Ab qi) .nil) fun _ a w h => ?_
 refine wp_block ?_
 obtain ⟨q14, h⟩ : ∃ q14 : Value, AA c [.slot 0 (Az p_0), .slot 2 (Ag .i64 a_2), .slot 5 (Av (b1 0) 0), .slot 7 (Av (b1 1) 0), .slot 10 (Az q14), .slot 11 (Az (.slice none 0 0)), .slot 14 (Ag .i64 0), .res (AK p_0 L_0), .res (lb (b1 0) 33 [Af 32 a_1]), .res (lb (b1 1) 33 [Af 32 a_3]), .res (acc q14 33 32 (dC 32) [])] a w := ⟨.slice none 0 0, (h.Fh 33 32 (dC 32)).sub [0, 1, 2, 3, 4, 5, 6, 7, 8, 9, 10] (by rfl)⟩
 obtain ⟨q15, h⟩ : ∃ q15 : Value, AA c [.slot 0 (Az p_0), .slot 2 (Ag .i64 a_2), .slot 5 (Av (b1 0) 0), .slot 7 (Av (b1 1) 0), .slot 10 (Az q14), .slot 11 (Az q15), .slot 14 (Ag .i64 0), .res (AK p_0 L_0), .res (lb (b1 0) 33 [Af 32 a_1]), .res (lb (b1 1) 33 [Af 32 a_3]), .res (acc q14 33 32 (dC 32) []), .res (acc q15 33 32 (dC 32) [])] a w := ⟨.slice none 0 0, (h.Fh 33 32 (dC 32)).sub [0, 1, 2, 3, 4, 5, 6, 7, 8, 9, 10, 11] (by rfl)⟩
 obtain ⟨cr55, hl56, hF⟩ := bind_some hF
 refine wp_mono (Bx (R := (List (List UInt8)) × (List (List UInt8)) × (Option AD)) (S := Int × (Option AD) × (List (List UInt8)) × (List (List UInt8))) (fun s a w => ∃ q28 : Value, ∃ q30 : Value, AA c [.slot 0 (Az p_0), .slot 2 (Ag .i64 a_2), .slot 5 (Av (b1 0) 0), .slot 7 (Av (b1 1) 0), .slot 10 (Az q28), .slot 11 (Az q30), .slot 14 (Ag .i64 s.1), .res (AK p_0 s.2.1), .res (lb (b1 0) 33 [Af 32 a_1]), .res (lb (b1 1) 33 [Af 32 a_3]), .res (acc q28 33 32 (dC 32) s.2.2.1), .res (acc q30 33 32 (dC 32) s.2.2.2)] a w) (fun res e a w => match res with | .next s => e = .exit 0 ∧ ∃ q28 : Value, ∃ q30 : Value, AA c [.slot 10 (Az q28), .slot 11 (Az q30), .res (AK p_0 s.2.1), .res (acc q28 33 32 (dC 32) s.2.2.1), .res (acc q30 33 32 (dC 32) s.2.2.2)] a w | .ret r => e = .ret ∧ Cu prog f112 c (Db [(AJ (dC 32) r.1), (AJ (dC 32) r.2.1)]) (fun _ => [AK p_0 r.2.2]) a w) ?_ _ (0, L_0, [], []) _ _ _ ⟨q14, q15, (h.sub [0, 1, 2, 3, 4, 5, 6, 7, 8, 9, 10, 11] (by rfl))⟩ hl56) ?_
 ·clear hl56 hF h
  intro s a w o h hF
  obtain ⟨x25, x26, x27, x29⟩ := s
  obtain ⟨q28, q30, h⟩ := h
  change CS.b1 a_1 a_2 a_3 x25 x26 x27 x29 = some o at hF
  unfold CS.b1 at hF
  change AA c [.slot 0 (Az p_0), .slot 2 (Ag .i64 a_2), .slot 5 (Av (b1 0) 0), .slot 7 (Av (b1 1) 0), .slot 10 (Az q28), .slot 11 (Az q30), .slot 14 (Ag .i64 x25), .res (AK p_0 x26), .res (lb (b1 0) 33 [Af 32 a_1]), .res (lb (b1 1) 33 [Af 32 a_3]), .res (acc q28 33 32 (dC 32) x27), .res (acc q30 33 32 (dC 32) x29)] a w at h
  refine As mixed hn hG h [0, 1, 2, 3, 4, 5, 6, 500, 7, 8, 9, 10, 11] (ov [6] (Ak Bl q0 qi) .nil) fun _ a w h => ?_
  refine wp_seq ?_
  refine CC h hF 7 [0, 1, 2, 3, 4, 5, 6, 8, 9, 10, 11, 12] [0, 1, 2, 3, 4, 5, 6, 8, 9, 10, 11, 12] (fun hb46 hF h => ?_) (fun hb46 hF h => ?_)
  ·refine wp_skip ?_
   show Code.wp prog _ _ a w
   refine wp_seq ?_
   refine wp_block ?_
   refine As mixed hn hG h [0, 1, 2, 3, 4, 5, 500, 6, 7, 8, 9, 10, 11] (ov [6] (Ab q0) <| ov [500] (Ae q0) .nil) fun _ a w h => ?_
   obtain ⟨r47, hr47, hF⟩ := bind_some hF
   refine As mixed hn hG h [0, 1, 2, 3, 4, 5, 6, 500, 7, 8, 9, 10, 11, 12] (ov [3, 10] (An 1 isAgg33 sizeOf33 q0) <| ov [6] (Ab q0) <| oc [501, 500] [] call133 (Hy hr47) ⟨q0, q1, trivial⟩ <| ov [500] (Ae q0) .nil) fun _ a w h => ?_
   obtain ⟨r48, hr48, hF⟩ := bind_some hF
   obtain ⟨hv49, hF⟩ := AF hF
   refine As mixed hn hG h [0, 1, 2, 3, 500, 5, 6, 7, 8, 10, 11, 13, 504, 501] (ov [4] (Ab q0) <| ov [0] (Ab q0) <| ov [2, 10] (An 1 isAgg33 sizeOf33 q0) <| ov [1] (Ab q0) <| ov [6] (Ab q0) <| ov [7] (Ab q0) <| oc [504, 503, 502, 501, 500] [9] call84 (Fj hr48) ⟨q0, q1, q2, q3, (opt 4 rfl), trivial⟩ <| ov [501] (CP (xs := [.tmp 26]) (ys := [r48.1]) _ rfl underlying27 sizeOf33 zeroValue33 rfl rfl (by decide) (by decide) ⟨⟨_, q0, (Ai _)⟩, trivial⟩ (Bk 32)) <| og [508, 500] [12] [.slot 28 8 100000 (fun v1_ _ => (Az v1_)), .res 8 100000 (fun v1_ _ => (acc (v1_) 33 32 (dC 32) (x27 ++ [r48.1])))] (AB.plain (CL (i := t33) underlying27 type33 rfl (Bk 32) (by decide) rfl q0 q1 hv49) rfl) <| og [501] [4] [.slot 10 8 100000 (fun v1_ _ => (Az v1_))] (fun {β} => (AB.drop _ (AB.plain (Ae (V := (Az (β 8))) q0) rfl))) .nil) fun b50 a w h => ?_
   obtain ⟨r51, hr51, hF⟩ := bind_some hF
   obtain ⟨r52, hr52, hF⟩ := bind_some hF
   obtain ⟨hv53, hF⟩ := AF hF
   refine Cd mixed hn hG h [0, 1, 2, 3, 4, 500, 8, 9, 10, 13, 504, 501] (ov [5] (Ab q0) <| ov [0] (Ab q0) <| ov [0] (Ab q0) <| ov [2, 9] (An 1 isAgg33 sizeOf33 q0) <| ov [1] (Ab q0) <| ov [6] (Ab q0) <| ov [7] (Ab q0) <| ov [500] (Ak CX qi q0) <| oc [505, 504, 503, 502, 500] [12] call84 (Fj hr51) ⟨q0, q1, q2, q3, (opt 4 rfl), trivial⟩ <| oc [508, 501] [500] call83 (Fk hr52) ⟨q0, q1, trivial⟩ <| ov [501] (CP (xs := [.tmp 38]) (ys := [r52.1]) _ rfl underlying27 sizeOf33 zeroValue33 rfl rfl (by decide) (by decide) ⟨⟨_, q0, (Ai _)⟩, trivial⟩ (Bk 32)) <| og [512, 500] [11] [.slot 40 11 100000 (fun v1_ _ => (Az v1_)), .res 11 100000 (fun v1_ _ => (acc (v1_) 33 32 (dC 32) (x29 ++ [r52.1])))] (AB.plain (CL (i := t33) underlying27 type33 rfl (Bk 32) (by decide) rfl q0 q1 hv53) rfl) <| og [501] [5] [.slot 11 11 100000 (fun v1_ _ => (Az v1_))] (fun {β} => (AB.drop _ (AB.plain (Ae (V := (Az (β 11))) q0) rfl))) .nil) fun b54 a w h => ?_
   show Code.wp prog _ _ a w
   refine Cd mixed hn hG h [0, 1, 2, 3, 4, 5, 500, 7, 8, 9, 10, 11] (ov [6] (Ak A9 q0 qi) <| od [500] 6 (Ab q0) .nil) fun _ a w h => ?_
   obtain rfl := Option.some.inj hF
   exact ⟨rfl, (b50 8), (b54 11), h.sub [0, 1, 2, 3, 4, 5, 6, 10, 7, 8, 9, 11] (by rfl)⟩
  ·refine wp_exit ?_
   obtain rfl := Option.some.inj hF
   exact ⟨BK _, rfl, q28, q30, h.sub [4, 5, 7, 10, 11] (by rfl)⟩
 ·clear hl56
  intro e a w hq
  cases cr55 with
  | ret r57 =>
   obtain ⟨rfl, hq⟩ := hq
   obtain rfl := Option.some.inj hF
   exact ⟨.inl rfl, hq⟩
  | next s58 =>
   obtain ⟨y59, y60, y61, y62⟩ := s58
   obtain ⟨rfl, q28, q30, h⟩ := hq
   change AA c [.slot 10 (Az q28), .slot 11 (Az q30), .res (AK p_0 y60), .res (acc q28 33 32 (dC 32) y61), .res (acc q30 33 32 (dC 32) y62)] a w at h
   refine Bd ?_
   show Code.wp prog _ _ a w
   refine As mixed hn hG h [501, 500, 2, 3, 4] (ov [0] (Ab q0) <| ov [1] (Ab q0) <| ov [501] (Ae q0) <| ov [501] (Ae q0) .nil) fun _ a w h => ?_
   refine wp_ret ?_
   obtain rfl := Option.some.inj hF
   exact ⟨.inl rfl, CJ h (rs := [.tmp 8, .tmp 9]) (Vs := [(AJ (dC 32) y61), (AJ (dC 32) y62)]) results112 (by decide) ⟨(Ke 0 3 rfl rfl), (Ke 1 4 rfl rfl), trivial⟩ [2] [(AK p_0 y60)] rfl rfl rfl⟩

def Ca.b1 (x14 : Int) (x15 : List (List UInt8)) (x16 : Option AD) (x17 : List (List UInt8)) : Option (Cn ((List (List UInt8)) × (Option AD)) (Int × (List (List UInt8)) × (Option AD) × (List (List UInt8)))) := (if (decide ((1 : Int) < (x15.length : Int))) = true then (if (0 : Int) ≤ bits .xor .i64 x14 1 ∧ bits .xor .i64 x14 1 < x15.length then (if x17.length + [x15.getD (bits .xor .i64 x14 1).toNat default].length ≤ CW ∧ (x17.length + [x15.getD (bits .xor .i64 x14 1).toNat default].length) * 32 ≤ 140737488355328 then ((D8 x16 x15).bind fun r33 => some (.cont (IntKind.wrap .i64 (x14.tdiv 2), r33.1, r33.2, x17 ++ [x15.getD (bits .xor .i64 x14 1).toNat default]))) else none) else none) else some (.brk (x14, x15, x16, x17)))
def Ca (a_0 : Am) (L_1 : Option AD) (a_2 : Int) : Option ((List (List UInt8)) × (Option AD)) := ((Bu (fun s : Int × (List (List UInt8)) × (Option AD) × (List (List UInt8)) => Ca.b1 s.1 s.2.1 s.2.2.1 s.2.2.2) (((a_0.Bi.length : Int) - 1 : Int).toNat + 2) (a_2, a_0.Bi, L_1, [])).bind fun cr => match cr with | .ret r => some r | .next (y38, y39, y40, y41) => some (y41, y40))
theorem HQ {p_1 : Value} {a_0 : Am} {L_1 : Option AD} {a_2 : Int} {r : (List (List UInt8)) × (Option AD)} (hF : Ca a_0 L_1 a_2 = some r) : AH prog KG 113 [(Au (Am.ck a_0)), (Az p_1), (Ag .i64 a_2)] [(AK p_1 L_1)] (fun _ => [AK p_1 r.2]) (AJ (dC 32) r.1) := by
 refine AH.intro 28 func113 rfl ntmps113 (Nat.le_of_ble_eq_true rfl) ?_
 intro c a w hG hn h
 unfold Ca at hF
 change AA c [.slot 0 (Au (Am.ck a_0)), .slot 1 (Az p_1), .slot 2 (Ag .i64 a_2), .res (AK p_1 L_1)] a w at h
 refine As mixed hn hG h [1, 2, 502, 3, 501] (ob [0] (Bc q0 (Ai _)) <| ov [] (Ae (D2 (ec _))) .nil) fun b1 a w h => ?_
 refine As mixed hn hG h [0, 1, 2, 500, 3, 4] (ov [] (Ae (D2 (ec _))) .nil) fun _ a w h => ?_
 refine As mixed hn hG h [0, 1, 3, 500, 4] (ov [2] (Ad (p := (b1 0)) (n := 1) 0 33 underlying58 rfl sizeOf27 (by decide) q0 rfl) <| ov [500, 5] (Aj ((Am.ck a_0).take 2) [] 1 isAgg27 q0 rfl rfl) <| ov [500] (Ae q0) .nil) fun _ a w h => ?_
 refine wp_seq ?_
 refine wp_block ?_
 obtain ⟨q8, h⟩ : ∃ q8 : Value, AA c [.slot 1 (Az p_1), .slot 2 (Ag .i64 a_2), .slot 7 (Az q8), .slot 8 (AJ (dC 32) a_0.Bi), .res (AK p_1 L_1), .res (acc q8 33 32 (dC 32) [])] a w := ⟨.slice none 0 0, (h.Fh 33 32 (dC 32)).sub [0, 1, 2, 3, 4, 5] (by rfl)⟩
 obtain ⟨cr34, hl35, hF⟩ := bind_some hF
 refine wp_mono (Bx (R := (List (List UInt8)) × (Option AD)) (S := Int × (List (List UInt8)) × (Option AD) × (List (List UInt8))) (fun s a w => ∃ q18 : Value, AA c [.slot 1 (Az p_1), .slot 2 (Ag .i64 s.1), .slot 7 (Az q18), .slot 8 (AJ (dC 32) s.2.1), .res (AK p_1 s.2.2.1), .res (acc q18 33 32 (dC 32) s.2.2.2)] a w) (fun res e a w => match res with | .next s => e = .exit 0 ∧ ∃ q18 : Value, AA c [.slot 7 (Az q18), .res (AK p_1 s.2.2.1), .res (acc q18 33 32 (dC 32) s.2.2.2)] a w | .ret r => e = .ret ∧ Cu prog f113 c (AJ (dC 32) r.1) (fun _ => [AK p_1 r.2]) a w) ?_ _ (a_2, a_0.Bi, L_1, []) _ _ _ ⟨q8, (h.sub [0, 1, 2, 3, 4, 5] (by rfl))⟩ hl35) ?_
 ·clear hl35 hF h
  intro s a w o h hF
  obtain ⟨x14, x15, x16, x17⟩ := s
  obtain ⟨q18, h⟩ := h
  change Ca.b1 x14 x15 x16 x17 = some o at hF
  unfold Ca.b1 at hF
  change AA c [.slot 1 (Az p_1), .slot 2 (Ag .i64 x14), .slot 7 (Az q18), .slot 8 (AJ (dC 32) x15), .res (AK p_1 x16), .res (acc q18 33 32 (dC 32) x17)] a w at h
  refine wp_seq ?_
  refine As mixed hn hG h [0, 1, 2, 3, 500, 4, 5] (ov [3] (Ab q0) <| ov [500] (A6 underlying27 q0) <| ov [500] (Ak EW q0 qi) .nil) fun _ a w h => ?_
  refine CC h hF 4 [0, 1, 2, 3, 5, 6] [0, 1, 2, 3, 5, 6] (fun hb29 hF h => ?_) (fun hb29 hF h => ?_)
  ·refine wp_skip ?_
   show Code.wp prog _ _ a w
   refine wp_block ?_
   obtain ⟨hv30, hF⟩ := AF hF
   obtain ⟨hv31, hF⟩ := AF hF
   refine As mixed hn hG h [0, 1, 500, 3, 4, 501] (ov [2] (Ab q0) <| ov [3] (Ab q0) <| ov [1] (Ab q0) <| ov [500] (Ak Da q0 qi) <| ov [502, 500] (AS underlying27 sizeOf33 (Bk 32) q0 q1 hv30) <| ov [500] (Bq [Af 32 (x15.getD (bits .xor .i64 x14 1).toNat default)] [] isAgg33 sizeOf33 q0 rfl) <| ov [500] (CP (xs := [.tmp 19]) (ys := [x15.getD (bits .xor .i64 x14 1).toNat default]) _ rfl underlying27 sizeOf33 zeroValue33 rfl rfl (by decide) (by decide) ⟨⟨_, q0, (Ai _)⟩, trivial⟩ (Bk 32)) <| og [506, 500] [5] [.slot 21 7 100000 (fun v1_ _ => (Az v1_)), .res 7 100000 (fun v1_ _ => (acc (v1_) 33 32 (dC 32) (x17 ++ [x15.getD (bits .xor .i64 x14 1).toNat default])))] (AB.plain (CL (i := t33) underlying27 type33 rfl (Bk 32) (by decide) rfl q0 q1 hv31) rfl) <| og [501] [2] [.slot 7 7 100000 (fun v1_ _ => (Az v1_))] (fun {β} => (AB.drop _ (AB.plain (Ae (V := (Az (β 7))) q0) rfl))) .nil) fun b32 a w h => ?_
   obtain ⟨r33, hr33, hF⟩ := bind_some hF
   refine Cd mixed hn hG h [0, 500, 2, 501, 5, 504] (ov [0] (Ab q0) <| ov [3] (Ab q0) <| oc [501, 500] [4] call44 (Kr hr33) ⟨q0, q1, trivial⟩ <| ov [1] (Ab q0) <| ov [500] (Ak (FH (by decide)) q0 qi) <| od [503] 3 (Ae q0) <| od [501] 1 (Ae q0) .nil) fun _ a w h => ?_
   obtain rfl := Option.some.inj hF
   exact ⟨rfl, (b32 7), h.sub [0, 1, 2, 3, 5, 4] (by rfl)⟩
  ·refine wp_exit ?_
   obtain rfl := Option.some.inj hF
   exact ⟨BK _, rfl, q18, h.sub [2, 4, 5] (by rfl)⟩
 ·clear hl35
  intro e a w hq
  cases cr34 with
  | ret r36 =>
   obtain ⟨rfl, hq⟩ := hq
   obtain rfl := Option.some.inj hF
   exact ⟨.inl rfl, hq⟩
  | next s37 =>
   obtain ⟨y38, y39, y40, y41⟩ := s37
   obtain ⟨rfl, q18, h⟩ := hq
   change AA c [.slot 7 (Az q18), .res (AK p_1 y40), .res (acc q18 33 32 (dC 32) y41)] a w at h
   refine Bd ?_
   show Code.wp prog _ _ a w
   refine As mixed hn hG h [500, 1, 2] (ov [0] (Ab q0) <| ov [500] (Ae q0) .nil) fun _ a w h => ?_
   refine wp_ret ?_
   obtain rfl := Option.some.inj hF
   exact ⟨.inl rfl, BW h results113 (Ke 0 2 rfl rfl) [1] [(AK p_1 y40)] rfl rfl rfl⟩

def BQ.j1 (a_0 : Am) (L_1 : Option AD) (a_2 : Int) (a_3 : List UInt8) (x4 : Bool) : Option (AE × Int × (Option AD)) := (if x4 = true then some ((AE.mk (0 : Int) [] [] []), 2, L_1) else ((CS L_1 a_0.CV a_2 a_3).bind fun r6 => ((Ca a_0 r6.2.2 a_2).bind fun r7 => some ((AE.mk a_2 r6.1 r6.2.1 r7.1), 0, r7.2))))
def BQ (a_0 : Am) (L_1 : Option AD) (a_2 : Int) (a_3 : List UInt8) : Option (AE × Int × (Option AD)) := (if (!decide ((a_0.Bi.length : Int) = (16 : Int))) = true then BQ.j1 a_0 L_1 a_2 a_3 true else (if (decide (a_2 < (0 : Int))) = true then BQ.j1 a_0 L_1 a_2 a_3 true else BQ.j1 a_0 L_1 a_2 a_3 (decide ((16 : Int) ≤ a_2))))
theorem HB {p_1 : Value} {a_0 : Am} {L_1 : Option AD} {a_2 : Int} {a_3 : List UInt8} {r : AE × Int × (Option AD)} (hF : BQ a_0 L_1 a_2 a_3 = some r) : AH prog KG 88 [(Au (Am.ck a_0)), (Az p_1), (Ag .i64 a_2), (Au [Af 32 a_3])] [(AK p_1 L_1)] (fun _ => [AK p_1 r.2.2]) (Db [(Au (AE.ck r.1)), (Ag .i64 r.2.1)]) := by
 refine AH.intro 42 func88 rfl ntmps88 (Nat.le_of_ble_eq_true rfl) ?_
 intro c a w hG hn h
 unfold BQ at hF
 change AA c [.slot 0 (Au (Am.ck a_0)), .slot 1 (Az p_1), .slot 2 (Ag .i64 a_2), .slot 3 (Au [Af 32 a_3]), .res (AK p_1 L_1)] a w at h
 refine As mixed hn hG h [1, 2, 506, 504, 502, 4, 505, 503, 501] (ob [0] (Bc q0 (Ai _)) <| ob [3] (Bc q0 (Ai _)) <| ob [] (AR zeroValue69 PM) <| ov [] (Ae qi) .nil) fun b1 a w h => ?_
 refine wp_seq ?_
 refine wp_seq ?_
 refine wp_cut (fun a w => ∃ (x4 : Bool), BQ.j1 a_0 L_1 a_2 a_3 x4 = some r ∧ AA c [.slot 1 (Az p_1), .slot 2 (Ag .i64 a_2), .slot 4 (Av (b1 0) 0), .slot 7 (Av (b1 1) 0), .slot 8 (Av (b1 2) 0), .slot 23 (AL x4), .res (AK p_1 L_1), .res (lb (b1 0) 58 (Am.ck a_0)), .res (lb (b1 1) 33 [Af 32 a_3]), .res (lb (b1 2) 69 (AE.ck (AE.mk (0 : Int) [] [] [])))] a w) ?_ ?_
 ·rcases Bool.eq_false_or_eq_true (!decide ((a_0.Bi.length : Int) = (16 : Int))) with hb8 | hb8
  ·replace hF := CQ hb8 hF
   refine Cd mixed hn hG h [0, 1, 2, 3, 4, 500, 5, 6, 7, 8] (ov [2] (Ad (p := (b1 0)) (n := 1) 0 33 underlying58 rfl sizeOf27 (by decide) q0 rfl) <| ov [500, 6] (Aj ((Am.ck a_0).take 2) [] 1 isAgg27 q0 rfl rfl) <| ov [500] (A6 underlying27 q0) <| ov [500] (Ak Bg q0 qi) <| ov [500] (Ab q0) <| oe [500] [] (AB.At (want := false) hb8 rfl rfl rfl rfl) <| oe [501] [] (AB.At (want := false) hb8 rfl rfl rfl rfl) <| ov [502] (AU hb8 q0 qb) <| ov [500] (Ab q0) <| oe [500] [] (AB.At (want := false) rfl rfl rfl rfl rfl) <| oe [501] [] (AB.At (want := false) rfl rfl rfl rfl rfl) <| ov [502] (AU rfl q0 qb) .nil) fun _ a w h => ?_
   exact ⟨true, hF, h.sub [0, 1, 2, 3, 4, 5, 6, 7, 8, 9] (by rfl)⟩
  ·replace hF := CT hb8 hF
   rcases Bool.eq_false_or_eq_true (decide (a_2 < (0 : Int))) with hb9 | hb9
   ·replace hF := CQ hb9 hF
    refine Cd mixed hn hG h [0, 1, 2, 3, 4, 500, 5, 6, 7, 8] (ov [2] (Ad (p := (b1 0)) (n := 1) 0 33 underlying58 rfl sizeOf27 (by decide) q0 rfl) <| ov [500, 6] (Aj ((Am.ck a_0).take 2) [] 1 isAgg27 q0 rfl rfl) <| ov [500] (A6 underlying27 q0) <| ov [500] (Ak Bg q0 qi) <| ov [500] (Ab q0) <| oe [500, 1] [] (AB.Aw hb8 rfl rfl rfl (Ab q0)) <| oe [501, 500] [] (AB.Aw hb8 rfl rfl rfl (Ak Bl q0 qi)) <| ov [502, 500] (AV hb8 q0 q1) <| ov [500] (Ab q0) <| oe [500] [] (AB.At (want := false) hb9 rfl rfl rfl rfl) <| oe [501] [] (AB.At (want := false) hb9 rfl rfl rfl rfl) <| ov [502] (AU hb9 q0 qb) .nil) fun _ a w h => ?_
    exact ⟨true, hF, h.sub [0, 1, 2, 3, 4, 5, 6, 7, 8, 9] (by rfl)⟩
   ·replace hF := CT hb9 hF
    refine Cd mixed hn hG h [0, 1, 2, 3, 4, 500, 5, 6, 7, 8] (ov [2] (Ad (p := (b1 0)) (n := 1) 0 33 underlying58 rfl sizeOf27 (by decide) q0 rfl) <| ov [500, 6] (Aj ((Am.ck a_0).take 2) [] 1 isAgg27 q0 rfl rfl) <| ov [500] (A6 underlying27 q0) <| ov [500] (Ak Bg q0 qi) <| ov [500] (Ab q0) <| oe [500, 1] [] (AB.Aw hb8 rfl rfl rfl (Ab q0)) <| oe [501, 500] [] (AB.Aw hb8 rfl rfl rfl (Ak Bl q0 qi)) <| ov [502, 500] (AV hb8 q0 q1) <| ov [500] (Ab q0) <| oe [500, 1] [] (AB.Aw hb9 rfl rfl rfl (Ab q0)) <| oe [501, 500] [] (AB.Aw hb9 rfl rfl rfl (Ak Ef q0 qi)) <| ov [502, 500] (AV hb9 q0 q1) .nil) fun _ a w h => ?_
    exact ⟨decide ((16 : Int) ≤ a_2), hF, h.sub [0, 1, 2, 3, 4, 5, 6, 7, 8, 9] (by rfl)⟩
 ·clear h hF
  rintro a w ⟨x4, hF, h⟩
  unfold BQ.j1 at hF
  show Code.wp prog _ _ a w
  refine CC h hF 5 [4, 6, 9] [0, 1, 2, 3, 4, 6, 7, 8, 9] (fun hb5 hF h => ?_) (fun hb5 hF h => ?_)
  ·refine As mixed hn hG h [0, 500, 1, 501] (ov [] (Dw [] rfl Qw PM rfl) <| ou [0, 500] 2 (Aq sizeOf69 q0 q1 (Ai _)) <| ov [] (Ae qi) .nil) fun _ a w h => ?_
   refine wp_ret ?_
   obtain rfl := Option.some.inj hF
   exact ⟨.inl rfl, CJ h (rs := [.cell 8 69, .tmp 9]) (Vs := [(Au [one (Ag .i64 (0 : Int)), one (AJ (dC 32) []), one (AJ (dC 32) []), one (AJ (dC 32) [])]), (Ag .i64 2)]) results88 (by decide) ⟨(Be 0 3 rfl rfl isAgg69 sizeOf69 rfl), (Ba 1 rfl), trivial⟩ [2] [(AK p_1 L_1)] rfl rfl rfl⟩
  ·refine wp_skip ?_
   show Code.wp prog _ _ a w
   obtain ⟨r6, hr6, hF⟩ := bind_some hF
   refine As mixed hn hG h [0, 1, 2, 4, 501, 500, 6, 8, 505] (ov [0] (Ab q0) <| ov [2] (Ad (p := (b1 0)) (n := 32) 0 0 underlying58 rfl sizeOf33 (by decide) q0 rfl) <| ov [500, 6] (AT [] [Af 32 a_0.CV] ((Am.ck a_0).drop 1) 1 isAgg33 sizeOf33 q0 rfl rfl rfl) <| ov [1] (Ab q0) <| ov [3, 7] (An 1 isAgg33 sizeOf33 q0) <| oc [504, 502, 501, 500] [5] call112 (JG hr6) ⟨q0, q1, q2, q3, trivial⟩ <| ov [501] (Ab q0) <| ov [500] (A5 q0 rfl) <| ov [501] (A5 q0 rfl) <| ov [501] (Ae q0) <| ov [501] (Ae q0) .nil) fun _ a w h => ?_
   obtain ⟨r7, hr7, hF⟩ := bind_some hF
   refine As mixed hn hG h [3, 500, 501, 503] (ov [1] (Ab q0) <| ov [4] (Ab q0) <| ov [5] (Ab q0) <| ov [2, 6] (An 1 isAgg58 sizeOf58 q0) <| ov [0] (Ab q0) <| ov [1] (Ab q0) <| oc [502, 501, 500] [8] call113 (HQ hr7) ⟨q0, q1, q2, trivial⟩ <| ov [507, 506, 505, 501] (Dw [(0, .tmp 34), (1, .tmp 35), (2, .tmp 36), (3, .tmp 40)] rfl Qw PM ⟨[], [one (Ag .i64 (0 : Int))], [one (AJ (dC 32) []), one (AJ (dC 32) []), one (AJ (dC 32) [])], [one (Ag .i64 a_2)], _, rfl, rfl, rfl, q0, (AG (A8 _ _)), ⟨[one (Ag .i64 a_2)], [one (AJ (dC 32) [])], [one (AJ (dC 32) []), one (AJ (dC 32) [])], [one (AJ (dC 32) r6.1)], _, rfl, rfl, rfl, q1, (AG (H9 _ _)), ⟨[one (Ag .i64 a_2), one (AJ (dC 32) r6.1)], [one (AJ (dC 32) [])], [one (AJ (dC 32) [])], [one (AJ (dC 32) r6.2.1)], _, rfl, rfl, rfl, q2, (AG (H9 _ _)), ⟨[one (Ag .i64 a_2), one (AJ (dC 32) r6.1), one (AJ (dC 32) r6.2.1)], [one (AJ (dC 32) [])], [], [one (AJ (dC 32) r7.1)], _, rfl, rfl, rfl, q3, (AG (H9 _ _)), rfl⟩⟩⟩⟩) <| ou [3, 500] 7 (Aq sizeOf69 q0 q1 (Ai _)) <| ov [] (Ae qi) .nil) fun _ a w h => ?_
   refine wp_ret ?_
   obtain rfl := Option.some.inj hF
   exact ⟨.inl rfl, CJ h (rs := [.cell 8 69, .tmp 9]) (Vs := [(Au [one (Ag .i64 a_2), one (AJ (dC 32) r6.1), one (AJ (dC 32) r6.2.1), one (AJ (dC 32) r7.1)]), (Ag .i64 0)]) results88 (by decide) ⟨(Be 0 2 rfl rfl isAgg69 sizeOf69 rfl), (Ba 1 rfl), trivial⟩ [3] [(AK p_1 r7.2)] rfl rfl rfl⟩

def BI.j1 (a_0 : Am) (L_1 : Option AD) (a_2 : List UInt8) (x5 : Bool) : Option (Am × AE × Int × (Option AD)) := (if x5 = true then some (a_0, (AE.mk (0 : Int) [] [] []), 22, L_1) else ((BQ a_0 L_1 a_0.CH a_2).bind fun r7 => (if (!decide (r7.2.1 = (0 : Int))) = true then some (a_0, (AE.mk (0 : Int) [] [] []), r7.2.1, r7.2.2) else ((BO a_0.Bi).bind fun r10 => some ((Am.mk a_0.CV (IntKind.wrap .i64 (a_0.CH + 1)) r10), r7.1, 0, r7.2.2)))))
def BI (a_0 : Am) (L_1 : Option AD) (a_2 : List UInt8) : Option (Am × AE × Int × (Option AD)) := (if (decide (a_0.CH < (0 : Int))) = true then BI.j1 a_0 L_1 a_2 true else BI.j1 a_0 L_1 a_2 (decide ((16 : Int) ≤ a_0.CH)))
theorem F5 {p_1 : Value} {a_0 : Am} {L_1 : Option AD} {a_2 : List UInt8} {r : Am × AE × Int × (Option AD)} (hF : BI a_0 L_1 a_2 = some r) : AH prog KG 47 [(Au (Am.ck a_0)), (Az p_1), (Au [Af 32 a_2])] [(AK p_1 L_1)] (fun _ => [AK p_1 r.2.2.2]) (Db [(Au (Am.ck r.1)), (Au (AE.ck r.2.1)), (Ag .i64 r.2.2.1)]) := by
 refine AH.intro 45 func47 rfl ntmps47 (Nat.le_of_ble_eq_true rfl) ?_
 intro c a w hG hn h
 unfold BI at hF
 change AA c [.slot 0 (Au (Am.ck a_0)), .slot 1 (Az p_1), .slot 2 (Au [Af 32 a_2]), .res (AK p_1 L_1)] a w at h
 refine As mixed hn hG h [1, 508, 506, 504, 502, 3, 507, 505, 503, 501] (ob [0] (Bc q0 (Ai _)) <| ob [2] (Bc q0 (Ai _)) <| ob [] (AR zeroValue58 PJ) <| ob [] (AR zeroValue69 PM) <| ov [] (Ae qi) .nil) fun b1 a w h => ?_
 refine wp_seq ?_
 refine wp_seq ?_
 refine wp_cut (fun a w => ∃ (x5 : Bool), BI.j1 a_0 L_1 a_2 x5 = some r ∧ AA c [.slot 1 (Az p_1), .slot 3 (Av (b1 0) 0), .slot 5 (Av (b1 1) 0), .slot 6 (Av (b1 2) 0), .slot 7 (Av (b1 3) 0), .slot 18 (AL x5), .res (AK p_1 L_1), .res (lb (b1 0) 58 (Am.ck a_0)), .res (lb (b1 1) 33 [Af 32 a_2]), .res (lb (b1 2) 58 (Am.ck (Am.mk (List.replicate 32 0) (0 : Int) []))), .res (lb (b1 3) 69 (AE.ck (AE.mk (0 : Int) [] [] [])))] a w) ?_ ?_
 ·rcases Bool.eq_false_or_eq_true (decide (a_0.CH < (0 : Int))) with hb11 | hb11
  ·replace hF := CQ hb11 hF
   refine Cd mixed hn hG h [0, 1, 2, 3, 4, 500, 5, 6, 7, 8, 9] (ov [1] (Ad (p := (b1 0)) (n := 1) 0 32 underlying58 rfl sizeOf3 (by decide) q0 rfl) <| ov [500, 6] (Aj [Af 32 a_0.CV] [one (AJ (dC 32) a_0.Bi)] 1 isAgg3 q0 rfl rfl) <| ov [500] (Ak Bl q0 qi) <| ov [500] (Ab q0) <| oe [500] [] (AB.At (want := false) hb11 rfl rfl rfl rfl) <| oe [501] [] (AB.At (want := false) hb11 rfl rfl rfl rfl) <| oe [502] [] (AB.At (want := false) hb11 rfl rfl rfl rfl) <| ov [503] (AU hb11 q0 qb) .nil) fun _ a w h => ?_
   exact ⟨true, hF, h.sub [0, 1, 2, 3, 4, 5, 6, 7, 8, 9, 10] (by rfl)⟩
  ·replace hF := CT hb11 hF
   refine Cd mixed hn hG h [0, 1, 2, 3, 4, 500, 5, 6, 7, 8, 9] (ov [1] (Ad (p := (b1 0)) (n := 1) 0 32 underlying58 rfl sizeOf3 (by decide) q0 rfl) <| ov [500, 6] (Aj [Af 32 a_0.CV] [one (AJ (dC 32) a_0.Bi)] 1 isAgg3 q0 rfl rfl) <| ov [500] (Ak Bl q0 qi) <| ov [500] (Ab q0) <| oe [500, 1] [] (AB.Aw hb11 rfl rfl rfl (Ad (p := (b1 0)) (n := 1) 0 32 underlying58 rfl sizeOf3 (by decide) q0 rfl)) <| oe [501, 500, 6] [] (AB.Aw hb11 rfl rfl rfl (Aj [Af 32 a_0.CV] [one (AJ (dC 32) a_0.Bi)] 1 isAgg3 q0 rfl rfl)) <| oe [502, 500] [] (AB.Aw hb11 rfl rfl rfl (Ak Ef q0 qi)) <| ov [503, 500] (AV hb11 q0 q1) .nil) fun _ a w h => ?_
   exact ⟨decide ((16 : Int) ≤ a_0.CH), hF, h.sub [0, 1, 2, 3, 4, 5, 6, 7, 8, 9, 10] (by rfl)⟩
 ·clear h hF
  rintro a w ⟨x5, hF, h⟩
  unfold BI.j1 at hF
  show Code.wp prog _ _ a w
  refine CC h hF 5 [1, 3, 4, 6, 7, 9, 10] [0, 1, 2, 3, 4, 6, 7, 8, 9, 10] (fun hb6 hF h => ?_) (fun hb6 hF h => ?_)
  ·refine As mixed hn hG h [1, 2, 500, 3, 502, 501] (ov [0, 4] (An 1 isAgg58 sizeOf58 q0) <| ov [] (Dw [] rfl Qw PM rfl) <| ou [1, 501] 5 (Aq sizeOf58 q0 q1 (Ai _)) <| ou [2, 501] 6 (Aq sizeOf69 q0 q1 (Ai _)) <| ov [] (Ae qi) .nil) fun _ a w h => ?_
   refine wp_ret ?_
   obtain rfl := Option.some.inj hF
   exact ⟨.inl rfl, CJ h (rs := [.cell 6 58, .cell 7 69, .tmp 8]) (Vs := [(Au (Am.ck a_0)), (Au [one (Ag .i64 (0 : Int)), one (AJ (dC 32) []), one (AJ (dC 32) []), one (AJ (dC 32) [])]), (Ag .i64 22)]) results47 (by decide) ⟨(Be 0 4 rfl rfl isAgg58 sizeOf58 rfl), (Be 1 5 rfl rfl isAgg69 sizeOf69 rfl), (Ba 2 rfl), trivial⟩ [3] [(AK p_1 L_1)] rfl rfl rfl⟩
  ·refine wp_skip ?_
   show Code.wp prog _ _ a w
   obtain ⟨r7, hr7, hF⟩ := bind_some hF
   refine As mixed hn hG h [1, 3, 4, 503, 500, 6, 8, 9, 507, 501] (ov [1, 6] (An 1 isAgg58 sizeOf58 q0) <| ov [0] (Ab q0) <| ov [1] (Ad (p := (b1 0)) (n := 1) 0 32 underlying58 rfl sizeOf3 (by decide) q0 rfl) <| ov [500, 6] (Aj [Af 32 a_0.CV] [one (AJ (dC 32) a_0.Bi)] 1 isAgg3 q0 rfl rfl) <| ov [2, 7] (An 1 isAgg33 sizeOf33 q0) <| oc [504, 503, 501, 500] [5] call88 (HB hr7) ⟨q0, q1, q2, q3, trivial⟩ <| ov [501] (Ab q0) <| ov [500] (A5 q0 rfl) <| ov [501] (A5 q0 rfl) <| ob [] (AR zeroValue69 PM) <| og [501, 503] [500] [.res 9 100000 (fun v1_ _ => (lb (v1_) 69 (AE.ck r7.1)))] (AB.plain (Aq sizeOf69 q0 q1 (Ai _)) rfl) <| ov [503] (Ae q0) .nil) fun b8 a w h => ?_
   refine wp_seq ?_
   refine As mixed hn hG h [0, 1, 2, 3, 4, 500, 5, 6, 7, 8, 9] (ov [4] (Ab q0) <| ov [500] (Ak Bg q0 qi) .nil) fun _ a w h => ?_
   refine CC h hF 5 [0, 1, 2, 4, 6, 7, 8, 9] [0, 1, 2, 3, 6, 7, 8, 9, 10] (fun hb9 hF h => ?_) (fun hb9 hF h => ?_)
   ·refine As mixed hn hG h [1, 2, 500, 502, 501, 7] (ov [0, 4] (An 1 isAgg58 sizeOf58 q0) <| ov [] (Dw [] rfl Qw PM rfl) <| ov [3] (Ab q0) <| ou [1, 502] 5 (Aq sizeOf58 q0 q1 (Ai _)) <| ou [2, 502] 6 (Aq sizeOf69 q0 q1 (Ai _)) <| ov [502] (Ae q0) .nil) fun _ a w h => ?_
    refine wp_ret ?_
    obtain rfl := Option.some.inj hF
    exact ⟨.inl rfl, CJ h (rs := [.cell 6 58, .cell 7 69, .tmp 8]) (Vs := [(Au (Am.ck a_0)), (Au [one (Ag .i64 (0 : Int)), one (AJ (dC 32) []), one (AJ (dC 32) []), one (AJ (dC 32) [])]), (Ag .i64 r7.2.1)]) results47 (by decide) ⟨(Be 0 3 rfl rfl isAgg58 sizeOf58 rfl), (Be 1 4 rfl rfl isAgg69 sizeOf69 rfl), (Ba 2 rfl), trivial⟩ [5] [(AK p_1 r7.2.2)] rfl rfl rfl⟩
   ·refine wp_skip ?_
    show Code.wp prog _ _ a w
    refine As mixed hn hG h [0, 1, 2, 3, 500, 5, 6, 7, 8] (ov [0] (Ad (p := (b1 0)) (n := 1) 0 32 underlying58 rfl sizeOf3 (by decide) q0 rfl) <| ov [500, 4] (Aj [Af 32 a_0.CV] [one (AJ (dC 32) a_0.Bi)] 1 isAgg3 q0 rfl rfl) <| ov [500] (Ak A9 q0 qi) <| ov [0] (Ad (p := (b1 0)) (n := 1) 0 32 underlying58 rfl sizeOf3 (by decide) q0 rfl) <| ou [500, 501] 4 (B8 [Af 32 a_0.CV] [one (Ag .i64 a_0.CH)] [one (AJ (dC 32) a_0.Bi)] [one (Ag .i64 (IntKind.wrap .i64 (a_0.CH + 1)))] sizeOf3 q0 q1 (AG (A8 _ _)) rfl rfl rfl) .nil) fun _ a w h => ?_
    obtain ⟨r10, hr10, hF⟩ := bind_some hF
    refine As mixed hn hG h [0, 1, 2, 3, 500, 5, 6, 7, 8] (ov [0] (Ad (p := (b1 0)) (n := 1) 0 33 underlying58 rfl sizeOf27 (by decide) q0 rfl) <| ov [500, 4] (Aj [Af 32 a_0.CV, one (Ag .i64 (IntKind.wrap .i64 (a_0.CH + 1)))] [] 1 isAgg27 q0 rfl rfl) <| oc [500] [] call43 (DV hr10) ⟨q0, trivial⟩ <| ov [0] (Ad (p := (b1 0)) (n := 1) 0 33 underlying58 rfl sizeOf27 (by decide) q0 rfl) <| ou [500, 501] 4 (B8 [Af 32 a_0.CV, one (Ag .i64 (IntKind.wrap .i64 (a_0.CH + 1)))] [one (AJ (dC 32) a_0.Bi)] [] [one (AJ (dC 32) r10)] sizeOf27 q0 q1 (AG (H9 _ _)) rfl rfl rfl) .nil) fun _ a w h => ?_
    refine As mixed hn hG h [1, 2, 500, 502, 501, 7] (ov [0, 4] (An 1 isAgg58 sizeOf58 q0) <| ov [3, 8] (An 1 isAgg69 sizeOf69 q0) <| ou [1, 501] 5 (Aq sizeOf58 q0 q1 (Ai _)) <| ou [2, 501] 6 (Aq sizeOf69 q0 q1 (Ai _)) <| ov [] (Ae qi) .nil) fun _ a w h => ?_
    refine wp_ret ?_
    obtain rfl := Option.some.inj hF
    exact ⟨.inl rfl, CJ h (rs := [.cell 6 58, .cell 7 69, .tmp 8]) (Vs := [(Au [Af 32 a_0.CV, one (Ag .i64 (IntKind.wrap .i64 (a_0.CH + 1))), one (AJ (dC 32) r10)]), (Au (AE.ck r7.1)), (Ag .i64 0)]) results47 (by decide) ⟨(Be 0 3 rfl rfl isAgg58 sizeOf58 rfl), (Be 1 4 rfl rfl isAgg69 sizeOf69 rfl), (Ba 2 rfl), trivial⟩ [5] [(AK p_1 r7.2.2)] rfl rfl rfl⟩

def EI (L_0 : Option AD) (a_1 : Int) (a_2 : List UInt8) (a_3 : List UInt8) : Option ((List UInt8) × (Option AD)) := ((Dn a_1).bind fun r4 => ((DC a_2).bind fun r5 => ((DC a_3).bind fun r6 => ((C9 L_0 7 [r4, r5, r6]).bind fun r7 => some (r7.1, r7.2)))))
theorem Hb {p_0 : Value} {L_0 : Option AD} {a_1 : Int} {a_2 : List UInt8} {a_3 : List UInt8} {r : (List UInt8) × (Option AD)} (hF : EI L_0 a_1 a_2 a_3 = some r) : AH prog KG 48 [(Az p_0), (Ag .u32 a_1), (Au [Af 32 a_2]), (Au [Af 32 a_3])] [(AK p_0 L_0)] (fun _ => [AK p_0 r.2]) (Au [Af 32 r.1]) := by
 refine AH.intro 18 func48 rfl ntmps48 (Nat.le_of_ble_eq_true rfl) ?_
 intro c a w hG hn h
 unfold EI at hF
 change AA c [.slot 0 (Az p_0), .slot 1 (Ag .u32 a_1), .slot 2 (Au [Af 32 a_2]), .slot 3 (Au [Af 32 a_3]), .res (AK p_0 L_0)] a w at h
 refine As mixed hn hG h [0, 1, 505, 503, 501, 4, 504, 502, 500] (ob [2] (Bc q0 (Ai _)) <| ob [3] (Bc q0 (Ai _)) <| ob [] (AR zeroValue33 FT) .nil) fun b1 a w h => ?_
 obtain ⟨r4, hr4, hF⟩ := bind_some hF
 obtain ⟨r5, hr5, hF⟩ := bind_some hF
 obtain ⟨r6, hr6, hF⟩ := bind_some hF
 obtain ⟨r7, hr7, hF⟩ := bind_some hF
 refine As mixed hn hG h [4, 500, 501] (ov [0] (Ab q0) <| ov [1] (Ab q0) <| oc [500] [] call89 (D6 hr4) ⟨q0, trivial⟩ <| ov [2, 6] (An 1 isAgg33 sizeOf33 q0) <| oc [500] [] call79 (DU hr5) ⟨q0, trivial⟩ <| ov [3, 7] (An 1 isAgg33 sizeOf33 q0) <| oc [500] [] call79 (DU hr6) ⟨q0, trivial⟩ <| ov [504, 502, 500] (CP (xs := [.tmp 11, .tmp 13, .tmp 15]) (ys := [r4, r5, r6]) _ rfl underlying22 sizeOf9 zeroValue9 rfl rfl (by decide) (by decide) ⟨⟨_, q0, (AG (CD _))⟩, ⟨_, q1, (AG (CD _))⟩, ⟨_, q2, (AG (CD _))⟩, trivial⟩ CF) <| oc [507, 500] [5] call80 (DA hr7) ⟨q0, qi, q1, trivial⟩ <| ou [4, 501] 8 (Aq sizeOf33 q0 q1 (Ai _)) .nil) fun _ a w h => ?_
 refine wp_ret ?_
 obtain rfl := Option.some.inj hF
 exact ⟨.inl rfl, BW h results48 (Be 0 1 rfl rfl isAgg33 sizeOf33 rfl) [2] [(AK p_0 r7.2)] rfl rfl rfl⟩

def El (L_0 : Option AD) (a_1 : Am) (a_2 : Int) (a_3 : List UInt8) (a_4 : List UInt8) : Option (Am × AI × Int × (Option AD)) := ((EI L_0 a_2 a_3 a_4).bind fun r6 => ((BI a_1 r6.2 r6.1).bind fun r7 => (if (!decide (r7.2.2.1 = (0 : Int))) = true then some (a_1, (AI.mk (0 : Int) (List.replicate 32 0) (List.replicate 32 0) (AE.mk (0 : Int) [] [] [])), r7.2.2.1, r7.2.2.2) else some (r7.1, (AI.mk a_2 a_3 a_4 r7.2.1), 0, r7.2.2.2))))
theorem Hl {p_0 : Value} {L_0 : Option AD} {a_1 : Am} {a_2 : Int} {a_3 : List UInt8} {a_4 : List UInt8} {r : Am × AI × Int × (Option AD)} (hF : El L_0 a_1 a_2 a_3 a_4 = some r) : AH prog KG 19 [(Az p_0), (Au (Am.ck a_1)), (Ag .u32 a_2), (Au [Af 32 a_3]), (Au [Af 32 a_4])] [(AK p_0 L_0)] (fun _ => [AK p_0 r.2.2.2]) (Db [(Au (Am.ck r.1)), (Au (AI.ck r.2.1)), (Ag .i64 r.2.2.1)]) := by
 refine AH.intro 39 func19 rfl ntmps19 (Nat.le_of_ble_eq_true rfl) ?_
 intro c a w hG hn h
 unfold El at hF
 change AA c [.slot 0 (Az p_0), .slot 1 (Au (Am.ck a_1)), .slot 2 (Ag .u32 a_2), .slot 3 (Au [Af 32 a_3]), .slot 4 (Au [Af 32 a_4]), .res (AK p_0 L_0)] a w at h
 refine As mixed hn hG h [0, 2, 510, 508, 506, 504, 502, 5, 509, 507, 505, 503, 501] (ob [1] (Bc q0 (Ai _)) <| ob [3] (Bc q0 (Ai _)) <| ob [4] (Bc q0 (Ai _)) <| ob [] (AR zeroValue58 PJ) <| ob [] (AR zeroValue71 RG) <| ov [] (Ae qi) .nil) fun b1 a w h => ?_
 obtain ⟨r6, hr6, hF⟩ := bind_some hF
 obtain ⟨r7, hr7, hF⟩ := bind_some hF
 refine As mixed hn hG h [1, 2, 3, 4, 5, 6, 506, 504, 500, 8, 9, 10, 11, 12, 511, 502, 501] (ov [2, 8] (An 1 isAgg58 sizeOf58 q0) <| ov [0] (Ab q0) <| ov [0] (Ab q0) <| ov [1] (Ab q0) <| ov [3, 9] (An 1 isAgg33 sizeOf33 q0) <| ov [4, 10] (An 1 isAgg33 sizeOf33 q0) <| oc [503, 502, 501, 500] [7] call48 (Hb hr6) ⟨q0, q1, q2, q3, trivial⟩ <| oc [507, 506, 501] [500] call47 (F5 hr7) ⟨q0, q1, q2, trivial⟩ <| ov [501] (Ab q0) <| ov [500] (A5 q0 rfl) <| ov [501] (A5 q0 rfl) <| ov [502] (A5 q0 rfl) <| ob [] (AR zeroValue58 PJ) <| ob [] (AR zeroValue69 PM) <| og [503, 506] [502] [.res 12 100000 (fun v1_ _ => (lb (v1_) 58 (Am.ck r7.1)))] (AB.plain (Aq sizeOf58 q0 q1 (Ai _)) rfl) <| og [502, 506] [501] [.res 13 100000 (fun v1_ _ => (lb (v1_) 69 (AE.ck r7.2.1)))] (AB.plain (Aq sizeOf69 q0 q1 (Ai _)) rfl) <| ov [506] (Ae q0) .nil) fun b8 a w h => ?_
 refine wp_seq ?_
 refine As mixed hn hG h [0, 1, 2, 3, 4, 5, 6, 7, 8, 500, 9, 10, 11, 12, 13, 14, 15, 16] (ov [8] (Ab q0) <| ov [500] (Ak Bg q0 qi) .nil) fun _ a w h => ?_
 refine CC h hF 9 [1, 4, 5, 8, 10, 13, 14, 15] [0, 2, 3, 4, 5, 6, 7, 11, 12, 13, 14, 15, 16, 17] (fun hb10 hF h => ?_) (fun hb10 hF h => ?_)
 ·refine As mixed hn hG h [1, 2, 500, 502, 501, 7] (ov [0, 4] (An 1 isAgg58 sizeOf58 q0) <| ov [] (Dw [] rfl R6 RG rfl) <| ov [3] (Ab q0) <| ou [1, 502] 5 (Aq sizeOf58 q0 q1 (Ai _)) <| ou [2, 502] 6 (Aq sizeOf71 q0 q1 (Ai _)) <| ov [502] (Ae q0) .nil) fun _ a w h => ?_
  refine wp_ret ?_
  obtain rfl := Option.some.inj hF
  exact ⟨.inl rfl, CJ h (rs := [.cell 10 58, .cell 11 71, .tmp 12]) (Vs := [(Au (Am.ck a_1)), (Au [one (Ag .u32 (0 : Int)), Af 32 (List.replicate 32 0), Af 32 (List.replicate 32 0), one (Ag .i64 ((AE.mk (0 : Int) [] [] []).Cc)), one (AJ (dC 32) ((AE.mk (0 : Int) [] [] []).Dl)), one (AJ (dC 32) ((AE.mk (0 : Int) [] [] []).CZ)), one (AJ (dC 32) ((AE.mk (0 : Int) [] [] []).Dk))]), (Ag .i64 r7.2.2.1)]) results19 (by decide) ⟨(Be 0 3 rfl rfl isAgg58 sizeOf58 rfl), (Be 1 4 rfl rfl isAgg71 sizeOf71 rfl), (Ba 2 rfl), trivial⟩ [5] [(AK p_0 r7.2.2.2)] rfl rfl rfl⟩
 ·refine wp_skip ?_
  show Code.wp prog _ _ a w
  refine As mixed hn hG h [3, 4, 500, 502, 501, 11] (ov [5, 12] (An 1 isAgg58 sizeOf58 q0) <| ov [0] (Ab q0) <| ov [1, 7] (An 1 isAgg33 sizeOf33 q0) <| ov [2, 8] (An 1 isAgg33 sizeOf33 q0) <| ov [6, 13] (An 1 isAgg69 sizeOf69 q0) <| ov [503, 502, 501, 500] (Dw [(0, .tmp 34), (1, .tmp 35), (2, .tmp 36), (3, .tmp 37)] rfl R6 RG ⟨[], [one (Ag .u32 (0 : Int))], [Af 32 (List.replicate 32 0), Af 32 (List.replicate 32 0), one (Ag .i64 ((AE.mk (0 : Int) [] [] []).Cc)), one (AJ (dC 32) ((AE.mk (0 : Int) [] [] []).Dl)), one (AJ (dC 32) ((AE.mk (0 : Int) [] [] []).CZ)), one (AJ (dC 32) ((AE.mk (0 : Int) [] [] []).Dk))], [one (Ag .u32 a_2)], _, rfl, rfl, rfl, q0, (AG (A8 _ _)), ⟨[one (Ag .u32 a_2)], [Af 32 (List.replicate 32 0)], [Af 32 (List.replicate 32 0), one (Ag .i64 ((AE.mk (0 : Int) [] [] []).Cc)), one (AJ (dC 32) ((AE.mk (0 : Int) [] [] []).Dl)), one (AJ (dC 32) ((AE.mk (0 : Int) [] [] []).CZ)), one (AJ (dC 32) ((AE.mk (0 : Int) [] [] []).Dk))], [Af 32 a_3], _, rfl, rfl, rfl, q1, (Ai _), ⟨[one (Ag .u32 a_2), Af 32 a_3], [Af 32 (List.replicate 32 0)], (AE.ck (AE.mk (0 : Int) [] [] [])), [Af 32 a_4], _, rfl, rfl, rfl, q2, (Ai _), ⟨[one (Ag .u32 a_2), Af 32 a_3, Af 32 a_4], (AE.ck (AE.mk (0 : Int) [] [] [])), [], (AE.ck r7.2.1), _, rfl, rfl, rfl, q3, (Ai _), rfl⟩⟩⟩⟩) <| ou [3, 505] 9 (Aq sizeOf58 q0 q1 (Ai _)) <| ou [4, 501] 10 (Aq sizeOf71 q0 q1 (Ai _)) <| ov [] (Ae qi) .nil) fun _ a w h => ?_
  refine wp_ret ?_
  obtain rfl := Option.some.inj hF
  exact ⟨.inl rfl, CJ h (rs := [.cell 10 58, .cell 11 71, .tmp 12]) (Vs := [(Au (Am.ck r7.1)), (Au [one (Ag .u32 a_2), Af 32 a_3, Af 32 a_4, one (Ag .i64 r7.2.1.Cc), one (AJ (dC 32) r7.2.1.Dl), one (AJ (dC 32) r7.2.1.CZ), one (AJ (dC 32) r7.2.1.Dk)]), (Ag .i64 0)]) results19 (by decide) ⟨(Be 0 3 rfl rfl isAgg58 sizeOf58 rfl), (Be 1 4 rfl rfl isAgg71 sizeOf71 rfl), (Ba 2 rfl), trivial⟩ [5] [(AK p_0 r7.2.2.2)] rfl rfl rfl⟩

def BF.b1 (a_1 : List UInt8) (a_2 : List (List UInt8)) (a_3 : List (List UInt8)) (x13 : Int) (x14 : Option AD) (x15 : List (List UInt8)) : Option (Cn ((List UInt8) × Bool × (Option AD)) (Int × (Option AD) × (List (List UInt8)))) := (if (decide (x13 < (32 : Int))) = true then ((Cm a_1 x13).bind fun r27 => (if (0 : Int) ≤ x13 ∧ x13 < a_2.length then ((DX x14 (a_2.getD x13.toNat default)).bind fun r29 => (if (0 : Int) ≤ IntKind.wrap .i64 ((IntKind.wrap .i64 (2 * x13)) + r27) ∧ IntKind.wrap .i64 ((IntKind.wrap .i64 (2 * x13)) + r27) < 64 then (if (0 : Int) ≤ x13 ∧ x13 < a_3.length then (if (0 : Int) ≤ IntKind.wrap .i64 ((IntKind.wrap .i64 ((IntKind.wrap .i64 (2 * x13)) + 1)) - r27) ∧ IntKind.wrap .i64 ((IntKind.wrap .i64 ((IntKind.wrap .i64 (2 * x13)) + 1)) - r27) < 64 then some (.cont (IntKind.wrap .i64 (x13 + 1), r29.2, (x15.set (IntKind.wrap .i64 ((IntKind.wrap .i64 (2 * x13)) + r27)).toNat r29.1).set (IntKind.wrap .i64 ((IntKind.wrap .i64 ((IntKind.wrap .i64 (2 * x13)) + 1)) - r27)).toNat (a_3.getD x13.toNat default))) else none) else none) else none)) else none)) else some (.brk (x13, x14, x15)))
def BF.j1 (L_0 : Option AD) (a_1 : List UInt8) (a_2 : List (List UInt8)) (a_3 : List (List UInt8)) (x3 : Bool) : Option ((List UInt8) × Bool × (Option AD)) := (if x3 = true then some ((List.replicate 32 0), false, L_0) else ((Bu (fun s : Int × (Option AD) × (List (List UInt8)) => BF.b1 a_1 a_2 a_3 s.1 s.2.1 s.2.2) ((32 - 0 : Int).toNat + 2) (0, L_0, (List.replicate 64 (List.replicate 32 0)))).bind fun cr => match cr with | .ret r => some r | .next (y37, y38, y39) => ((CG y38 y39).bind fun r40 => some (r40.1, true, r40.2))))
def BF (L_0 : Option AD) (a_1 : List UInt8) (a_2 : List (List UInt8)) (a_3 : List (List UInt8)) : Option ((List UInt8) × Bool × (Option AD)) := (if (!decide ((a_2.length : Int) = (32 : Int))) = true then BF.j1 L_0 a_1 a_2 a_3 true else BF.j1 L_0 a_1 a_2 a_3 (!decide ((a_3.length : Int) = (32 : Int))))
theorem IF {p_0 : Value} {L_0 : Option AD} {a_1 : List UInt8} {a_2 : List (List UInt8)} {a_3 : List (List UInt8)} {r : (List UInt8) × Bool × (Option AD)} (hF : BF L_0 a_1 a_2 a_3 = some r) : AH prog KG 118 [(Az p_0), (Au [Af 32 a_1]), (AJ (dC 32) a_2), (AJ (dC 32) a_3)] [(AK p_0 L_0)] (fun _ => [AK p_0 r.2.2]) (Db [(Au [Af 32 r.1]), (AL r.2.1)]) := by
 refine AH.intro 53 func118 rfl ntmps118 (Nat.le_of_ble_eq_true rfl) ?_
 intro c a w hG hn h
 unfold BF at hF
 change AA c [.slot 0 (Az p_0), .slot 1 (Au [Af 32 a_1]), .slot 2 (AJ (dC 32) a_2), .slot 3 (AJ (dC 32) a_3), .res (AK p_0 L_0)] a w at h
 refine As mixed hn hG h [0, 2, 3, 504, 502, 4, 503, 501] (ob [1] (Bc q0 (Ai _)) <| ob [] (AR zeroValue33 FT) <| ov [] (Ae qb) .nil) fun b1 a w h => ?_
 refine wp_seq ?_
 refine wp_seq ?_
 refine wp_cut (fun a w => ∃ (x3 : Bool), BF.j1 L_0 a_1 a_2 a_3 x3 = some r ∧ AA c [.slot 0 (Az p_0), .slot 2 (AJ (dC 32) a_2), .slot 3 (AJ (dC 32) a_3), .slot 5 (Av (b1 0) 0), .slot 8 (Av (b1 1) 0), .slot 20 (AL x3), .res (AK p_0 L_0), .res (lb (b1 0) 33 [Af 32 a_1]), .res (lb (b1 1) 33 [Af 32 (List.replicate 32 0)])] a w) ?_ ?_
 ·rcases Bool.eq_false_or_eq_true (!decide ((a_2.length : Int) = (32 : Int))) with hb41 | hb41
  ·replace hF := CQ hb41 hF
   refine Cd mixed hn hG h [0, 1, 2, 3, 4, 500, 5, 6, 7] (ov [1] (Ab q0) <| ov [500] (A6 underlying27 q0) <| ov [500] (Ak Bg q0 qi) <| ov [500] (Ab q0) <| oe [500] [] (AB.At (want := false) hb41 rfl rfl rfl rfl) <| oe [501] [] (AB.At (want := false) hb41 rfl rfl rfl rfl) <| oe [502] [] (AB.At (want := false) hb41 rfl rfl rfl rfl) <| ov [503] (AU hb41 q0 qb) .nil) fun _ a w h => ?_
   exact ⟨true, hF, h.sub [0, 1, 2, 3, 4, 5, 6, 7, 8] (by rfl)⟩
  ·replace hF := CT hb41 hF
   refine Cd mixed hn hG h [0, 1, 2, 3, 4, 500, 5, 6, 7] (ov [1] (Ab q0) <| ov [500] (A6 underlying27 q0) <| ov [500] (Ak Bg q0 qi) <| ov [500] (Ab q0) <| oe [500, 2] [] (AB.Aw hb41 rfl rfl rfl (Ab q0)) <| oe [501, 500] [] (AB.Aw hb41 rfl rfl rfl (A6 underlying27 q0)) <| oe [502, 500] [] (AB.Aw hb41 rfl rfl rfl (Ak Bg q0 qi)) <| ov [503, 500] (AV hb41 q0 q1) .nil) fun _ a w h => ?_
   exact ⟨!decide ((a_3.length : Int) = (32 : Int)), hF, h.sub [0, 1, 2, 3, 4, 5, 6, 7, 8] (by rfl)⟩
 ·clear h hF
  rintro a w ⟨x3, hF, h⟩
  unfold BF.j1 at hF
  show Code.wp prog _ _ a w
  refine CC h hF 5 [4, 6, 8] [0, 1, 2, 3, 4, 6, 7, 8] (fun hb4 hF h => ?_) (fun hb4 hF h => ?_)
  ·refine As mixed hn hG h [0, 500, 1, 501] (ov [] (KB zeroValue33 underlying33 sizeOf5 FT) <| ou [0, 500] 2 (Aq sizeOf33 q0 q1 (Ai _)) <| ov [] (Ae qb) .nil) fun _ a w h => ?_
   refine wp_ret ?_
   obtain rfl := Option.some.inj hF
   exact ⟨.inl rfl, CJ h (rs := [.cell 8 33, .tmp 9]) (Vs := [(Au [Af 32 (List.replicate 32 0)]), (AL false)]) results118 (by decide) ⟨(Be 0 3 rfl rfl isAgg33 sizeOf33 rfl), (Ba 1 rfl), trivial⟩ [2] [(AK p_0 L_0)] rfl rfl rfl⟩
  ·refine wp_skip ?_
   show Code.wp prog _ _ a w
   refine As mixed hn hG h [0, 1, 2, 3, 4, 501, 5, 6, 7, 500] (ob [] (AR zeroValue187 RH) .nil) fun b5 a w h => ?_
   refine wp_seq ?_
   refine As mixed hn hG h [0, 1, 2, 3, 4, 5, 500, 6, 7, 8, 9] (ov [] (Ab qi) .nil) fun _ a w h => ?_
   refine wp_block ?_
   obtain ⟨cr33, hl34, hF⟩ := bind_some hF
   refine wp_mono (Bx (R := (List UInt8) × Bool × (Option AD)) (S := Int × (Option AD) × (List (List UInt8))) (fun s a w => AA c [.slot 0 (Az p_0), .slot 2 (AJ (dC 32) a_2), .slot 3 (AJ (dC 32) a_3), .slot 5 (Av (b1 0) 0), .slot 8 (Av (b1 1) 0), .slot 10 (Av (b5 0) 0), .slot 22 (Ag .i64 s.1), .res (AK p_0 s.2.1), .res (lb (b1 0) 33 [Af 32 a_1]), .res (lb (b1 1) 33 [Af 32 (List.replicate 32 0)]), .res (lb (b5 0) 187 [C7 64 32 (dC 32) (Bk 32) s.2.2])] a w) (fun res e a w => match res with | .next s => e = .exit 0 ∧ AA c [.slot 0 (Az p_0), .slot 8 (Av (b1 1) 0), .slot 10 (Av (b5 0) 0), .res (AK p_0 s.2.1), .res (lb (b1 1) 33 [Af 32 (List.replicate 32 0)]), .res (lb (b5 0) 187 [C7 64 32 (dC 32) (Bk 32) s.2.2])] a w | .ret r => e = .ret ∧ Cu prog f118 c (Db [(Au [Af 32 r.1]), (AL r.2.1)]) (fun _ => [AK p_0 r.2.2]) a w) ?_ _ (0, L_0, (List.replicate 64 (List.replicate 32 0))) _ _ _ (h.sub [0, 1, 2, 3, 4, 5, 6, 7, 8, 9, 10] (by rfl)) hl34) ?_
   ·clear hl34 hF h
    intro s a w o h hF
    obtain ⟨x13, x14, x15⟩ := s
    change BF.b1 a_1 a_2 a_3 x13 x14 x15 = some o at hF
    unfold BF.b1 at hF
    change AA c [.slot 0 (Az p_0), .slot 2 (AJ (dC 32) a_2), .slot 3 (AJ (dC 32) a_3), .slot 5 (Av (b1 0) 0), .slot 8 (Av (b1 1) 0), .slot 10 (Av (b5 0) 0), .slot 22 (Ag .i64 x13), .res (AK p_0 x14), .res (lb (b1 0) 33 [Af 32 a_1]), .res (lb (b1 1) 33 [Af 32 (List.replicate 32 0)]), .res (lb (b5 0) 187 [C7 64 32 (dC 32) (Bk 32) x15])] a w at h
    refine As mixed hn hG h [0, 1, 2, 3, 4, 5, 6, 500, 7, 8, 9, 10] (ov [6] (Ak Bl q0 qi) .nil) fun _ a w h => ?_
    refine wp_seq ?_
    refine CC h hF 7 [0, 1, 2, 3, 4, 5, 6, 8, 9, 10, 11] [0, 1, 2, 3, 4, 5, 6, 8, 9, 10, 11] (fun hb26 hF h => ?_) (fun hb26 hF h => ?_)
    ·refine wp_skip ?_
     show Code.wp prog _ _ a w
     refine wp_seq ?_
     refine wp_block ?_
     refine As mixed hn hG h [0, 1, 2, 3, 4, 5, 500, 6, 7, 8, 9, 10] (ov [6] (Ab q0) <| ov [500] (Ae q0) .nil) fun _ a w h => ?_
     obtain ⟨r27, hr27, hF⟩ := bind_some hF
     refine As mixed hn hG h [0, 1, 2, 3, 4, 5, 6, 500, 7, 8, 9, 10, 11] (ov [3, 9] (An 1 isAgg33 sizeOf33 q0) <| ov [6] (Ab q0) <| oc [501, 500] [] call133 (Hy hr27) ⟨q0, q1, trivial⟩ <| ov [500] (Ae q0) .nil) fun _ a w h => ?_
     obtain ⟨hv28, hF⟩ := AF hF
     obtain ⟨r29, hr29, hF⟩ := bind_some hF
     obtain ⟨hv30, hF⟩ := AF hF
     refine As mixed hn hG h [0, 1, 2, 3, 4, 5, 6, 7, 8, 10, 11, 500, 502] (ov [6] (Ab q0) <| ov [500] (Ak DQ qi q0) <| ov [7] (Ab q0) <| ov [501, 500] (Ak A9 q0 q1) <| ov [0] (Ab q0) <| ov [1] (Ab q0) <| ov [6] (Ab q0) <| ov [501, 500] (AS underlying27 sizeOf33 (Bk 32) q0 q1 hv28) <| ov [500] (Bq [Af 32 (a_2.getD x13.toNat default)] [] isAgg33 sizeOf33 q0 rfl) <| oc [504, 500] [9] call83 (Fk hr29) ⟨q0, q1, trivial⟩ <| ov [5, 507] (AM underlying187 sizeOf33 q0 q1 hv30) <| ou [500, 502] 12 (F9 (i := IntKind.wrap .i64 ((IntKind.wrap .i64 (2 * x13)) + r27)) [] [] sizeOf33 q0 q1 rfl hv30) .nil) fun _ a w h => ?_
     obtain ⟨hv31, hF⟩ := AF hF
     obtain ⟨hv32, hF⟩ := AF hF
     refine Cd mixed hn hG h [0, 1, 2, 3, 4, 5, 8, 9, 10, 500, 12] (ov [6] (Ab q0) <| ov [500] (Ak DQ qi q0) <| ov [500] (Ak A9 q0 qi) <| ov [7] (Ab q0) <| ov [501, 500] (Ak CX q0 q1) <| ov [2] (Ab q0) <| ov [6] (Ab q0) <| ov [501, 500] (AS underlying27 sizeOf33 (Bk 32) q0 q1 hv31) <| ov [500] (Bq [Af 32 (a_3.getD x13.toNat default)] [] isAgg33 sizeOf33 q0 rfl) <| ov [5, 504] (AM underlying187 sizeOf33 q0 q1 hv32) <| ou [500, 501] 11 (F9 (i := IntKind.wrap .i64 ((IntKind.wrap .i64 ((IntKind.wrap .i64 (2 * x13)) + 1)) - r27)) [] [] sizeOf33 q0 q1 rfl hv32) .nil) fun _ a w h => ?_
     show Code.wp prog _ _ a w
     refine Cd mixed hn hG h [0, 1, 2, 3, 4, 5, 500, 7, 8, 9, 10] (ov [6] (Ak A9 q0 qi) <| od [500] 6 (Ab q0) .nil) fun _ a w h => ?_
     obtain rfl := Option.some.inj hF
     exact ⟨rfl, h.sub [0, 1, 2, 3, 4, 5, 6, 10, 7, 8, 9] (by rfl)⟩
    ·refine wp_exit ?_
     obtain rfl := Option.some.inj hF
     exact ⟨BK _, rfl, h.sub [0, 4, 5, 7, 9, 10] (by rfl)⟩
   ·clear hl34
    intro e a w hq
    cases cr33 with
    | ret r35 =>
     obtain ⟨rfl, hq⟩ := hq
     obtain rfl := Option.some.inj hF
     exact ⟨.inl rfl, hq⟩
    | next s36 =>
     obtain ⟨y37, y38, y39⟩ := s36
     obtain ⟨rfl, h⟩ := hq
     change AA c [.slot 0 (Az p_0), .slot 8 (Av (b1 1) 0), .slot 10 (Av (b5 0) 0), .res (AK p_0 y38), .res (lb (b1 1) 33 [Af 32 (List.replicate 32 0)]), .res (lb (b5 0) 187 [C7 64 32 (dC 32) (Bk 32) y39])] a w at h
     refine Bd ?_
     show Code.wp prog _ _ a w
     obtain ⟨r40, hr40, hF⟩ := bind_some hF
     refine As mixed hn hG h [1, 500, 501, 502] (ov [0] (Ab q0) <| ov [2, 5] (An 1 isAgg187 sizeOf187 q0 (hn := by simp only [Pe, Pd, one, Af, C7, AY])) <| oc [501, 500] [3] call85 (Hi hr40) ⟨q0, q1, trivial⟩ <| ou [1, 501] 4 (Aq sizeOf33 q0 q1 (Ai _)) <| ov [] (Ae qb) .nil) fun _ a w h => ?_
     refine wp_ret ?_
     obtain rfl := Option.some.inj hF
     exact ⟨.inl rfl, CJ h (rs := [.cell 8 33, .tmp 9]) (Vs := [(Au [Af 32 r40.1]), (AL true)]) results118 (by decide) ⟨(Be 0 2 rfl rfl isAgg33 sizeOf33 rfl), (Ba 1 rfl), trivial⟩ [3] [(AK p_0 r40.2)] rfl rfl rfl⟩

def Cj.j1 (x10 : Int) (x11 : Int) (x30 : List UInt8) (x31 : Option AD) : Option (Cn ((List UInt8) × (Option AD)) (Int × Int × (Option AD) × (List UInt8))) := some (.cont (shr .i64 x10 1, IntKind.wrap .i64 (x11 + 1), x31, x30))
def Cj.b1 (a_3 : List (List UInt8)) (x10 : Int) (x11 : Int) (x12 : Option AD) (x13 : List UInt8) : Option (Cn ((List UInt8) × (Option AD)) (Int × Int × (Option AD) × (List UInt8))) := (if (decide (x11 < (a_3.length : Int))) = true then (if (0 : Int) ≤ x11 ∧ x11 < a_3.length then (if (decide ((bits .and .i64 x10 1) = (1 : Int))) = true then ((C8 x12 4 (a_3.getD x11.toNat default) x13).bind fun r33 => Cj.j1 x10 x11 r33.1 r33.2) else ((C8 x12 4 x13 (a_3.getD x11.toNat default)).bind fun r34 => Cj.j1 x10 x11 r34.1 r34.2)) else none) else some (.brk (x10, x11, x12, x13)))
def Cj (L_0 : Option AD) (a_1 : List UInt8) (a_2 : Int) (a_3 : List (List UInt8)) : Option ((List UInt8) × (Option AD)) := ((Bu (fun s : Int × Int × (Option AD) × (List UInt8) => Cj.b1 a_3 s.1 s.2.1 s.2.2.1 s.2.2.2) (((a_3.length : Int) - 0 : Int).toNat + 2) (a_2, 0, L_0, a_1)).bind fun cr => match cr with | .ret r => some r | .next (y39, y40, y41, y42) => some (y42, y41))
theorem KT {p_0 : Value} {L_0 : Option AD} {a_1 : List UInt8} {a_2 : Int} {a_3 : List (List UInt8)} {r : (List UInt8) × (Option AD)} (hF : Cj L_0 a_1 a_2 a_3 = some r) : AH prog KG 119 [(Az p_0), (Au [Af 32 a_1]), (Ag .i64 a_2), (AJ (dC 32) a_3)] [(AK p_0 L_0)] (fun _ => [AK p_0 r.2]) (Au [Af 32 r.1]) := by
 refine AH.intro 32 func119 rfl ntmps119 (Nat.le_of_ble_eq_true rfl) ?_
 intro c a w hG hn h
 unfold Cj at hF
 change AA c [.slot 0 (Az p_0), .slot 1 (Au [Af 32 a_1]), .slot 2 (Ag .i64 a_2), .slot 3 (AJ (dC 32) a_3), .res (AK p_0 L_0)] a w at h
 refine As mixed hn hG h [0, 2, 3, 503, 501, 4, 502, 500] (ob [1] (Bc q0 (Ai _)) <| ob [] (AR zeroValue33 FT) .nil) fun b1 a w h => ?_
 refine wp_seq ?_
 refine As mixed hn hG h [0, 1, 3, 4, 502, 501, 500, 5, 6, 7] (ov [2] (Ab q0) <| ov [500] (A6 underlying27 q0) <| ov [] (Ab qi) .nil) fun _ a w h => ?_
 refine wp_block ?_
 obtain ⟨cr35, hl36, hF⟩ := bind_some hF
 refine wp_mono (Bx (R := (List UInt8) × (Option AD)) (S := Int × Int × (Option AD) × (List UInt8)) (fun s a w => AA c [.slot 0 (Az p_0), .slot 2 (Ag .i64 s.1), .slot 5 (Av (b1 0) 0), .slot 8 (Av (b1 1) 0), .slot 11 (AJ (dC 32) a_3), .slot 12 (Ag .i64 (a_3.length : Int)), .slot 13 (Ag .i64 s.2.1), .res (AK p_0 s.2.2.1), .res (lb (b1 0) 33 [Af 32 s.2.2.2]), .res (lb (b1 1) 33 [Af 32 (List.replicate 32 0)])] a w) (fun res e a w => match res with | .next s => e = .exit 0 ∧ AA c [.slot 5 (Av (b1 0) 0), .slot 8 (Av (b1 1) 0), .res (AK p_0 s.2.2.1), .res (lb (b1 0) 33 [Af 32 s.2.2.2]), .res (lb (b1 1) 33 [Af 32 (List.replicate 32 0)])] a w | .ret r => e = .ret ∧ Cu prog f119 c (Au [Af 32 r.1]) (fun _ => [AK p_0 r.2]) a w) ?_ _ (a_2, 0, L_0, a_1) _ _ _ (h.sub [0, 1, 2, 3, 4, 5, 6, 7, 8, 9] (by rfl)) hl36) ?_
 ·clear hl36 hF h
  intro s a w o h hF
  obtain ⟨x10, x11, x12, x13⟩ := s
  change Cj.b1 a_3 x10 x11 x12 x13 = some o at hF
  unfold Cj.b1 at hF
  change AA c [.slot 0 (Az p_0), .slot 2 (Ag .i64 x10), .slot 5 (Av (b1 0) 0), .slot 8 (Av (b1 1) 0), .slot 11 (AJ (dC 32) a_3), .slot 12 (Ag .i64 (a_3.length : Int)), .slot 13 (Ag .i64 x11), .res (AK p_0 x12), .res (lb (b1 0) 33 [Af 32 x13]), .res (lb (b1 1) 33 [Af 32 (List.replicate 32 0)])] a w at h
  refine As mixed hn hG h [0, 1, 2, 3, 4, 5, 6, 500, 7, 8, 9] (ov [6, 5] (Ak Bl q0 q1) .nil) fun _ a w h => ?_
  refine wp_seq ?_
  refine CC h hF 7 [0, 1, 2, 3, 4, 5, 6, 8, 9, 10] [0, 1, 2, 3, 4, 5, 6, 8, 9, 10] (fun hb25 hF h => ?_) (fun hb25 hF h => ?_)
  ·refine wp_skip ?_
   show Code.wp prog _ _ a w
   refine wp_seq ?_
   refine wp_block ?_
   obtain ⟨hv26, hF⟩ := AF hF
   refine As mixed hn hG h [0, 1, 2, 3, 502, 4, 5, 6, 7, 8, 9, 500] (ov [4, 6] (AS underlying27 sizeOf33 (Bk 32) q0 q1 hv26) <| ov [500] (Bq [Af 32 (a_3.getD x11.toNat default)] [] isAgg33 sizeOf33 q0 rfl) <| ob [] (AR zeroValue33 FT) <| og [501, 502] [500] [.res 2 100000 (fun v1_ _ => (lb (v1_) 33 [Af 32 (a_3.getD x11.toNat default)]))] (AB.plain (Aq sizeOf33 q0 q1 (Ai _)) rfl) .nil) fun b27 a w h => ?_
   refine wp_seq ?_
   refine As mixed hn hG h [0, 1, 2, 3, 4, 5, 6, 7, 500, 8, 9, 10, 11] (ov [1] (Ab q0) <| ov [500] (Ak Ew q0 qi) <| ov [500] (Ak CI q0 qi) .nil) fun _ a w h => ?_
   refine wp_cut (fun a w => ∃ (x30 : List UInt8), ∃ (x31 : Option AD), Cj.j1 x10 x11 x30 x31 = some o ∧ AA c [.slot 0 (Az p_0), .slot 2 (Ag .i64 x10), .slot 5 (Av (b1 0) 0), .slot 8 (Av (b1 1) 0), .slot 11 (AJ (dC 32) a_3), .slot 12 (Ag .i64 (a_3.length : Int)), .slot 13 (Ag .i64 x11), .res (lb (b1 0) 33 [Af 32 x30]), .res (lb (b1 1) 33 [Af 32 (List.replicate 32 0)]), .res (AK p_0 x31)] a w) ?_ ?_
   ·refine CC h hF 8 [0, 1, 2, 3, 4, 5, 6, 7, 9, 10, 11, 12] [0, 1, 2, 3, 4, 5, 6, 7, 9, 10, 11, 12] (fun hb32 hF h => ?_) (fun hb32 hF h => ?_)
    ·obtain ⟨r33, hr33, hF⟩ := bind_some hF
     refine Cd mixed hn hG h [0, 1, 2, 3, 5, 6, 7, 500, 10, 501] (ov [0] (Ab q0) <| ov [4, 11] (An 1 isAgg33 sizeOf33 q0) <| ov [2, 9] (An 1 isAgg33 sizeOf33 q0) <| oc [502, 501, 500] [8] call86 (Ev hr33) ⟨q0, qi, q1, q2, trivial⟩ <| ou [2, 501] 9 (Aq sizeOf33 q0 q1 (Ai _)) .nil) fun _ a w h => ?_
     exact ⟨r33.1, r33.2, hF, h.sub [0, 1, 2, 3, 4, 5, 6, 7, 8, 9] (by rfl)⟩
    ·obtain ⟨r34, hr34, hF⟩ := bind_some hF
     refine Cd mixed hn hG h [0, 1, 2, 3, 5, 6, 7, 500, 10, 501] (ov [0] (Ab q0) <| ov [2, 9] (An 1 isAgg33 sizeOf33 q0) <| ov [4, 11] (An 1 isAgg33 sizeOf33 q0) <| oc [502, 501, 500] [8] call86 (Ev hr34) ⟨q0, qi, q1, q2, trivial⟩ <| ou [2, 501] 9 (Aq sizeOf33 q0 q1 (Ai _)) .nil) fun _ a w h => ?_
     exact ⟨r34.1, r34.2, hF, h.sub [0, 1, 2, 3, 4, 5, 6, 7, 8, 9] (by rfl)⟩
   ·clear h hF
    rintro a w ⟨x30, x31, hF, h⟩
    unfold Cj.j1 at hF
    show Code.wp prog _ _ a w
    refine Cd mixed hn hG h [0, 500, 2, 3, 4, 5, 6, 7, 8, 9] (ov [1] (Ab q0) <| ov [500] (Ak (Fp rfl) q0 qi) <| od [500] 1 (Ae q0) .nil) fun _ a w h => ?_
    show Code.wp prog _ _ a w
    refine Cd mixed hn hG h [0, 1, 2, 3, 4, 5, 500, 7, 8, 9] (ov [6] (Ak A9 q0 qi) <| od [500] 6 (Ab q0) .nil) fun _ a w h => ?_
    obtain rfl := Option.some.inj hF
    exact ⟨rfl, h.sub [0, 1, 2, 3, 4, 5, 6, 9, 7, 8] (by rfl)⟩
  ·refine wp_exit ?_
   obtain rfl := Option.some.inj hF
   exact ⟨BK _, rfl, h.sub [2, 3, 7, 8, 9] (by rfl)⟩
 ·clear hl36
  intro e a w hq
  cases cr35 with
  | ret r37 =>
   obtain ⟨rfl, hq⟩ := hq
   obtain rfl := Option.some.inj hF
   exact ⟨.inl rfl, hq⟩
  | next s38 =>
   obtain ⟨y39, y40, y41, y42⟩ := s38
   obtain ⟨rfl, h⟩ := hq
   change AA c [.slot 5 (Av (b1 0) 0), .slot 8 (Av (b1 1) 0), .res (AK p_0 y41), .res (lb (b1 0) 33 [Af 32 y42]), .res (lb (b1 1) 33 [Af 32 (List.replicate 32 0)])] a w at h
   refine Bd ?_
   show Code.wp prog _ _ a w
   refine As mixed hn hG h [1, 2, 500] (ov [0, 3] (An 1 isAgg33 sizeOf33 q0) <| ou [1, 500] 4 (Aq sizeOf33 q0 q1 (Ai _)) .nil) fun _ a w h => ?_
   refine wp_ret ?_
   obtain rfl := Option.some.inj hF
   exact ⟨.inl rfl, BW h results119 (Be 0 2 rfl rfl isAgg33 sizeOf33 rfl) [1] [(AK p_0 y41)] rfl rfl rfl⟩

def Ct.j2 (x9 : Bool) (x10 : Option AD) : Option (Bool × (Option AD)) := some (x9, x10)
def Ct.j1 (L_0 : Option AD) (a_1 : List UInt8) (a_2 : List UInt8) (a_3 : AE) (x4 : Bool) : Option (Bool × (Option AD)) := (if x4 = true then some (false, L_0) else ((BF L_0 a_2 a_3.Dl a_3.CZ).bind fun r6 => (if r6.2.1 = true then ((Cj r6.2.2 r6.1 a_3.Cc a_3.Dk).bind fun r8 => Ct.j2 (decide (r8.1 = a_1)) r8.2) else Ct.j2 false r6.2.2)))
def Ct (L_0 : Option AD) (a_1 : List UInt8) (a_2 : List UInt8) (a_3 : AE) : Option (Bool × (Option AD)) := (if (decide (a_3.Cc < (0 : Int))) = true then Ct.j1 L_0 a_1 a_2 a_3 true else (if (decide ((16 : Int) ≤ a_3.Cc)) = true then Ct.j1 L_0 a_1 a_2 a_3 true else Ct.j1 L_0 a_1 a_2 a_3 (!decide ((a_3.Dk.length : Int) = (4 : Int)))))
theorem HA {p_0 : Value} {L_0 : Option AD} {a_1 : List UInt8} {a_2 : List UInt8} {a_3 : AE} {r : Bool × (Option AD)} (hF : Ct L_0 a_1 a_2 a_3 = some r) : AH prog KG 98 [(Az p_0), (Au [Af 32 a_1]), (Au [Af 32 a_2]), (Au (AE.ck a_3))] [(AK p_0 L_0)] (fun _ => [AK p_0 r.2]) (AL r.1) := by
 refine AH.intro 47 func98 rfl ntmps98 (Nat.le_of_ble_eq_true rfl) ?_
 intro c a w hG hn h
 unfold Ct at hF
 change AA c [.slot 0 (Az p_0), .slot 1 (Au [Af 32 a_1]), .slot 2 (Au [Af 32 a_2]), .slot 3 (Au (AE.ck a_3)), .res (AK p_0 L_0)] a w at h
 refine As mixed hn hG h [0, 506, 504, 502, 4, 505, 503, 501] (ob [1] (Bc q0 (Ai _)) <| ob [2] (Bc q0 (Ai _)) <| ob [3] (Bc q0 (Ai _)) <| ov [] (Ae qb) .nil) fun b1 a w h => ?_
 refine wp_seq ?_
 refine wp_seq ?_
 refine wp_cut (fun a w => ∃ (x4 : Bool), Ct.j1 L_0 a_1 a_2 a_3 x4 = some r ∧ AA c [.slot 0 (Az p_0), .slot 5 (Av (b1 0) 0), .slot 6 (Av (b1 1) 0), .slot 7 (Av (b1 2) 0), .slot 24 (AL x4), .res (AK p_0 L_0), .res (lb (b1 0) 33 [Af 32 a_1]), .res (lb (b1 1) 33 [Af 32 a_2]), .res (lb (b1 2) 69 (AE.ck a_3))] a w) ?_ ?_
 ·rcases Bool.eq_false_or_eq_true (decide (a_3.Cc < (0 : Int))) with hb12 | hb12
  ·replace hF := CQ hb12 hF
   refine Cd mixed hn hG h [0, 1, 2, 3, 500, 4, 5, 6, 7] (ov [3] (Ad (p := (b1 2)) (n := 1) 0 0 underlying69 rfl sizeOf3 (by decide) q0 rfl) <| ov [500, 7] (Aj [] ((AE.ck a_3).drop 1) 1 isAgg3 q0 rfl rfl) <| ov [500] (Ak Bl q0 qi) <| ov [500] (Ab q0) <| oe [500] [] (AB.At (want := false) hb12 rfl rfl rfl rfl) <| oe [501] [] (AB.At (want := false) hb12 rfl rfl rfl rfl) <| oe [502] [] (AB.At (want := false) hb12 rfl rfl rfl rfl) <| ov [503] (AU hb12 q0 qb) <| ov [500] (Ab q0) <| oe [500] [] (AB.At (want := false) rfl rfl rfl rfl rfl) <| oe [501] [] (AB.At (want := false) rfl rfl rfl rfl rfl) <| oe [502] [] (AB.At (want := false) rfl rfl rfl rfl rfl) <| oe [503] [] (AB.At (want := false) rfl rfl rfl rfl rfl) <| ov [504] (AU rfl q0 qb) .nil) fun _ a w h => ?_
   exact ⟨true, hF, h.sub [0, 1, 2, 3, 4, 5, 6, 7, 8] (by rfl)⟩
  ·replace hF := CT hb12 hF
   rcases Bool.eq_false_or_eq_true (decide ((16 : Int) ≤ a_3.Cc)) with hb13 | hb13
   ·replace hF := CQ hb13 hF
    refine Cd mixed hn hG h [0, 1, 2, 3, 500, 4, 5, 6, 7] (ov [3] (Ad (p := (b1 2)) (n := 1) 0 0 underlying69 rfl sizeOf3 (by decide) q0 rfl) <| ov [500, 7] (Aj [] ((AE.ck a_3).drop 1) 1 isAgg3 q0 rfl rfl) <| ov [500] (Ak Bl q0 qi) <| ov [500] (Ab q0) <| oe [500, 3] [] (AB.Aw hb12 rfl rfl rfl (Ad (p := (b1 2)) (n := 1) 0 0 underlying69 rfl sizeOf3 (by decide) q0 rfl)) <| oe [501, 500, 7] [] (AB.Aw hb12 rfl rfl rfl (Aj [] ((AE.ck a_3).drop 1) 1 isAgg3 q0 rfl rfl)) <| oe [502, 500] [] (AB.Aw hb12 rfl rfl rfl (Ak Ef q0 qi)) <| ov [503, 500] (AV hb12 q0 q1) <| ov [500] (Ab q0) <| oe [500] [] (AB.At (want := false) hb13 rfl rfl rfl rfl) <| oe [501] [] (AB.At (want := false) hb13 rfl rfl rfl rfl) <| oe [502] [] (AB.At (want := false) hb13 rfl rfl rfl rfl) <| oe [503] [] (AB.At (want := false) hb13 rfl rfl rfl rfl) <| ov [504] (AU hb13 q0 qb) .nil) fun _ a w h => ?_
    exact ⟨true, hF, h.sub [0, 1, 2, 3, 4, 5, 6, 7, 8] (by rfl)⟩
   ·replace hF := CT hb13 hF
    refine Cd mixed hn hG h [0, 1, 2, 3, 500, 4, 5, 6, 7] (ov [3] (Ad (p := (b1 2)) (n := 1) 0 0 underlying69 rfl sizeOf3 (by decide) q0 rfl) <| ov [500, 7] (Aj [] ((AE.ck a_3).drop 1) 1 isAgg3 q0 rfl rfl) <| ov [500] (Ak Bl q0 qi) <| ov [500] (Ab q0) <| oe [500, 3] [] (AB.Aw hb12 rfl rfl rfl (Ad (p := (b1 2)) (n := 1) 0 0 underlying69 rfl sizeOf3 (by decide) q0 rfl)) <| oe [501, 500, 7] [] (AB.Aw hb12 rfl rfl rfl (Aj [] ((AE.ck a_3).drop 1) 1 isAgg3 q0 rfl rfl)) <| oe [502, 500] [] (AB.Aw hb12 rfl rfl rfl (Ak Ef q0 qi)) <| ov [503, 500] (AV hb12 q0 q1) <| ov [500] (Ab q0) <| oe [500, 3] [] (AB.Aw hb13 rfl rfl rfl (Ad (p := (b1 2)) (n := 1) 0 3 underlying69 rfl sizeOf27 (by decide) q0 rfl)) <| oe [501, 500, 7] [] (AB.Aw hb13 rfl rfl rfl (Aj ((AE.ck a_3).take 3) [] 1 isAgg27 q0 rfl rfl)) <| oe [502, 500] [] (AB.Aw hb13 rfl rfl rfl (A6 underlying27 q0)) <| oe [503, 500] [] (AB.Aw hb13 rfl rfl rfl (Ak Bg q0 qi)) <| ov [504, 500] (AV hb13 q0 q1) .nil) fun _ a w h => ?_
    exact ⟨!decide ((a_3.Dk.length : Int) = (4 : Int)), hF, h.sub [0, 1, 2, 3, 4, 5, 6, 7, 8] (by rfl)⟩
 ·clear h hF
  rintro a w ⟨x4, hF, h⟩
  unfold Ct.j1 at hF
  show Code.wp prog _ _ a w
  refine CC h hF 4 [5] [0, 1, 2, 3, 5, 6, 7, 8] (fun hb5 hF h => ?_) (fun hb5 hF h => ?_)
  ·refine As mixed hn hG h [500, 0] (ov [] (Ae qb) .nil) fun _ a w h => ?_
   refine wp_ret ?_
   obtain rfl := Option.some.inj hF
   exact ⟨.inl rfl, BW h results98 (Ba 0 rfl) [1] [(AK p_0 L_0)] rfl rfl rfl⟩
  ·refine wp_skip ?_
   show Code.wp prog _ _ a w
   obtain ⟨r6, hr6, hF⟩ := bind_some hF
   refine As mixed hn hG h [0, 1, 3, 503, 500, 5, 7, 507, 501] (ov [0] (Ab q0) <| ov [2, 6] (An 1 isAgg33 sizeOf33 q0) <| ov [3] (Ad (p := (b1 2)) (n := 1) 0 1 underlying69 rfl sizeOf27 (by decide) q0 rfl) <| ov [500, 7] (Aj [one (Ag .i64 a_3.Cc)] ((AE.ck a_3).drop 2) 1 isAgg27 q0 rfl rfl) <| ov [3] (Ad (p := (b1 2)) (n := 1) 0 2 underlying69 rfl sizeOf27 (by decide) q0 rfl) <| ov [500, 7] (Aj ((AE.ck a_3).take 2) [one (AJ (dC 32) a_3.Dk)] 1 isAgg27 q0 rfl rfl) <| oc [505, 504, 502, 500] [4] call118 (IF hr6) ⟨q0, q1, q2, q3, trivial⟩ <| ov [501] (Ab q0) <| ov [500] (A5 q0 rfl) <| ov [501] (A5 q0 rfl) <| ob [] (AR zeroValue33 FT) <| og [501, 503] [500] [.res 10 100000 (fun v1_ _ => (lb (v1_) 33 [Af 32 r6.1]))] (AB.plain (Aq sizeOf33 q0 q1 (Ai _)) rfl) <| ov [503] (Ae q0) .nil) fun b7 a w h => ?_
   refine wp_seq ?_
   refine wp_cut (fun a w => ∃ (x9 : Bool), ∃ (x10 : Option AD), Ct.j2 x9 x10 = some r ∧ AA c [.slot 8 (AL x9), .res (AK p_0 x10)] a w) ?_ ?_
   ·rcases Bool.eq_false_or_eq_true r6.2.1 with hb11 | hb11
    ·replace hF := CQ hb11 hF
     obtain ⟨r8, hr8, hF⟩ := bind_some hF
     refine Cd mixed hn hG h [500, 504] (ov [4] (Ab q0) <| ov [500] (Ab q0) <| oe [500, 0] [] (AB.Aw hb11 rfl rfl rfl (Ab q0)) <| oe [501, 3, 8] [] (AB.Aw hb11 rfl rfl rfl (An 1 isAgg33 sizeOf33 q0)) <| oe [502, 2] [] (AB.Aw hb11 rfl rfl rfl (Ad (p := (b1 2)) (n := 1) 0 0 underlying69 rfl sizeOf3 (by decide) q0 rfl)) <| oe [503, 500, 6] [] (AB.Aw hb11 rfl rfl rfl (Aj [] ((AE.ck a_3).drop 1) 1 isAgg3 q0 rfl rfl)) <| oe [504, 2] [] (AB.Aw hb11 rfl rfl rfl (Ad (p := (b1 2)) (n := 1) 0 3 underlying69 rfl sizeOf27 (by decide) q0 rfl)) <| oe [505, 500, 6] [] (AB.Aw hb11 rfl rfl rfl (Aj ((AE.ck a_3).take 3) [] 1 isAgg27 q0 rfl rfl)) <| oe [506, 505, 504, 502, 500] [7] (AB.Aw hb11 rfl rfl rfl (Gc call119 (KT hr8) ⟨q0, q1, q2, q3, trivial⟩)) <| oe [508, 1, 5] [] (AB.Aw hb11 rfl rfl rfl (An 1 isAgg33 sizeOf33 q0)) <| oe [509, 502, 500] [] (AB.Aw hb11 rfl rfl rfl (Ak (EF underlying33 underlying5 type5 sizeOf5 isAgg5 eqGuardType33) q0 q1)) <| ov [510, 500] (AU hb11 q0 q1) <| ov [500] (Ae q0) .nil) fun _ a w h => ?_
     exact ⟨decide (r8.1 = a_1), r8.2, hF, h.sub [0, 1] (by rfl)⟩
    ·replace hF := CT hb11 hF
     refine Cd mixed hn hG h [500, 7] (ov [4] (Ab q0) <| ov [500] (Ab q0) <| oe [500] [] (AB.At (want := true) hb11 rfl rfl rfl rfl) <| oe [501] [] (AB.At (want := true) hb11 rfl rfl rfl rfl) <| oe [502] [] (AB.At (want := true) hb11 rfl rfl rfl rfl) <| oe [503] [] (AB.At (want := true) hb11 rfl rfl rfl rfl) <| oe [504] [] (AB.At (want := true) hb11 rfl rfl rfl rfl) <| oe [505] [] (AB.At (want := true) hb11 rfl rfl rfl rfl) <| oe [506] [] (AB.At (want := true) hb11 rfl rfl rfl rfl) <| oe [507] [] (AB.At (want := true) hb11 rfl rfl rfl rfl) <| oe [508] [] (AB.At (want := true) hb11 rfl rfl rfl rfl) <| ov [509] (AV hb11 q0 qb) <| ov [500] (Ae q0) .nil) fun _ a w h => ?_
     exact ⟨false, r6.2.2, hF, h.sub [0, 1] (by rfl)⟩
   ·clear h hF
    rintro a w ⟨x9, x10, hF, h⟩
    unfold Ct.j2 at hF
    show Code.wp prog _ _ a w
    refine wp_ret ?_
    obtain rfl := Option.some.inj hF
    exact ⟨.inl rfl, BW h results98 (Ba 0 rfl) [1] [(AK p_0 x10)] rfl rfl rfl⟩

def E6 (L_0 : Option AD) (a_1 : List UInt8) (a_2 : AI) : Option (Bool × (Option AD)) := ((EI L_0 a_2.B0 a_2.Eu a_2.BN).bind fun r3 => ((Ct r3.2 a_1 r3.1 a_2.C1).bind fun r4 => some (r4.1, r4.2)))
theorem Ju {p_0 : Value} {L_0 : Option AD} {a_1 : List UInt8} {a_2 : AI} {r : Bool × (Option AD)} (hF : E6 L_0 a_1 a_2 = some r) : AH prog KG 90 [(Az p_0), (Au [Af 32 a_1]), (Au (AI.ck a_2))] [(AK p_0 L_0)] (fun _ => [AK p_0 r.2]) (AL r.1) := by
 refine AH.intro 20 func90 rfl ntmps90 (Nat.le_of_ble_eq_true rfl) ?_
 intro c a w hG hn h
 unfold E6 at hF
 change AA c [.slot 0 (Az p_0), .slot 1 (Au [Af 32 a_1]), .slot 2 (Au (AI.ck a_2)), .res (AK p_0 L_0)] a w at h
 refine As mixed hn hG h [0, 504, 502, 3, 503, 501] (ob [1] (Bc q0 (Ai _)) <| ob [2] (Bc q0 (Ai _)) <| ov [] (Ae qb) .nil) fun b1 a w h => ?_
 obtain ⟨r3, hr3, hF⟩ := bind_some hF
 obtain ⟨r4, hr4, hF⟩ := bind_some hF
 refine As mixed hn hG h [500, 501] (ov [0] (Ab q0) <| ov [1, 4] (An 1 isAgg33 sizeOf33 q0) <| ov [0] (Ab q0) <| ov [2] (Ad (p := (b1 1)) (n := 1) 0 0 underlying71 rfl sizeOf29 (by decide) q0 rfl) <| ov [500, 5] (Aj [] ((AI.ck a_2).drop 1) 1 isAgg29 q0 rfl rfl) <| ov [2] (Ad (p := (b1 1)) (n := 32) 0 1 underlying71 rfl sizeOf33 (by decide) q0 rfl) <| ov [500, 5] (AT [one (Ag .u32 a_2.B0)] [Af 32 a_2.Eu] ((AI.ck a_2).drop 2) 1 isAgg33 sizeOf33 q0 rfl rfl rfl) <| ov [2] (Ad (p := (b1 1)) (n := 32) 0 33 underlying71 rfl sizeOf33 (by decide) q0 rfl) <| ov [500, 5] (AT ((AI.ck a_2).take 2) [Af 32 a_2.BN] (AE.ck a_2.C1) 1 isAgg33 sizeOf33 q0 rfl rfl rfl) <| oc [506, 504, 502, 500] [3] call48 (Hb hr3) ⟨q0, q1, q2, q3, trivial⟩ <| ov [2] (Ad (p := (b1 1)) (n := 4) 0 65 underlying71 rfl sizeOf69 (by decide) q0 rfl) <| ov [500, 5] (AT ((AI.ck a_2).take 3) (AE.ck a_2.C1) [] 1 isAgg69 sizeOf69 q0 rfl rfl rfl) <| oc [512, 511, 503, 500] [502] call98 (HA hr4) ⟨q0, q1, q2, q3, trivial⟩ <| ov [501] (Ae q0) .nil) fun _ a w h => ?_
 refine wp_ret ?_
 obtain rfl := Option.some.inj hF
 exact ⟨.inl rfl, BW h results90 (Ba 0 rfl) [1] [(AK p_0 r4.2)] rfl rfl rfl⟩

def Eo (L_0 : Option AD) (a_1 : Aa) (a_2 : AI) : Option (Int × (Option AD)) := ((Cy a_1).bind fun r3 => (if (!decide (r3 = (0 : Int))) = true then some (r3, L_0) else (if (!decide (a_2.B0 = a_1.AX)) = true then some (38, L_0) else (if (!decide (a_2.Eu = a_1.AN)) = true then some (32, L_0) else ((E6 L_0 a_1.AQ a_2).bind fun r7 => (if (!r7.1) = true then some (21, r7.2) else some (0, r7.2)))))))
theorem H4 {p_0 : Value} {L_0 : Option AD} {a_1 : Aa} {a_2 : AI} {r : Int × (Option AD)} (hF : Eo L_0 a_1 a_2 = some r) : AH prog KG 49 [(Az p_0), (Au (Aa.ck a_1)), (Au (AI.ck a_2))] [(AK p_0 L_0)] (fun _ => [AK p_0 r.2]) (Ag .i64 r.1) := by
 refine AH.intro 32 func49 rfl ntmps49 (Nat.le_of_ble_eq_true rfl) ?_
 intro c a w hG hn h
 unfold Eo at hF
 change AA c [.slot 0 (Az p_0), .slot 1 (Au (Aa.ck a_1)), .slot 2 (Au (AI.ck a_2)), .res (AK p_0 L_0)] a w at h
 refine As mixed hn hG h [0, 504, 502, 3, 503, 501] (ob [1] (Bc q0 (Ai _)) <| ob [2] (Bc q0 (Ai _)) <| ov [] (Ae qi) .nil) fun b1 a w h => ?_
 refine wp_seq ?_
 obtain ⟨r3, hr3, hF⟩ := bind_some hF
 refine As mixed hn hG h [0, 1, 2, 500, 3, 4, 5] (ov [1, 4] (An 1 isAgg41 sizeOf41 q0) <| oc [500] [] call56 (FV hr3) ⟨q0, trivial⟩ <| ov [500] (Ae q0) .nil) fun _ a w h => ?_
 refine As mixed hn hG h [0, 1, 2, 3, 500, 4, 5, 6] (ov [3] (Ab q0) <| ov [500] (Ak Bg q0 qi) .nil) fun _ a w h => ?_
 refine CC h hF 4 [3, 5] [0, 1, 2, 5, 6, 7] (fun hb4 hF h => ?_) (fun hb4 hF h => ?_)
 ·refine As mixed hn hG h [500, 1] (ov [0] (Ab q0) <| ov [500] (Ae q0) .nil) fun _ a w h => ?_
  refine wp_ret ?_
  obtain rfl := Option.some.inj hF
  exact ⟨.inl rfl, BW h results49 (Ba 0 rfl) [1] [(AK p_0 L_0)] rfl rfl rfl⟩
 ·refine wp_skip ?_
  show Code.wp prog _ _ a w
  refine wp_seq ?_
  refine wp_block ?_
  refine As mixed hn hG h [0, 1, 2, 500, 3, 4, 5] (ov [2] (Ad (p := (b1 1)) (n := 1) 0 0 underlying71 rfl sizeOf29 (by decide) q0 rfl) <| ov [500, 5] (Aj [] ((AI.ck a_2).drop 1) 1 isAgg29 q0 rfl rfl) <| ov [1] (Ad (p := (b1 0)) (n := 1) 0 0 underlying41 rfl sizeOf29 (by decide) q0 rfl) <| ov [500, 4] (Aj [] ((Aa.ck a_1).drop 1) 1 isAgg29 q0 rfl rfl) <| ov [502, 500] (Ak Bg q0 q1) <| ov [500] (Ae q0) .nil) fun _ a w h => ?_
  refine CC h hF 3 [4] [0, 1, 2, 4, 5, 6] (fun hb5 hF h => ?_) (fun hb5 hF h => ?_)
  ·refine As mixed hn hG h [500, 0] (ov [] (Ae qi) .nil) fun _ a w h => ?_
   refine wp_ret ?_
   obtain rfl := Option.some.inj hF
   exact ⟨.inl rfl, BW h results49 (Ba 0 rfl) [1] [(AK p_0 L_0)] rfl rfl rfl⟩
  ·refine As mixed hn hG h [0, 1, 2, 500, 3, 4, 5] (ov [2] (Ad (p := (b1 1)) (n := 32) 0 1 underlying71 rfl sizeOf33 (by decide) q0 rfl) <| ov [500, 5] (AT [one (Ag .u32 a_2.B0)] [Af 32 a_2.Eu] ((AI.ck a_2).drop 2) 1 isAgg33 sizeOf33 q0 rfl rfl rfl) <| ov [1] (Ad (p := (b1 0)) (n := 32) 0 36 underlying41 rfl sizeOf33 (by decide) q0 rfl) <| ov [500, 4] (AT ((Aa.ck a_1).take 5) [Af 32 a_1.AN] ((Aa.ck a_1).drop 6) 1 isAgg33 sizeOf33 q0 rfl rfl rfl) <| ov [502, 500] (Ak (Dm underlying33 underlying5 type5 sizeOf5 isAgg5 eqGuardType33) q0 q1) <| ov [500] (Ae q0) .nil) fun _ a w h => ?_
   refine CC h hF 3 [4] [0, 1, 2, 4, 5, 6] (fun hb6 hF h => ?_) (fun hb6 hF h => ?_)
   ·refine As mixed hn hG h [500, 0] (ov [] (Ae qi) .nil) fun _ a w h => ?_
    refine wp_ret ?_
    obtain rfl := Option.some.inj hF
    exact ⟨.inl rfl, BW h results49 (Ba 0 rfl) [1] [(AK p_0 L_0)] rfl rfl rfl⟩
   ·obtain ⟨r7, hr7, hF⟩ := bind_some hF
    refine As mixed hn hG h [500, 502] (ov [0] (Ab q0) <| ov [1] (Ad (p := (b1 0)) (n := 32) 0 2 underlying41 rfl sizeOf33 (by decide) q0 rfl) <| ov [500, 4] (AT ((Aa.ck a_1).take 2) [Af 32 a_1.AQ] ((Aa.ck a_1).drop 3) 1 isAgg33 sizeOf33 q0 rfl rfl rfl) <| ov [2, 5] (An 1 isAgg71 sizeOf71 q0) <| oc [503, 501, 500] [3] call90 (Ju hr7) ⟨q0, q1, q2, trivial⟩ <| ov [501] (EO (Ec _) q0) <| ov [500] (Ae q0) .nil) fun _ a w h => ?_
    refine CC h hF 0 [1] [1] (fun hb8 hF h => ?_) (fun hb8 hF h => ?_)
    ·refine As mixed hn hG h [500, 0] (ov [] (Ae qi) .nil) fun _ a w h => ?_
     refine wp_ret ?_
     obtain rfl := Option.some.inj hF
     exact ⟨.inl rfl, BW h results49 (Ba 0 rfl) [1] [(AK p_0 r7.2)] rfl rfl rfl⟩
    ·refine wp_skip ?_
     show Code.wp prog _ _ a w
     refine As mixed hn hG h [500, 0] (ov [] (Ae qi) .nil) fun _ a w h => ?_
     refine wp_ret ?_
     obtain rfl := Option.some.inj hF
     exact ⟨.inl rfl, BW h results49 (Ba 0 rfl) [1] [(AK p_0 r7.2)] rfl rfl rfl⟩

def G8 (a_0 : Int) (a_1 : Int) : Option (Int × Int) := (if (decide (((a_0 + a_1 + 0) / 18446744073709551616) = (0 : Int))) = true then some ((a_0 + a_1 + 0) % 18446744073709551616, 0) else some (0, 10))
theorem KW {a_0 : Int} {a_1 : Int} {r : Int × Int} (hF : G8 a_0 a_1 = some r) : AH prog KG 51 [(Ag .u64 a_0), (Ag .u64 a_1)] [] (fun _ => []) (Db [(Ag .u64 r.1), (Ag .i64 r.2)]) := by
 refine AH.intro 17 func51 rfl ntmps51 (Nat.le_of_ble_eq_true rfl) ?_
 intro c a w hG hn h
 unfold G8 at hF
 change AA c [.slot 0 (Ag .u64 a_0), .slot 1 (Ag .u64 a_1)] a w at h
 refine As mixed hn hG h [0, 1] (ov [] (Ae qi) <| ov [] (Ae qi) .nil) fun _ a w h => ?_
 refine wp_seq ?_
 refine As mixed hn hG h [501, 500] (ov [0] (Ab q0) <| ov [1] (Ab q0) <| ov [501, 500] (O3 Ow q0 q1 qi (by decide)) <| ov [500] (Ab q0) <| ov [500] (A5 q0 rfl) <| ov [501] (A5 q0 rfl) <| ov [501] (Ae q0) <| ov [501] (Ae q0) .nil) fun _ a w h => ?_
 refine As mixed hn hG h [0, 500] (ov [1] (Ab q0) <| ov [500] (Ak CI q0 qi) .nil) fun _ a w h => ?_
 refine CC h hF 1 [0] [] (fun hb1 hF h => ?_) (fun hb1 hF h => ?_)
 ·refine As mixed hn hG h [501, 500] (ov [0] (Ab q0) <| ov [500] (Ae q0) <| ov [] (Ae qi) .nil) fun _ a w h => ?_
  refine wp_ret ?_
  obtain rfl := Option.some.inj hF
  exact ⟨.inl rfl, CJ h (rs := [.tmp 4, .tmp 5]) (Vs := [(Ag .u64 ((a_0 + a_1 + 0) % 18446744073709551616)), (Ag .i64 0)]) results51 (by decide) ⟨(Ba 0 rfl), (Ba 1 rfl), trivial⟩ [] [] rfl rfl rfl⟩
 ·refine wp_skip ?_
  show Code.wp prog _ _ a w
  refine As mixed hn hG h [501, 500] (ov [] (Ae qi) <| ov [] (Ae qi) .nil) fun _ a w h => ?_
  refine wp_ret ?_
  obtain rfl := Option.some.inj hF
  exact ⟨.inl rfl, CJ h (rs := [.tmp 4, .tmp 5]) (Vs := [(Ag .u64 0), (Ag .i64 10)]) results51 (by decide) ⟨(Ba 0 rfl), (Ba 1 rfl), trivial⟩ [] [] rfl rfl rfl⟩

def C3 (a_0 : List (Ao)) : Option (List (Ao)) := (if a_0.length * 40 ≤ 140737488355328 then some a_0 else none)
theorem KH {a_0 r : List (Ao)} (hF : C3 a_0 = some r) : AH prog KG 52 [(AJ Ao.ck a_0)] [] (fun _ => []) (AJ Ao.ck r) := by
 unfold C3 at hF
 obtain ⟨hv1, hF⟩ := AF hF
 obtain rfl := Option.some.inj hF
 refine AH.intro 8 func52 rfl ntmps52 (Nat.le_of_ble_eq_true rfl) ?_
 intro c a w hG hn h
 change AA c [.slot 0 (AJ Ao.ck a_0)] a w at h
 refine wp_seq ?_
 refine Co (n := 8) [.slot 2 100000 100000 (fun _ _ => (Az (.slice none 0 0)))] [0] [⟨[], [], [1], [], some 2⟩] [0] mixed hn hG h (by kernel_rfl) ?_ ?_
 ·exact ⟨⟨rfl, fun β => (AB.plain (Ae (D2 (ec _))) rfl)⟩, trivial⟩
 clear h
 intro β a w h
 change AA c [.slot 0 (AJ Ao.ck a_0)] a w at h
 clear β
 show Code.wp prog _ _ a w
 refine wp_seq ?_
 refine wp_seq ?_
 refine Co (n := 8) [.slot 3 100000 100000 (fun _ _ => (AJ Ao.ck a_0)), .slot 4 100000 100000 (fun _ _ => (Fg a_0))] [0, 1] [⟨[0], [], [1], [], some 3⟩, ⟨[1], [], [2], [0], some 4⟩] [0, 2] mixed hn hG h (by kernel_rfl) ?_ ?_
 ·exact ⟨⟨rfl, fun β => (AB.plain (Ab (opt 0 rfl)) rfl)⟩, ⟨rfl, fun β => (AB.plain (Ak (Gj underlying38) (opt 0 rfl) (D2 (ec _))) rfl)⟩, trivial⟩
 clear h
 intro β a w h
 change AA c [.slot 0 (AJ Ao.ck a_0), .slot 4 (Fg a_0)] a w at h
 clear β
 show Code.wp prog _ _ a w
 obtain ⟨b0, hb0, h⟩ := h.Oi 1 rfl
 change AA c [.slot 0 (AJ Ao.ck a_0), .slot 4 (AL b0)] a w at h
 refine Gx h 1 rfl (fun hb => ?_) (fun hb => ?_)
 ·obtain rfl := hb0 hb
  replace h := h.sub [] (by rfl)
  change AA c [] a w at h
  refine wp_seq ?_
  refine Co (n := 8) [.slot 2 100000 100000 (fun _ _ => (Az (.slice none 0 0)))] [0] [⟨[], [], [0], [], some 2⟩] [0] mixed hn hG h (by kernel_rfl) ?_ ?_
  ·exact ⟨⟨rfl, fun β => (AB.plain (Ae (D2 (ec _))) rfl)⟩, trivial⟩
  clear h
  intro β a w h
  change AA c [.slot 2 (Az (.slice none 0 0))] a w at h
  clear β
  show Code.wp prog _ _ a w
  refine wp_ret ?_
  exact ⟨.inl rfl, BW h results52 (Mf 0 rfl) [] [] rfl rfl rfl⟩
 ·replace h := h.sub [0] (by rfl)
  change AA c [.slot 0 (AJ Ao.ck a_0)] a w at h
  refine wp_skip ?_
  show Code.wp prog _ _ a w
  refine wp_seq ?_
  refine Co (n := 8) [.slot 5 100000 100000 (fun _ _ => MA), .slot 6 100000 100000 (fun _ _ => (AJ Ao.ck a_0)), .slot 7 100000 100000 (fun _ _ => (AJ Ao.ck a_0)), .slot 2 100000 100000 (fun _ _ => (AJ Ao.ck a_0))] [0, 1, 2, 3] [⟨[], [], [1], [], some 5⟩, ⟨[0], [], [2], [0], some 6⟩, ⟨[1, 2], [], [3], [0, 1], some 7⟩, ⟨[3], [], [4], [0, 1, 2], some 2⟩] [4] mixed hn hG h (by kernel_rfl) ?_ ?_
  ·exact ⟨⟨rfl, fun β => (AB.plain (LA underlying38 sizeOf37 zeroValue37) rfl)⟩, ⟨rfl, fun β => (AB.plain (Ab (opt 0 rfl)) rfl)⟩, ⟨rfl, fun β => (AB.plain (GJ (i := t37) underlying38 type37 rfl Ao.lens (by decide) rfl (opt 0 rfl) (opt 1 rfl) hv1) rfl)⟩, ⟨rfl, fun β => (AB.plain (Ae (opt 0 rfl)) rfl)⟩, trivial⟩
  clear h
  intro β a w h
  change AA c [.slot 2 (AJ Ao.ck a_0)] a w at h
  clear β
  show Code.wp prog _ _ a w
  refine wp_ret ?_
  exact ⟨.inl rfl, BW h results52 (Ba 0 rfl) [] [] rfl rfl rfl⟩
theorem Gl {a_0 r : List (Ao)} (hF : C3 a_0 = some r) : AH prog KG 52 [(AJ Ao.ck a_0)] [] (fun v => [own v 37 33 Ao.ck r]) NR := by
 unfold C3 at hF
 obtain ⟨hv1, hF⟩ := AF hF
 obtain rfl := Option.some.inj hF
 refine AH.intro 8 func52 rfl ntmps52 (Nat.le_of_ble_eq_true rfl) ?_
 intro c a w hG hn h
 change AA c [.slot 0 (AJ Ao.ck a_0)] a w at h
 have hm : a_0.length ≤ CW := h.OJ 0 rfl (fun _ _ q => q.1)
 refine wp_seq ?_
 refine Co (n := 8) [.slot 2 100000 100000 (fun _ _ => (Az (.slice none 0 0)))] [0] [⟨[], [], [1], [], some 2⟩] [0] mixed hn hG h (by kernel_rfl) ?_ ?_
 ·exact ⟨⟨rfl, fun β => (AB.plain (Ae (D2 (ec _))) rfl)⟩, trivial⟩
 clear h
 intro β a w h
 change AA c [.slot 0 (AJ Ao.ck a_0)] a w at h
 clear β
 show Code.wp prog _ _ a w
 refine wp_seq ?_
 refine wp_seq ?_
 refine Co (n := 8) [.slot 3 100000 100000 (fun _ _ => (AJ Ao.ck a_0)), .slot 4 100000 100000 (fun _ _ => (Fg a_0))] [0, 1] [⟨[0], [], [1], [], some 3⟩, ⟨[1], [], [2], [0], some 4⟩] [0, 2] mixed hn hG h (by kernel_rfl) ?_ ?_
 ·exact ⟨⟨rfl, fun β => (AB.plain (Ab (opt 0 rfl)) rfl)⟩, ⟨rfl, fun β => (AB.plain (Ak (Gj underlying38) (opt 0 rfl) (D2 (ec _))) rfl)⟩, trivial⟩
 clear h
 intro β a w h
 change AA c [.slot 0 (AJ Ao.ck a_0), .slot 4 (Fg a_0)] a w at h
 clear β
 show Code.wp prog _ _ a w
 obtain ⟨b0, hb0, h⟩ := h.Oi 1 rfl
 change AA c [.slot 0 (AJ Ao.ck a_0), .slot 4 (AL b0)] a w at h
 refine Gx h 1 rfl (fun hb => ?_) (fun hb => ?_)
 ·obtain rfl := hb0 hb
  replace h := h.sub [] (by rfl)
  change AA c [] a w at h
  refine wp_seq ?_
  refine Co (n := 8) [.slot 2 100000 100000 (fun _ _ => (Az (.slice none 0 0)))] [0] [⟨[], [], [0], [], some 2⟩] [0] mixed hn hG h (by kernel_rfl) ?_ ?_
  ·exact ⟨⟨rfl, fun β => (AB.plain (Ae (D2 (ec _))) rfl)⟩, trivial⟩
  clear h
  intro β a w h
  change AA c [.slot 2 (Az (.slice none 0 0))] a w at h
  clear β
  replace h := h.Nc 37 33 Ao.ck
  show Code.wp prog _ _ a w
  refine wp_ret ?_
  exact ⟨.inl rfl, K4 (p := .slice none 0 0) h results52 (Ba 0 rfl) [1] _ rfl rfl rfl⟩
 ·replace h := h.sub [0] (by rfl)
  change AA c [.slot 0 (AJ Ao.ck a_0)] a w at h
  refine wp_skip ?_
  show Code.wp prog _ _ a w
  refine wp_seq ?_
  refine Co (n := 8) [.slot 5 0 100000 (fun v _ => (Az v)), .res 0 100000 (fun v _ => (own v 37 33 Ao.ck ([] : List (Ao)))), .slot 6 100000 100000 (fun _ _ => (AJ Ao.ck a_0)), .slot 7 2 100000 (fun v _ => (Az v)), .res 2 100000 (fun v _ => (own v 37 33 Ao.ck (([] : List (Ao)) ++ a_0))), .slot 2 2 100000 (fun v _ => (Az v))] [0, 0, 1, 2, 2, 3] [⟨[], [], [1, 2], [], some 5⟩, ⟨[0], [], [3], [0], some 6⟩, ⟨[1, 3], [2], [4, 5], [0, 1], some 7⟩, ⟨[4], [], [6], [0, 1, 2], some 2⟩] [6, 5] mixed hn hG h (by kernel_rfl) ?_ ?_
  ·exact ⟨⟨rfl, fun β => (AB.plain (Kh underlying38 sizeOf37 zeroValue37) rfl)⟩, ⟨rfl, fun β => (AB.plain (Ab (opt 0 rfl)) rfl)⟩, ⟨rfl, fun β => (AB.plain (Ff (i := t37) underlying38 type37 rfl Ao.lens (by decide) rfl (opt 0 rfl) (opt 1 rfl) ⟨by simpa using hm, by rw [List.length_nil, Nat.zero_add]; exact hv1⟩) rfl)⟩, ⟨rfl, fun β => (AB.plain (Ae (V := Az (β 2)) (opt 0 rfl)) rfl)⟩, trivial⟩
  clear h
  intro β a w h
  change AA c [.slot 2 (Az (β 2)), .res (own (β 2) 37 33 Ao.ck a_0)] a w at h
  generalize β 2 = p at h
  clear β
  show Code.wp prog _ _ a w
  refine wp_ret ?_
  exact ⟨.inl rfl, K4 (p := p) h results52 (Ba 0 rfl) [1] _ rfl rfl rfl⟩
end Go.Proofs.YteboiefnflipjaaGreatDoor
