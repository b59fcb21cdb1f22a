/- The functions' Lean twins and contracts, printed by this session's own program: part 5. -/
import Derived.Test.YteboiefnflipjaaGreatDoorG4
namespace Go.Proofs.YteboiefnflipjaaGreatDoor
open _root_.Go.Proofs.Tryz
open Go Go.RowKit Go.Proofs
set_option maxRecDepth 100000
set_option maxHeartbeats 4000000
set_option linter.unusedVariables false
set_option linter.unusedSimpArgs false
def BU.j2 (x23 : Int) (x24 : List (Al)) (x42 : Bool) (x43 : Al) : Option (Cn Aa (Bool × Int × (List (Al)))) := (if x24.length + [x43].length ≤ CW ∧ (x24.length + [x43].length) * 72 ≤ 140737488355328 then some (.cont (x42, IntKind.wrap .i64 (x23 + 1), x24 ++ [x43])) else none)
def BU.j1 (a_0 : Aa) (a_1 : Al) (x22 : Bool) (x23 : Int) (x24 : List (Al)) (x41 : Bool) : Option (Cn Aa (Bool × Int × (List (Al)))) := (if x41 = true then BU.j2 x23 x24 true a_1 else BU.j2 x23 x24 x22 (a_0.Ah.getD x23.toNat default))
def BU.b1 (a_0 : Aa) (a_1 : Al) (x22 : Bool) (x23 : Int) (x24 : List (Al)) : Option (Cn Aa (Bool × Int × (List (Al)))) := (if (decide (x23 < (a_0.Ah.length : Int))) = true then (if (0 : Int) ≤ x23 ∧ x23 < a_0.Ah.length then (if (decide (((a_0.Ah.getD x23.toNat default).BJ) = a_1.BJ)) = true then BU.j1 a_0 a_1 x22 x23 x24 (!x22) else BU.j1 a_0 a_1 x22 x23 x24 false) else none) else some (.brk (x22, x23, x24)))
def BU.j3 (a_0 : Aa) (x57 : List (Al)) : Option Aa := some (Aa.mk a_0.AX a_0.BC a_0.AQ a_0.AP a_0.A4 a_0.AN a_0.Ay x57 a_0.Bj a_0.BR)
def BU (a_0 : Aa) (a_1 : Al) : Option Aa := ((Bu (fun s : Bool × Int × (List (Al)) => BU.b1 a_0 a_1 s.1 s.2.1 s.2.2) (((a_0.Ah.length : Int) - 0 : Int).toNat + 2) (false, 0, [])).bind fun cr => match cr with | .ret r => some r | .next (y52, y53, y54) => (if (!y52) = true then (if y54.length + [a_1].length ≤ CW ∧ (y54.length + [a_1].length) * 72 ≤ 140737488355328 then BU.j3 a_0 (y54 ++ [a_1]) else none) else BU.j3 a_0 y54))
theorem Iv {a_0 : Aa} {a_1 : Al} {r : Aa} (hF : BU a_0 a_1 = some r) : AH prog KG 63 [(Au (Aa.ck a_0)), (Au (Al.ck a_1))] [] (fun _ => []) (Au (Aa.ck r)) := by
 refine AH.intro 40 func63 rfl ntmps63 (Nat.le_of_ble_eq_true rfl) ?_
 intro c a w hG hn h
 unfold BU at hF
 change AA c [.slot 0 (Au (Aa.ck a_0)), .slot 1 (Au (Al.ck a_1))] a w at h
 refine As mixed hn hG h [505, 503, 501, 504, 502, 500] (ob [0] (Bc q0 (Ai _)) <| ob [1] (Bc q0 (Ai _)) <| ob [] (AR zeroValue41 MN) .nil) fun b1 a w h => ?_
 refine As mixed hn hG h [0, 1, 2, 500, 3, 4, 5] (ov [] (Ae (D2 (ec _))) .nil) fun _ a w h => ?_
 refine As mixed hn hG h [0, 1, 2, 3, 500, 4, 5, 6] (ov [] (Ae qb) .nil) fun _ a w h => ?_
 refine wp_seq ?_
 refine As mixed hn hG h [0, 1, 2, 3, 4, 502, 501, 500, 5, 6, 7] (ov [0] (Ad (p := (b1 0)) (n := 1) 0 69 underlying41 rfl sizeOf39 (by decide) q0 rfl) <| ov [500, 5] (Aj ((Aa.ck a_0).take 7) ((Aa.ck a_0).drop 8) 1 isAgg39 q0 rfl rfl) <| ov [500] (A6 underlying39 q0) <| ov [] (Ab qi) .nil) fun _ a w h => ?_
 refine wp_block ?_
 obtain ⟨q13, h⟩ : ∃ q13 : Value, AA c [.slot 2 (Av (b1 0) 0), .slot 3 (Av (b1 1) 0), .slot 4 (Av (b1 2) 0), .slot 5 (Az q13), .slot 6 (AL false), .slot 10 (AJ Al.ck a_0.Ah), .slot 11 (Ag .i64 (a_0.Ah.length : Int)), .slot 12 (Ag .i64 0), .res (lb (b1 0) 41 (Aa.ck a_0)), .res (lb (b1 1) 110 (Al.ck a_1)), .res (lb (b1 2) 41 (Aa.ck (Aa.mk (0 : Int) (0 : Int) (List.replicate 32 0) [] (0 : Int) (List.replicate 32 0) [] [] false false))), .res (acc q13 110 65 Al.ck [])] a w := ⟨.slice none 0 0, (h.Fh 110 65 Al.ck).sub [0, 1, 2, 3, 4, 5, 6, 7, 8, 9, 10, 11] (by rfl)⟩
 obtain ⟨cr48, hl49, hF⟩ := bind_some hF
 refine wp_mono (Bx (R := Aa) (S := Bool × Int × (List (Al))) (fun s a w => ∃ q25 : Value, AA c [.slot 2 (Av (b1 0) 0), .slot 3 (Av (b1 1) 0), .slot 4 (Av (b1 2) 0), .slot 5 (Az q25), .slot 6 (AL s.1), .slot 10 (AJ Al.ck a_0.Ah), .slot 11 (Ag .i64 (a_0.Ah.length : Int)), .slot 12 (Ag .i64 s.2.1), .res (lb (b1 0) 41 (Aa.ck a_0)), .res (lb (b1 1) 110 (Al.ck a_1)), .res (lb (b1 2) 41 (Aa.ck (Aa.mk (0 : Int) (0 : Int) (List.replicate 32 0) [] (0 : Int) (List.replicate 32 0) [] [] false false))), .res (acc q25 110 65 Al.ck s.2.2)] a w) (fun res e a w => match res with | .next s => e = .exit 0 ∧ ∃ q25 : Value, AA c [.slot 2 (Av (b1 0) 0), .slot 3 (Av (b1 1) 0), .slot 4 (Av (b1 2) 0), .slot 5 (Az q25), .slot 6 (AL s.1), .res (lb (b1 0) 41 (Aa.ck a_0)), .res (lb (b1 1) 110 (Al.ck a_1)), .res (lb (b1 2) 41 (Aa.ck (Aa.mk (0 : Int) (0 : Int) (List.replicate 32 0) [] (0 : Int) (List.replicate 32 0) [] [] false false))), .res (acc q25 110 65 Al.ck s.2.2)] a w | .ret r => e = .ret ∧ Cu prog f63 c (Au (Aa.ck r)) (fun _ => []) a w) ?_ _ (false, 0, []) _ _ _ ⟨q13, (h.sub [0, 1, 2, 3, 4, 5, 6, 7, 8, 9, 10, 11] (by rfl))⟩ hl49) ?_
 ·clear hl49 hF h
  intro s a w o h hF
  obtain ⟨x22, x23, x24⟩ := s
  obtain ⟨q25, h⟩ := h
  change BU.b1 a_0 a_1 x22 x23 x24 = some o at hF
  unfold BU.b1 at hF
  change AA c [.slot 2 (Av (b1 0) 0), .slot 3 (Av (b1 1) 0), .slot 4 (Av (b1 2) 0), .slot 5 (Az q25), .slot 6 (AL x22), .slot 10 (AJ Al.ck a_0.Ah), .slot 11 (Ag .i64 (a_0.Ah.length : Int)), .slot 12 (Ag .i64 x23), .res (lb (b1 0) 41 (Aa.ck a_0)), .res (lb (b1 1) 110 (Al.ck a_1)), .res (lb (b1 2) 41 (Aa.ck (Aa.mk (0 : Int) (0 : Int) (List.replicate 32 0) [] (0 : Int) (List.replicate 32 0) [] [] false false))), .res (acc q25 110 65 Al.ck x24)] a w at h
  refine As mixed hn hG h [0, 1, 2, 3, 4, 5, 6, 7, 500, 8, 9, 10, 11] (ov [7, 6] (Ak Bl q0 q1) .nil) fun _ a w h => ?_
  refine wp_seq ?_
  refine CC h hF 8 [0, 1, 2, 3, 4, 5, 6, 7, 9, 10, 11, 12] [0, 1, 2, 3, 4, 5, 6, 7, 9, 10, 11, 12] (fun hb38 hF h => ?_) (fun hb38 hF h => ?_)
  ·refine wp_skip ?_
   show Code.wp prog _ _ a w
   refine wp_seq ?_
   refine wp_block ?_
   obtain ⟨hv39, hF⟩ := AF hF
   refine As mixed hn hG h [0, 1, 2, 3, 4, 502, 5, 6, 7, 8, 9, 10, 11, 500] (ov [5, 7] (AS underlying39 sizeOf110 Al.lens q0 q1 hv39) <| ov [500] (Bq (Al.ck (a_0.Ah.getD x23.toNat default)) [] isAgg110 sizeOf110 q0 rfl) <| ob [] (AR zeroValue110 LU) <| og [501, 502] [500] [.res 2 100000 (fun v1_ _ => (lb (v1_) 110 (Al.ck (a_0.Ah.getD x23.toNat default))))] (AB.plain (Aq sizeOf110 q0 q1 (Ai _)) rfl) .nil) fun b40 a w h => ?_
   refine wp_seq ?_
   refine wp_seq ?_
   refine wp_cut (fun a w => ∃ (x41 : Bool), BU.j1 a_0 a_1 x22 x23 x24 x41 = some o ∧ AA c [.slot 2 (Av (b1 0) 0), .slot 3 (Av (b1 1) 0), .slot 4 (Av (b1 2) 0), .slot 5 (Az q25), .slot 6 (AL x22), .slot 8 (Av (b40 2) 0), .slot 10 (AJ Al.ck a_0.Ah), .slot 11 (Ag .i64 (a_0.Ah.length : Int)), .slot 12 (Ag .i64 x23), .slot 24 (AL x41), .res (lb (b1 0) 41 (Aa.ck a_0)), .res (lb (b1 1) 110 (Al.ck a_1)), .res (lb (b1 2) 41 (Aa.ck (Aa.mk (0 : Int) (0 : Int) (List.replicate 32 0) [] (0 : Int) (List.replicate 32 0) [] [] false false))), .res (acc q25 110 65 Al.ck x24), .res (lb (b40 2) 110 (Al.ck (a_0.Ah.getD x23.toNat default)))] a w) ?_ ?_
   ·rcases Bool.eq_false_or_eq_true (decide (((a_0.Ah.getD x23.toNat default).BJ) = a_1.BJ)) with hb47 | hb47
    ·replace hF := CQ hb47 hF
     refine Cd mixed hn hG h [0, 1, 2, 3, 4, 5, 6, 7, 8, 500, 9, 10, 11, 12, 13] (ov [5] (Ad (p := (b40 2)) (n := 32) 0 0 underlying110 rfl sizeOf33 (by decide) q0 rfl) <| ov [500, 13] (AT [] [Af 32 ((a_0.Ah.getD x23.toNat default).BJ)] ((Al.ck (a_0.Ah.getD x23.toNat default)).drop 1) 1 isAgg33 sizeOf33 q0 rfl rfl rfl) <| ov [1] (Ad (p := (b1 1)) (n := 32) 0 0 underlying110 rfl sizeOf33 (by decide) q0 rfl) <| ov [500, 10] (AT [] [Af 32 a_1.BJ] ((Al.ck a_1).drop 1) 1 isAgg33 sizeOf33 q0 rfl rfl rfl) <| ov [502, 500] (Ak (EF underlying33 underlying5 type5 sizeOf5 isAgg5 eqGuardType33) q0 q1) <| ov [500] (Ab q0) <| oe [500, 4] [] (AB.Aw hb47 rfl rfl rfl (Ab q0)) <| oe [501, 500] [] (AB.Aw hb47 rfl rfl rfl (EO (Ec _) q0)) <| ov [502, 500] (AU hb47 q0 q1) .nil) fun _ a w h => ?_
     exact ⟨!x22, hF, h.sub [0, 1, 2, 3, 4, 5, 6, 7, 8, 9, 10, 11, 12, 13, 14] (by rfl)⟩
    ·replace hF := CT hb47 hF
     refine Cd mixed hn hG h [0, 1, 2, 3, 4, 5, 6, 7, 8, 500, 9, 10, 11, 12, 13] (ov [5] (Ad (p := (b40 2)) (n := 32) 0 0 underlying110 rfl sizeOf33 (by decide) q0 rfl) <| ov [500, 13] (AT [] [Af 32 ((a_0.Ah.getD x23.toNat default).BJ)] ((Al.ck (a_0.Ah.getD x23.toNat default)).drop 1) 1 isAgg33 sizeOf33 q0 rfl rfl rfl) <| ov [1] (Ad (p := (b1 1)) (n := 32) 0 0 underlying110 rfl sizeOf33 (by decide) q0 rfl) <| ov [500, 10] (AT [] [Af 32 a_1.BJ] ((Al.ck a_1).drop 1) 1 isAgg33 sizeOf33 q0 rfl rfl rfl) <| ov [502, 500] (Ak (EF underlying33 underlying5 type5 sizeOf5 isAgg5 eqGuardType33) q0 q1) <| ov [500] (Ab q0) <| oe [500] [] (AB.At (want := true) hb47 rfl rfl rfl rfl) <| oe [501] [] (AB.At (want := true) hb47 rfl rfl rfl rfl) <| ov [502] (AV hb47 q0 qb) .nil) fun _ a w h => ?_
     exact ⟨false, hF, h.sub [0, 1, 2, 3, 4, 5, 6, 7, 8, 9, 10, 11, 12, 13, 14] (by rfl)⟩
   ·clear h hF
    rintro a w ⟨x41, hF, h⟩
    unfold BU.j1 at hF
    show Code.wp prog _ _ a w
    refine wp_cut (fun a w => ∃ (x42 : Bool), ∃ (x43 : Al), BU.j2 x23 x24 x42 x43 = some o ∧ AA c [.slot 2 (Av (b1 0) 0), .slot 3 (Av (b1 1) 0), .slot 4 (Av (b1 2) 0), .slot 5 (Az q25), .slot 6 (AL x42), .slot 8 (Av (b40 2) 0), .slot 10 (AJ Al.ck a_0.Ah), .slot 11 (Ag .i64 (a_0.Ah.length : Int)), .slot 12 (Ag .i64 x23), .res (lb (b1 0) 41 (Aa.ck a_0)), .res (lb (b1 1) 110 (Al.ck a_1)), .res (lb (b1 2) 41 (Aa.ck (Aa.mk (0 : Int) (0 : Int) (List.replicate 32 0) [] (0 : Int) (List.replicate 32 0) [] [] false false))), .res (acc q25 110 65 Al.ck x24), .res (lb (b40 2) 110 (Al.ck x43))] a w) ?_ ?_
    ·refine CC h hF 9 [0, 1, 2, 3, 5, 6, 7, 8, 10, 11, 12, 13, 14] [0, 1, 2, 3, 4, 5, 6, 7, 8, 10, 11, 12, 13, 14] (fun hb46 hF h => ?_) (fun hb46 hF h => ?_)
     ·refine As mixed hn hG h [0, 1, 2, 3, 4, 5, 6, 7, 8, 9, 10, 11, 500] (ov [1, 9] (An 1 isAgg110 sizeOf110 q0) <| ou [4, 500] 12 (Aq sizeOf110 q0 q1 (Ai _)) .nil) fun _ a w h => ?_
      refine Cd mixed hn hG h [0, 1, 2, 3, 500, 4, 5, 6, 7, 8, 9, 10, 11, 12] (ov [] (Ae qb) .nil) fun _ a w h => ?_
      exact ⟨true, a_1, hF, h.sub [0, 1, 2, 3, 4, 5, 6, 7, 8, 9, 10, 11, 12, 13] (by rfl)⟩
     ·refine wp_skip ?_
      exact ⟨x22, a_0.Ah.getD x23.toNat default, hF, h.sub [0, 1, 2, 3, 4, 5, 6, 7, 8, 9, 10, 11, 12, 13] (by rfl)⟩
    ·clear h hF
     rintro a w ⟨x42, x43, hF, h⟩
     unfold BU.j2 at hF
     show Code.wp prog _ _ a w
     obtain ⟨hv44, hF⟩ := AF hF
     refine Cd mixed hn hG h [0, 1, 2, 500, 4, 6, 7, 8, 9, 10, 11, 501] (ov [3] (Ab q0) <| ov [5, 13] (An 1 isAgg110 sizeOf110 q0) <| ov [500] (CP (xs := [.tmp 27]) (ys := [x43]) _ rfl underlying39 sizeOf110 zeroValue110 rfl rfl (by decide) (by decide) ⟨⟨_, q0, (Ai _)⟩, trivial⟩ Al.lens) <| og [502, 500] [12] [.slot 29 3 100000 (fun v1_ _ => (Az v1_)), .res 3 100000 (fun v1_ _ => (acc (v1_) 110 65 Al.ck (x24 ++ [x43])))] (AB.plain (CL (i := t110) underlying39 type110 rfl Al.lens (by decide) rfl q0 q1 hv44) rfl) <| og [501] [3] [.slot 5 3 100000 (fun v1_ _ => (Az v1_))] (fun {β} => (AB.drop _ (AB.plain (Ae (V := (Az (β 3))) q0) rfl))) .nil) fun b45 a w h => ?_
     show Code.wp prog _ _ a w
     refine Cd mixed hn hG h [0, 1, 2, 3, 4, 5, 6, 500, 8, 9, 10, 11] (ov [7] (Ak A9 q0 qi) <| od [500] 7 (Ab q0) .nil) fun _ a w h => ?_
     obtain rfl := Option.some.inj hF
     exact ⟨rfl, (b45 3), h.sub [0, 1, 2, 3, 4, 5, 6, 7, 8, 9, 10, 11] (by rfl)⟩
  ·refine wp_exit ?_
   obtain rfl := Option.some.inj hF
   exact ⟨BK _, rfl, q25, h.sub [0, 1, 2, 3, 4, 8, 9, 10, 11] (by rfl)⟩
 ·clear hl49
  intro e a w hq
  cases cr48 with
  | ret r50 =>
   obtain ⟨rfl, hq⟩ := hq
   obtain rfl := Option.some.inj hF
   exact ⟨.inl rfl, hq⟩
  | next s51 =>
   obtain ⟨y52, y53, y54⟩ := s51
   obtain ⟨rfl, q25, h⟩ := hq
   change AA c [.slot 2 (Av (b1 0) 0), .slot 3 (Av (b1 1) 0), .slot 4 (Av (b1 2) 0), .slot 5 (Az q25), .slot 6 (AL y52), .res (lb (b1 0) 41 (Aa.ck a_0)), .res (lb (b1 1) 110 (Al.ck a_1)), .res (lb (b1 2) 41 (Aa.ck (Aa.mk (0 : Int) (0 : Int) (List.replicate 32 0) [] (0 : Int) (List.replicate 32 0) [] [] false false))), .res (acc q25 110 65 Al.ck y54)] a w at h
   refine Bd ?_
   show Code.wp prog _ _ a w
   refine wp_seq ?_
   refine As mixed hn hG h [0, 1, 2, 3, 500, 5, 6, 7, 8] (ov [4] (Ab q0) <| ov [500] (EO (Ec _) q0) .nil) fun _ a w h => ?_
   refine wp_cut (fun a w => ∃ (x57 : List (Al)), ∃ q58 : Value, BU.j3 a_0 x57 = some r ∧ AA c [.slot 2 (Av (b1 0) 0), .slot 4 (Av (b1 2) 0), .slot 5 (Az q58), .res (lb (b1 0) 41 (Aa.ck a_0)), .res (lb (b1 2) 41 (Aa.ck (Aa.mk (0 : Int) (0 : Int) (List.replicate 32 0) [] (0 : Int) (List.replicate 32 0) [] [] false false))), .res (acc q58 110 65 Al.ck x57)] a w) ?_ ?_
   ·refine CC h hF 4 [0, 1, 2, 3, 5, 6, 7, 8] [0, 2, 3, 5, 7, 8] (fun hb59 hF h => ?_) (fun hb59 hF h => ?_)
    ·obtain ⟨hv60, hF⟩ := AF hF
     refine Cd mixed hn hG h [0, 2, 500, 4, 6, 501] (ov [3] (Ab q0) <| ov [1, 5] (An 1 isAgg110 sizeOf110 q0) <| ov [500] (CP (xs := [.tmp 34]) (ys := [a_1]) _ rfl underlying39 sizeOf110 zeroValue110 rfl rfl (by decide) (by decide) ⟨⟨_, q0, (Ai _)⟩, trivial⟩ Al.lens) <| og [502, 500] [7] [.slot 36 3 100000 (fun v1_ _ => (Az v1_)), .res 3 100000 (fun v1_ _ => (acc (v1_) 110 65 Al.ck (y54 ++ [a_1])))] (AB.plain (CL (i := t110) underlying39 type110 rfl Al.lens (by decide) rfl q0 q1 hv60) rfl) <| og [501] [3] [.slot 5 3 100000 (fun v1_ _ => (Az v1_))] (fun {β} => (AB.drop _ (AB.plain (Ae (V := (Az (β 3))) q0) rfl))) .nil) fun b61 a w h => ?_
     exact ⟨y54 ++ [a_1], (b61 3), hF, h.sub [0, 1, 2, 3, 4, 5] (by rfl)⟩
    ·refine wp_skip ?_
     exact ⟨y54, q25, hF, h.sub [0, 1, 2, 3, 4, 5] (by rfl)⟩
   ·clear h hF
    rintro a w ⟨x57, q58, hF, h⟩
    unfold BU.j3 at hF
    show Code.wp prog _ _ a w
    refine As mixed hn hG h [0, 1, 500, 4] (ov [2] (Ab q0) <| ov [0] (Ad (p := (b1 0)) (n := 1) 0 69 underlying41 rfl sizeOf39 (by decide) q0 rfl) <| ou [500, 501, 5] 3 (B8 ((Aa.ck a_0).take 7) [one (AJ Al.ck a_0.Ah)] ((Aa.ck a_0).drop 8) [one (AJ Al.ck x57)] sizeOf39 q0 (HV 1 2 rfl rfl) (AG (H9 _ _)) rfl rfl rfl) .nil) fun _ a w h => ?_
    refine As mixed hn hG h [1, 500] (ov [0, 2] (An 1 isAgg41 sizeOf41 q0) <| ou [1, 500] 3 (Aq sizeOf41 q0 q1 (Ai _)) .nil) fun _ a w h => ?_
    refine wp_ret ?_
    obtain rfl := Option.some.inj hF
    exact ⟨.inl rfl, BW h results63 (Be 0 1 rfl rfl isAgg41 sizeOf41 rfl) [] [] rfl rfl rfl⟩

def Dq.j1 (a_1 : Aa) (a_3 : List UInt8) (r7 : (List UInt8) × (Option A2)) (x14 : Bool) : Option (Aa × Int × (Option A2)) := (if x14 = true then some (a_1, 6, r7.2) else ((BU a_1 (Al.mk a_3 1 r7.1)).bind fun r16 => some (r16, 0, r7.2)))
def Dq (L_0 : Option A2) (a_1 : Aa) (a_2 : Int) (a_3 : List UInt8) (a_4 : Int) (a_5 : List (List UInt8)) : Option (Aa × Int × (Option A2)) := (if a_1.Bj = true then some (a_1, 30, L_0) else (if a_1.BR = true then some (a_1, 34, L_0) else (if (!decide ((a_5.length : Int) = (32 : Int))) = true then some (a_1, 35, L_0) else ((BS L_0 a_3 a_4 a_5).bind fun r7 => ((BA a_1 r7.1 a_2).bind fun r9 => (if (!decide (r9 = (0 : Int))) = true then some (a_1, r9, r7.2) else ((Cr a_1 a_3).bind fun r11 => (if (decide (r11.1 = (2 : Int))) = true then some (a_1, 37, r7.2) else ((CM a_1 a_3).bind fun r13 => (if (!r13) = true then Dq.j1 a_1 a_3 r7 (decide ((4095 : Int) < (a_1.Ah.length : Int))) else Dq.j1 a_1 a_3 r7 false))))))))))
theorem J1 {p_0 : Value} {L_0 : Option A2} {a_1 : Aa} {a_2 : Int} {a_3 : List UInt8} {a_4 : Int} {a_5 : List (List UInt8)} {r : Aa × Int × (Option A2)} (hF : Dq L_0 a_1 a_2 a_3 a_4 a_5 = some r) : AH prog KG 24 [(Az p_0), (Au (Aa.ck a_1)), (Ag .u64 a_2), (Au [Af 32 a_3]), (Ag .u32 a_4), (AJ (dC 32) a_5)] [(AZ p_0 L_0)] (fun _ => [AZ p_0 r.2.2]) (Db [(Au (Aa.ck r.1)), (Ag .i64 r.2.1)]) := by
 refine AH.intro 66 func24 rfl ntmps24 (Nat.le_of_ble_eq_true rfl) ?_
 intro c a w hG hn h
 unfold Dq at hF
 change AA c [.slot 0 (Az p_0), .slot 1 (Au (Aa.ck a_1)), .slot 2 (Ag .u64 a_2), .slot 3 (Au [Af 32 a_3]), .slot 4 (Ag .u32 a_4), .slot 5 (AJ (dC 32) a_5), .res (AZ p_0 L_0)] a w at h
 refine As mixed hn hG h [0, 2, 4, 5, 506, 504, 502, 6, 505, 503, 501] (ob [1] (Bc q0 (Ai _)) <| ob [3] (Bc q0 (Ai _)) <| ob [] (AR zeroValue41 MN) <| ov [] (Ae qi) .nil) fun b1 a w h => ?_
 refine wp_seq ?_
 refine As mixed hn hG h [0, 1, 2, 3, 4, 5, 6, 500, 7, 8, 9, 10] (ov [4] (Ad (p := (b1 0)) (n := 1) 0 70 underlying41 rfl sizeOf4 (by decide) q0 rfl) <| ov [500, 8] (Aj ((Aa.ck a_1).take 8) [one (AL a_1.BR)] 1 isAgg4 q0 rfl rfl) .nil) fun _ a w h => ?_
 refine CC h hF 7 [4, 6, 8, 9, 11] [0, 1, 2, 3, 4, 5, 6, 8, 9, 10, 11] (fun hb4 hF h => ?_) (fun hb4 hF h => ?_)
 ·refine As mixed hn hG h [1, 500, 2, 501] (ov [0, 3] (An 1 isAgg41 sizeOf41 q0) <| ou [1, 500] 4 (Aq sizeOf41 q0 q1 (Ai _)) <| ov [] (Ae qi) .nil) fun _ a w h => ?_
  refine wp_ret ?_
  obtain rfl := Option.some.inj hF
  exact ⟨.inl rfl, CJ h (rs := [.cell 12 41, .tmp 13]) (Vs := [(Au (Aa.ck a_1)), (Ag .i64 30)]) results24 (by decide) ⟨(Be 0 3 rfl rfl isAgg41 sizeOf41 rfl), (Ba 1 rfl), trivial⟩ [2] [(AZ p_0 L_0)] rfl rfl rfl⟩
 ·refine wp_skip ?_
  show Code.wp prog _ _ a w
  refine wp_seq ?_
  refine As mixed hn hG h [0, 1, 2, 3, 4, 5, 6, 500, 7, 8, 9, 10] (ov [4] (Ad (p := (b1 0)) (n := 1) 0 71 underlying41 rfl sizeOf4 (by decide) q0 rfl) <| ov [500, 8] (Aj ((Aa.ck a_1).take 9) [] 1 isAgg4 q0 rfl rfl) .nil) fun _ a w h => ?_
  refine CC h hF 7 [4, 6, 8, 9, 11] [0, 1, 2, 3, 4, 5, 6, 8, 9, 10, 11] (fun hb5 hF h => ?_) (fun hb5 hF h => ?_)
  ·refine As mixed hn hG h [1, 500, 2, 501] (ov [0, 3] (An 1 isAgg41 sizeOf41 q0) <| ou [1, 500] 4 (Aq sizeOf41 q0 q1 (Ai _)) <| ov [] (Ae qi) .nil) fun _ a w h => ?_
   refine wp_ret ?_
   obtain rfl := Option.some.inj hF
   exact ⟨.inl rfl, CJ h (rs := [.cell 12 41, .tmp 13]) (Vs := [(Au (Aa.ck a_1)), (Ag .i64 34)]) results24 (by decide) ⟨(Be 0 3 rfl rfl isAgg41 sizeOf41 rfl), (Ba 1 rfl), trivial⟩ [2] [(AZ p_0 L_0)] rfl rfl rfl⟩
  ·refine wp_skip ?_
   show Code.wp prog _ _ a w
   refine wp_seq ?_
   refine As mixed hn hG h [0, 1, 2, 3, 4, 5, 6, 500, 7, 8, 9, 10] (ov [3] (Ab q0) <| ov [500] (A6 underlying27 q0) <| ov [500] (Ak Bg q0 qi) .nil) fun _ a w h => ?_
   refine CC h hF 7 [4, 6, 8, 9, 11] [0, 1, 2, 3, 4, 5, 6, 8, 9, 10, 11] (fun hb6 hF h => ?_) (fun hb6 hF h => ?_)
   ·refine As mixed hn hG h [1, 500, 2, 501] (ov [0, 3] (An 1 isAgg41 sizeOf41 q0) <| ou [1, 500] 4 (Aq sizeOf41 q0 q1 (Ai _)) <| ov [] (Ae qi) .nil) fun _ a w h => ?_
    refine wp_ret ?_
    obtain rfl := Option.some.inj hF
    exact ⟨.inl rfl, CJ h (rs := [.cell 12 41, .tmp 13]) (Vs := [(Au (Aa.ck a_1)), (Ag .i64 35)]) results24 (by decide) ⟨(Be 0 3 rfl rfl isAgg41 sizeOf41 rfl), (Ba 1 rfl), trivial⟩ [2] [(AZ p_0 L_0)] rfl rfl rfl⟩
   ·refine wp_skip ?_
    show Code.wp prog _ _ a w
    obtain ⟨r7, hr7, hF⟩ := bind_some hF
    refine As mixed hn hG h [1, 4, 5, 6, 502, 8, 9, 10, 503, 500] (ov [0] (Ab q0) <| ov [5, 9] (An 1 isAgg33 sizeOf33 q0) <| ov [2] (Ab q0) <| ov [3] (Ab q0) <| oc [503, 502, 501, 500] [7] call60 (J6 hr7) ⟨q0, q1, q2, q3, trivial⟩ <| ob [] (AR zeroValue33 FT) <| og [501, 503] [500] [.res 5 100000 (fun v1_ _ => (lb (v1_) 33 [Af 32 r7.1]))] (AB.plain (Aq sizeOf33 q0 q1 (Ai _)) rfl) .nil) fun b8 a w h => ?_
    obtain ⟨r9, hr9, hF⟩ := bind_some hF
    refine As mixed hn hG h [1, 2, 3, 4, 500, 5, 6, 7, 8, 9] (ov [1, 5] (An 1 isAgg41 sizeOf41 q0) <| ov [4, 9] (An 1 isAgg33 sizeOf33 q0) <| ov [0] (Ab q0) <| oc [502, 501, 500] [] call54 (FW hr9) ⟨q0, q1, q2, trivial⟩ <| ov [500] (Ae q0) .nil) fun _ a w h => ?_
    refine wp_seq ?_
    refine As mixed hn hG h [0, 1, 2, 3, 4, 500, 5, 6, 7, 8, 9] (ov [4] (Ab q0) <| ov [500] (Ak Bg q0 qi) .nil) fun _ a w h => ?_
    refine CC h hF 5 [0, 2, 4, 6, 8, 9] [0, 1, 2, 3, 6, 7, 8, 9, 10] (fun hb10 hF h => ?_) (fun hb10 hF h => ?_)
    ·refine As mixed hn hG h [1, 500, 501, 5] (ov [0, 3] (An 1 isAgg41 sizeOf41 q0) <| ov [2] (Ab q0) <| ou [1, 501] 4 (Aq sizeOf41 q0 q1 (Ai _)) <| ov [501] (Ae q0) .nil) fun _ a w h => ?_
     refine wp_ret ?_
     obtain rfl := Option.some.inj hF
     exact ⟨.inl rfl, CJ h (rs := [.cell 12 41, .tmp 13]) (Vs := [(Au (Aa.ck a_1)), (Ag .i64 r9)]) results24 (by decide) ⟨(Be 0 2 rfl rfl isAgg41 sizeOf41 rfl), (Ba 1 rfl), trivial⟩ [3] [(AZ p_0 r7.2)] rfl rfl rfl⟩
    ·refine wp_skip ?_
     show Code.wp prog _ _ a w
     obtain ⟨r11, hr11, hF⟩ := bind_some hF
     refine As mixed hn hG h [0, 1, 2, 3, 501, 4, 5, 6, 7, 8] (ov [0, 4] (An 1 isAgg41 sizeOf41 q0) <| ov [1, 5] (An 1 isAgg33 sizeOf33 q0) <| oc [501, 500] [] call61 (He hr11) ⟨q0, q1, trivial⟩ <| ov [500] (Ab q0) <| ov [500] (A5 q0 rfl) <| ov [501] (A5 q0 rfl) <| ob [] (AR zeroValue33 FT) <| ov [503] (Ae q0) <| og [502, 503] [501] [.res 6 100000 (fun v1_ _ => (lb (v1_) 33 [Af 32 r11.2]))] (AB.plain (Aq sizeOf33 q0 q1 (Ai _)) rfl) .nil) fun _ a w h => ?_
     refine wp_seq ?_
     refine As mixed hn hG h [0, 1, 2, 3, 500, 5, 6, 7, 8, 9] (ov [4] (Ab q0) <| ov [500] (Ak CI q0 qi) .nil) fun _ a w h => ?_
     refine CC h hF 4 [0, 2, 5, 7, 8] [0, 1, 2, 3, 5, 6, 7, 8, 9] (fun hb12 hF h => ?_) (fun hb12 hF h => ?_)
     ·refine As mixed hn hG h [1, 500, 501, 4] (ov [0, 2] (An 1 isAgg41 sizeOf41 q0) <| ou [1, 500] 3 (Aq sizeOf41 q0 q1 (Ai _)) <| ov [] (Ae qi) .nil) fun _ a w h => ?_
      refine wp_ret ?_
      obtain rfl := Option.some.inj hF
      exact ⟨.inl rfl, CJ h (rs := [.cell 12 41, .tmp 13]) (Vs := [(Au (Aa.ck a_1)), (Ag .i64 37)]) results24 (by decide) ⟨(Be 0 2 rfl rfl isAgg41 sizeOf41 rfl), (Ba 1 rfl), trivial⟩ [3] [(AZ p_0 r7.2)] rfl rfl rfl⟩
     ·refine wp_skip ?_
      show Code.wp prog _ _ a w
      refine wp_seq ?_
      refine wp_seq ?_
      obtain ⟨r13, hr13, hF⟩ := bind_some hF
      refine wp_cut (fun a w => ∃ (x14 : Bool), Dq.j1 a_1 a_3 r7 x14 = some r ∧ AA c [.slot 7 (Av (b1 0) 0), .slot 9 (Av (b1 1) 0), .slot 12 (Av (b1 2) 0), .slot 14 (Av (b8 5) 0), .slot 59 (AL x14), .res (lb (b1 0) 41 (Aa.ck a_1)), .res (lb (b1 1) 33 [Af 32 a_3]), .res (lb (b1 2) 41 (Aa.ck (Aa.mk (0 : Int) (0 : Int) (List.replicate 32 0) [] (0 : Int) (List.replicate 32 0) [] [] false false))), .res (AZ p_0 r7.2), .res (lb (b8 5) 33 [Af 32 r7.1])] a w) ?_ ?_
      ·rcases Bool.eq_false_or_eq_true (!r13) with hb17 | hb17
       ·replace hF := CQ hb17 hF
        refine Cd mixed hn hG h [0, 1, 2, 3, 500, 4, 5, 6, 7, 8] (ov [0, 4] (An 1 isAgg41 sizeOf41 q0) <| ov [1, 5] (An 1 isAgg33 sizeOf33 q0) <| oc [501, 500] [] call62 (Ht hr13) ⟨q0, q1, trivial⟩ <| ov [500] (EO (Ec _) q0) <| ov [500] (Ab q0) <| oe [500, 0] [] (AB.Aw hb17 rfl rfl rfl (Ad (p := (b1 0)) (n := 1) 0 69 underlying41 rfl sizeOf39 (by decide) q0 rfl)) <| oe [501, 500, 4] [] (AB.Aw hb17 rfl rfl rfl (Aj ((Aa.ck a_1).take 7) ((Aa.ck a_1).drop 8) 1 isAgg39 q0 rfl rfl)) <| oe [502, 500] [] (AB.Aw hb17 rfl rfl rfl (A6 underlying39 q0)) <| oe [503, 500] [] (AB.Aw hb17 rfl rfl rfl (Ak EW q0 qi)) <| ov [504, 500] (AU hb17 q0 q1) .nil) fun _ a w h => ?_
        exact ⟨decide ((4095 : Int) < (a_1.Ah.length : Int)), hF, h.sub [0, 1, 2, 3, 4, 5, 6, 7, 8, 9] (by rfl)⟩
       ·replace hF := CT hb17 hF
        refine Cd mixed hn hG h [0, 1, 2, 3, 500, 4, 5, 6, 7, 8] (ov [0, 4] (An 1 isAgg41 sizeOf41 q0) <| ov [1, 5] (An 1 isAgg33 sizeOf33 q0) <| oc [501, 500] [] call62 (Ht hr13) ⟨q0, q1, trivial⟩ <| ov [500] (EO (Ec _) q0) <| ov [500] (Ab q0) <| oe [500] [] (AB.At (want := true) hb17 rfl rfl rfl rfl) <| oe [501] [] (AB.At (want := true) hb17 rfl rfl rfl rfl) <| oe [502] [] (AB.At (want := true) hb17 rfl rfl rfl rfl) <| oe [503] [] (AB.At (want := true) hb17 rfl rfl rfl rfl) <| ov [504] (AV hb17 q0 qb) .nil) fun _ a w h => ?_
        exact ⟨false, hF, h.sub [0, 1, 2, 3, 4, 5, 6, 7, 8, 9] (by rfl)⟩
      ·clear h hF
       rintro a w ⟨x14, hF, h⟩
       unfold Dq.j1 at hF
       show Code.wp prog _ _ a w
       refine CC h hF 4 [0, 2, 5, 7, 8] [0, 1, 2, 3, 5, 6, 7, 8, 9] (fun hb15 hF h => ?_) (fun hb15 hF h => ?_)
       ·refine As mixed hn hG h [1, 500, 501, 4] (ov [0, 2] (An 1 isAgg41 sizeOf41 q0) <| ou [1, 500] 3 (Aq sizeOf41 q0 q1 (Ai _)) <| ov [] (Ae qi) .nil) fun _ a w h => ?_
        refine wp_ret ?_
        obtain rfl := Option.some.inj hF
        exact ⟨.inl rfl, CJ h (rs := [.cell 12 41, .tmp 13]) (Vs := [(Au (Aa.ck a_1)), (Ag .i64 6)]) results24 (by decide) ⟨(Be 0 2 rfl rfl isAgg41 sizeOf41 rfl), (Ba 1 rfl), trivial⟩ [3] [(AZ p_0 r7.2)] rfl rfl rfl⟩
       ·refine wp_skip ?_
        show Code.wp prog _ _ a w
        obtain ⟨r16, hr16, hF⟩ := bind_some hF
        refine As mixed hn hG h [2, 500, 501, 7] (ov [0, 4] (An 1 isAgg41 sizeOf41 q0) <| ov [1, 5] (An 1 isAgg33 sizeOf33 q0) <| ov [3, 8] (An 1 isAgg33 sizeOf33 q0) <| ov [501, 500] (Dw [(0, .tmp 62), (1, .const (.int .i64 1)), (2, .tmp 63)] rfl Pt LU ⟨[], [Af 32 (List.replicate 32 0)], [one (Ag .i64 (0 : Int)), Af 32 (List.replicate 32 0)], [Af 32 a_3], _, rfl, rfl, rfl, q0, (Ai _), ⟨[Af 32 a_3], [one (Ag .i64 (0 : Int))], [Af 32 (List.replicate 32 0)], [one (Ag .i64 1)], _, rfl, rfl, rfl, qi, (AG (A8 _ _)), ⟨[Af 32 a_3, one (Ag .i64 1)], [Af 32 (List.replicate 32 0)], [], [Af 32 r7.1], _, rfl, rfl, rfl, q1, (Ai _), rfl⟩⟩⟩) <| oc [503, 500] [] call63 (Iv hr16) ⟨q0, q1, trivial⟩ <| ou [2, 500] 6 (Aq sizeOf41 q0 q1 (Ai _)) <| ov [] (Ae qi) .nil) fun _ a w h => ?_
        refine wp_ret ?_
        obtain rfl := Option.some.inj hF
        exact ⟨.inl rfl, CJ h (rs := [.cell 12 41, .tmp 13]) (Vs := [(Au (Aa.ck r16)), (Ag .i64 0)]) results24 (by decide) ⟨(Be 0 2 rfl rfl isAgg41 sizeOf41 rfl), (Ba 1 rfl), trivial⟩ [3] [(AZ p_0 r7.2)] rfl rfl rfl⟩

def Dy.j1 (L_0 : Option A2) (a_1 : Aa) (a_2 : Int) (a_3 : Ar) (x6 : Bool) : Option (Aa × Int × (Option A2)) := (if x6 = true then some (a_1, 38, L_0) else ((Fx L_0 a_3).bind fun r8 => ((Cr a_1 r8.1).bind fun r10 => (if (!decide (r10.1 = (1 : Int))) = true then some (a_1, 37, r8.2) else ((BA a_1 r10.2 a_2).bind fun r13 => (if (!decide (r13 = (0 : Int))) = true then some (a_1, r13, r8.2) else ((BU a_1 (Al.mk r8.1 2 r10.2)).bind fun r15 => some (r15, 0, r8.2))))))))
def Dy (L_0 : Option A2) (a_1 : Aa) (a_2 : Int) (a_3 : Ar) : Option (Aa × Int × (Option A2)) := (if a_1.Bj = true then some (a_1, 30, L_0) else (if a_1.BR = true then some (a_1, 34, L_0) else (if (!decide (a_3.FQ = a_1.BC)) = true then Dy.j1 L_0 a_1 a_2 a_3 true else Dy.j1 L_0 a_1 a_2 a_3 (!decide (a_3.D3 = a_1.AX)))))
theorem KM {p_0 : Value} {L_0 : Option A2} {a_1 : Aa} {a_2 : Int} {a_3 : Ar} {r : Aa × Int × (Option A2)} (hF : Dy L_0 a_1 a_2 a_3 = some r) : AH prog KG 26 [(Az p_0), (Au (Aa.ck a_1)), (Ag .u64 a_2), (Au (Ar.ck a_3))] [(AZ p_0 L_0)] (fun _ => [AZ p_0 r.2.2]) (Db [(Au (Aa.ck r.1)), (Ag .i64 r.2.1)]) := by
 refine AH.intro 58 func26 rfl ntmps26 (Nat.le_of_ble_eq_true rfl) ?_
 intro c a w hG hn h
 unfold Dy at hF
 change AA c [.slot 0 (Az p_0), .slot 1 (Au (Aa.ck a_1)), .slot 2 (Ag .u64 a_2), .slot 3 (Au (Ar.ck a_3)), .res (AZ p_0 L_0)] a w at h
 refine As mixed hn hG h [0, 2, 506, 504, 502, 4, 505, 503, 501] (ob [1] (Bc q0 (Ai _)) <| ob [3] (Bc q0 (Ai _)) <| ob [] (AR zeroValue41 MN) <| ov [] (Ae qi) .nil) fun b1 a w h => ?_
 refine wp_seq ?_
 refine As mixed hn hG h [0, 1, 2, 3, 4, 500, 5, 6, 7, 8] (ov [2] (Ad (p := (b1 0)) (n := 1) 0 70 underlying41 rfl sizeOf4 (by decide) q0 rfl) <| ov [500, 6] (Aj ((Aa.ck a_1).take 8) [one (AL a_1.BR)] 1 isAgg4 q0 rfl rfl) .nil) fun _ a w h => ?_
 refine CC h hF 5 [2, 4, 6, 7, 9] [0, 1, 2, 3, 4, 6, 7, 8, 9] (fun hb4 hF h => ?_) (fun hb4 hF h => ?_)
 ·refine As mixed hn hG h [1, 500, 2, 501] (ov [0, 3] (An 1 isAgg41 sizeOf41 q0) <| ou [1, 500] 4 (Aq sizeOf41 q0 q1 (Ai _)) <| ov [] (Ae qi) .nil) fun _ a w h => ?_
  refine wp_ret ?_
  obtain rfl := Option.some.inj hF
  exact ⟨.inl rfl, CJ h (rs := [.cell 8 41, .tmp 9]) (Vs := [(Au (Aa.ck a_1)), (Ag .i64 30)]) results26 (by decide) ⟨(Be 0 3 rfl rfl isAgg41 sizeOf41 rfl), (Ba 1 rfl), trivial⟩ [2] [(AZ p_0 L_0)] rfl rfl rfl⟩
 ·refine wp_skip ?_
  show Code.wp prog _ _ a w
  refine wp_seq ?_
  refine As mixed hn hG h [0, 1, 2, 3, 4, 500, 5, 6, 7, 8] (ov [2] (Ad (p := (b1 0)) (n := 1) 0 71 underlying41 rfl sizeOf4 (by decide) q0 rfl) <| ov [500, 6] (Aj ((Aa.ck a_1).take 9) [] 1 isAgg4 q0 rfl rfl) .nil) fun _ a w h => ?_
  refine CC h hF 5 [2, 4, 6, 7, 9] [0, 1, 2, 3, 4, 6, 7, 8, 9] (fun hb5 hF h => ?_) (fun hb5 hF h => ?_)
  ·refine As mixed hn hG h [1, 500, 2, 501] (ov [0, 3] (An 1 isAgg41 sizeOf41 q0) <| ou [1, 500] 4 (Aq sizeOf41 q0 q1 (Ai _)) <| ov [] (Ae qi) .nil) fun _ a w h => ?_
   refine wp_ret ?_
   obtain rfl := Option.some.inj hF
   exact ⟨.inl rfl, CJ h (rs := [.cell 8 41, .tmp 9]) (Vs := [(Au (Aa.ck a_1)), (Ag .i64 34)]) results26 (by decide) ⟨(Be 0 3 rfl rfl isAgg41 sizeOf41 rfl), (Ba 1 rfl), trivial⟩ [2] [(AZ p_0 L_0)] rfl rfl rfl⟩
  ·refine wp_skip ?_
   show Code.wp prog _ _ a w
   refine wp_seq ?_
   refine wp_seq ?_
   refine wp_cut (fun a w => ∃ (x6 : Bool), Dy.j1 L_0 a_1 a_2 a_3 x6 = some r ∧ AA c [.slot 0 (Az p_0), .slot 2 (Ag .u64 a_2), .slot 5 (Av (b1 0) 0), .slot 7 (Av (b1 1) 0), .slot 8 (Av (b1 2) 0), .slot 31 (AL x6), .res (AZ p_0 L_0), .res (lb (b1 0) 41 (Aa.ck a_1)), .res (lb (b1 1) 31 (Ar.ck a_3)), .res (lb (b1 2) 41 (Aa.ck (Aa.mk (0 : Int) (0 : Int) (List.replicate 32 0) [] (0 : Int) (List.replicate 32 0) [] [] false false)))] a w) ?_ ?_
   ·rcases Bool.eq_false_or_eq_true (!decide (a_3.FQ = a_1.BC)) with hb16 | hb16
    ·replace hF := CQ hb16 hF
     refine Cd mixed hn hG h [0, 1, 2, 3, 4, 500, 5, 6, 7, 8] (ov [3] (Ad (p := (b1 1)) (n := 1) 0 2 underlying31 rfl sizeOf29 (by decide) q0 rfl) <| ov [500, 7] (Aj ((Ar.ck a_3).take 2) ((Ar.ck a_3).drop 3) 1 isAgg29 q0 rfl rfl) <| ov [2] (Ad (p := (b1 0)) (n := 1) 0 1 underlying41 rfl sizeOf29 (by decide) q0 rfl) <| ov [500, 6] (Aj [one (Ag .u32 a_1.AX)] ((Aa.ck a_1).drop 2) 1 isAgg29 q0 rfl rfl) <| ov [502, 500] (Ak Bg q0 q1) <| ov [500] (Ab q0) <| oe [500] [] (AB.At (want := false) hb16 rfl rfl rfl rfl) <| oe [501] [] (AB.At (want := false) hb16 rfl rfl rfl rfl) <| oe [502] [] (AB.At (want := false) hb16 rfl rfl rfl rfl) <| oe [503] [] (AB.At (want := false) hb16 rfl rfl rfl rfl) <| oe [504] [] (AB.At (want := false) hb16 rfl rfl rfl rfl) <| ov [505] (AU hb16 q0 qb) .nil) fun _ a w h => ?_
     exact ⟨true, hF, h.sub [0, 1, 2, 3, 4, 5, 6, 7, 8, 9] (by rfl)⟩
    ·replace hF := CT hb16 hF
     refine Cd mixed hn hG h [0, 1, 2, 3, 4, 500, 5, 6, 7, 8] (ov [3] (Ad (p := (b1 1)) (n := 1) 0 2 underlying31 rfl sizeOf29 (by decide) q0 rfl) <| ov [500, 7] (Aj ((Ar.ck a_3).take 2) ((Ar.ck a_3).drop 3) 1 isAgg29 q0 rfl rfl) <| ov [2] (Ad (p := (b1 0)) (n := 1) 0 1 underlying41 rfl sizeOf29 (by decide) q0 rfl) <| ov [500, 6] (Aj [one (Ag .u32 a_1.AX)] ((Aa.ck a_1).drop 2) 1 isAgg29 q0 rfl rfl) <| ov [502, 500] (Ak Bg q0 q1) <| ov [500] (Ab q0) <| oe [500, 3] [] (AB.Aw hb16 rfl rfl rfl (Ad (p := (b1 1)) (n := 1) 0 0 underlying31 rfl sizeOf29 (by decide) q0 rfl)) <| oe [501, 500, 7] [] (AB.Aw hb16 rfl rfl rfl (Aj [] ((Ar.ck a_3).drop 1) 1 isAgg29 q0 rfl rfl)) <| oe [502, 2] [] (AB.Aw hb16 rfl rfl rfl (Ad (p := (b1 0)) (n := 1) 0 0 underlying41 rfl sizeOf29 (by decide) q0 rfl)) <| oe [503, 500, 6] [] (AB.Aw hb16 rfl rfl rfl (Aj [] ((Aa.ck a_1).drop 1) 1 isAgg29 q0 rfl rfl)) <| oe [504, 502, 500] [] (AB.Aw hb16 rfl rfl rfl (Ak Bg q0 q1)) <| ov [505, 500] (AV hb16 q0 q1) .nil) fun _ a w h => ?_
     exact ⟨!decide (a_3.D3 = a_1.AX), hF, h.sub [0, 1, 2, 3, 4, 5, 6, 7, 8, 9] (by rfl)⟩
   ·clear h hF
    rintro a w ⟨x6, hF, h⟩
    unfold Dy.j1 at hF
    show Code.wp prog _ _ a w
    refine CC h hF 5 [2, 4, 6, 7, 9] [0, 1, 2, 3, 4, 6, 7, 8, 9] (fun hb7 hF h => ?_) (fun hb7 hF h => ?_)
    ·refine As mixed hn hG h [1, 500, 2, 501] (ov [0, 3] (An 1 isAgg41 sizeOf41 q0) <| ou [1, 500] 4 (Aq sizeOf41 q0 q1 (Ai _)) <| ov [] (Ae qi) .nil) fun _ a w h => ?_
     refine wp_ret ?_
     obtain rfl := Option.some.inj hF
     exact ⟨.inl rfl, CJ h (rs := [.cell 8 41, .tmp 9]) (Vs := [(Au (Aa.ck a_1)), (Ag .i64 38)]) results26 (by decide) ⟨(Be 0 3 rfl rfl isAgg41 sizeOf41 rfl), (Ba 1 rfl), trivial⟩ [2] [(AZ p_0 L_0)] rfl rfl rfl⟩
    ·refine wp_skip ?_
     show Code.wp prog _ _ a w
     obtain ⟨r8, hr8, hF⟩ := bind_some hF
     refine As mixed hn hG h [1, 2, 4, 502, 6, 8, 503, 500] (ov [0] (Ab q0) <| ov [3, 7] (An 1 isAgg31 sizeOf31 q0) <| oc [501, 500] [5] call6 (HT hr8) ⟨q0, q1, trivial⟩ <| ob [] (AR zeroValue33 FT) <| og [501, 503] [500] [.res 3 100000 (fun v1_ _ => (lb (v1_) 33 [Af 32 r8.1]))] (AB.plain (Aq sizeOf33 q0 q1 (Ai _)) rfl) .nil) fun b9 a w h => ?_
     obtain ⟨r10, hr10, hF⟩ := bind_some hF
     refine As mixed hn hG h [0, 1, 2, 3, 501, 503, 4, 5, 6, 7, 500] (ov [1, 4] (An 1 isAgg41 sizeOf41 q0) <| ov [3, 7] (An 1 isAgg33 sizeOf33 q0) <| oc [501, 500] [] call61 (He hr10) ⟨q0, q1, trivial⟩ <| ov [500] (Ab q0) <| ov [500] (A5 q0 rfl) <| ov [501] (A5 q0 rfl) <| ob [] (AR zeroValue33 FT) <| ov [503] (Ae q0) <| og [502, 503] [501] [.res 6 100000 (fun v1_ _ => (lb (v1_) 33 [Af 32 r10.2]))] (AB.plain (Aq sizeOf33 q0 q1 (Ai _)) rfl) .nil) fun b11 a w h => ?_
     refine wp_seq ?_
     refine As mixed hn hG h [0, 1, 2, 3, 5, 500, 6, 7, 8, 9, 10] (ov [4] (Ab q0) <| ov [500] (Ak Bg q0 qi) .nil) fun _ a w h => ?_
     refine CC h hF 5 [1, 2, 6, 7, 8] [0, 1, 2, 3, 4, 6, 7, 8, 9, 10] (fun hb12 hF h => ?_) (fun hb12 hF h => ?_)
     ·refine As mixed hn hG h [1, 500, 501, 4] (ov [0, 2] (An 1 isAgg41 sizeOf41 q0) <| ou [1, 500] 3 (Aq sizeOf41 q0 q1 (Ai _)) <| ov [] (Ae qi) .nil) fun _ a w h => ?_
      refine wp_ret ?_
      obtain rfl := Option.some.inj hF
      exact ⟨.inl rfl, CJ h (rs := [.cell 8 41, .tmp 9]) (Vs := [(Au (Aa.ck a_1)), (Ag .i64 37)]) results26 (by decide) ⟨(Be 0 2 rfl rfl isAgg41 sizeOf41 rfl), (Ba 1 rfl), trivial⟩ [3] [(AZ p_0 r8.2)] rfl rfl rfl⟩
     ·refine wp_skip ?_
      show Code.wp prog _ _ a w
      obtain ⟨r13, hr13, hF⟩ := bind_some hF
      refine As mixed hn hG h [1, 2, 3, 4, 500, 5, 6, 7, 8, 9] (ov [1, 5] (An 1 isAgg41 sizeOf41 q0) <| ov [4, 9] (An 1 isAgg33 sizeOf33 q0) <| ov [0] (Ab q0) <| oc [502, 501, 500] [] call54 (FW hr13) ⟨q0, q1, q2, trivial⟩ <| ov [500] (Ae q0) .nil) fun _ a w h => ?_
      refine wp_seq ?_
      refine As mixed hn hG h [0, 1, 2, 3, 4, 500, 5, 6, 7, 8, 9] (ov [4] (Ab q0) <| ov [500] (Ak Bg q0 qi) .nil) fun _ a w h => ?_
      refine CC h hF 5 [0, 1, 4, 6, 7, 8] [0, 1, 2, 3, 6, 7, 8, 9, 10] (fun hb14 hF h => ?_) (fun hb14 hF h => ?_)
      ·refine As mixed hn hG h [1, 500, 501, 5] (ov [0, 3] (An 1 isAgg41 sizeOf41 q0) <| ov [2] (Ab q0) <| ou [1, 501] 4 (Aq sizeOf41 q0 q1 (Ai _)) <| ov [501] (Ae q0) .nil) fun _ a w h => ?_
       refine wp_ret ?_
       obtain rfl := Option.some.inj hF
       exact ⟨.inl rfl, CJ h (rs := [.cell 8 41, .tmp 9]) (Vs := [(Au (Aa.ck a_1)), (Ag .i64 r13)]) results26 (by decide) ⟨(Be 0 2 rfl rfl isAgg41 sizeOf41 rfl), (Ba 1 rfl), trivial⟩ [3] [(AZ p_0 r8.2)] rfl rfl rfl⟩
      ·refine wp_skip ?_
       show Code.wp prog _ _ a w
       obtain ⟨r15, hr15, hF⟩ := bind_some hF
       refine As mixed hn hG h [1, 500, 501, 6] (ov [0, 4] (An 1 isAgg41 sizeOf41 q0) <| ov [2, 7] (An 1 isAgg33 sizeOf33 q0) <| ov [3, 8] (An 1 isAgg33 sizeOf33 q0) <| ov [501, 500] (Dw [(0, .tmp 54), (1, .const (.int .i64 2)), (2, .tmp 55)] rfl Pt LU ⟨[], [Af 32 (List.replicate 32 0)], [one (Ag .i64 (0 : Int)), Af 32 (List.replicate 32 0)], [Af 32 r8.1], _, rfl, rfl, rfl, q0, (Ai _), ⟨[Af 32 r8.1], [one (Ag .i64 (0 : Int))], [Af 32 (List.replicate 32 0)], [one (Ag .i64 2)], _, rfl, rfl, rfl, qi, (AG (A8 _ _)), ⟨[Af 32 r8.1, one (Ag .i64 2)], [Af 32 (List.replicate 32 0)], [], [Af 32 r10.2], _, rfl, rfl, rfl, q1, (Ai _), rfl⟩⟩⟩) <| oc [503, 500] [] call63 (Iv hr15) ⟨q0, q1, trivial⟩ <| ou [1, 500] 5 (Aq sizeOf41 q0 q1 (Ai _)) <| ov [] (Ae qi) .nil) fun _ a w h => ?_
       refine wp_ret ?_
       obtain rfl := Option.some.inj hF
       exact ⟨.inl rfl, CJ h (rs := [.cell 8 41, .tmp 9]) (Vs := [(Au (Aa.ck r15)), (Ag .i64 0)]) results26 (by decide) ⟨(Be 0 2 rfl rfl isAgg41 sizeOf41 rfl), (Ba 1 rfl), trivial⟩ [3] [(AZ p_0 r8.2)] rfl rfl rfl⟩

def E1 (L_0 : Option AD) (a_1 : Int) (a_2 : List UInt8) (a_3 : Int) : Option ((List UInt8) × (Option AD)) := ((Dn a_1).bind fun r3 => ((DC a_2).bind fun r4 => ((Dn (IntKind.wrap .u32 a_3)).bind fun r5 => ((C9 L_0 9 [r3, r4, r5]).bind fun r6 => some (r6.1, r6.2)))))
theorem Hm {p_0 : Value} {L_0 : Option AD} {a_1 : Int} {a_2 : List UInt8} {a_3 : Int} {r : (List UInt8) × (Option AD)} (hF : E1 L_0 a_1 a_2 a_3 = some r) : AH prog KG 65 [(Az p_0), (Ag .u32 a_1), (Au [Af 32 a_2]), (Ag .i64 a_3)] [(AK p_0 L_0)] (fun _ => [AK p_0 r.2]) (Au [Af 32 r.1]) := by
 refine AH.intro 19 func65 rfl ntmps65 (Nat.le_of_ble_eq_true rfl) ?_
 intro c a w hG hn h
 unfold E1 at hF
 change AA c [.slot 0 (Az p_0), .slot 1 (Ag .u32 a_1), .slot 2 (Au [Af 32 a_2]), .slot 3 (Ag .i64 a_3), .res (AK p_0 L_0)] a w at h
 refine As mixed hn hG h [0, 1, 3, 503, 501, 4, 502, 500] (ob [2] (Bc q0 (Ai _)) <| ob [] (AR zeroValue33 FT) .nil) fun b1 a w h => ?_
 obtain ⟨r3, hr3, hF⟩ := bind_some hF
 obtain ⟨r4, hr4, hF⟩ := bind_some hF
 obtain ⟨r5, hr5, hF⟩ := bind_some hF
 obtain ⟨r6, hr6, hF⟩ := bind_some hF
 refine As mixed hn hG h [4, 500, 501] (ov [0] (Ab q0) <| ov [1] (Ab q0) <| oc [500] [] call89 (D6 hr3) ⟨q0, trivial⟩ <| ov [3, 6] (An 1 isAgg33 sizeOf33 q0) <| oc [500] [] call79 (DU hr4) ⟨q0, trivial⟩ <| ov [2] (Ab q0) <| ov [500] (A3 underlying3 underlying29 q0) <| oc [500] [] call89 (D6 hr5) ⟨q0, trivial⟩ <| ov [505, 503, 500] (CP (xs := [.tmp 11, .tmp 13, .tmp 16]) (ys := [r3, r4, r5]) _ rfl underlying22 sizeOf9 zeroValue9 rfl rfl (by decide) (by decide) ⟨⟨_, q0, (AG (CD _))⟩, ⟨_, q1, (AG (CD _))⟩, ⟨_, q2, (AG (CD _))⟩, trivial⟩ CF) <| oc [508, 500] [5] call80 (DA hr6) ⟨q0, qi, q1, trivial⟩ <| ou [4, 501] 7 (Aq sizeOf33 q0 q1 (Ai _)) .nil) fun _ a w h => ?_
 refine wp_ret ?_
 obtain rfl := Option.some.inj hF
 exact ⟨.inl rfl, BW h results65 (Be 0 1 rfl rfl isAgg33 sizeOf33 rfl) [2] [(AK p_0 r6.2)] rfl rfl rfl⟩

def FI (L_0 : Option AD) (a_1 : Am) (a_2 : Int) (a_3 : List UInt8) (a_4 : Int) : Option (Am × A1 × Int × (Option AD)) := ((E1 L_0 a_2 a_3 a_4).bind fun r5 => ((BI a_1 r5.2 r5.1).bind fun r6 => (if (!decide (r6.2.2.1 = (0 : Int))) = true then some (a_1, (A1.mk (0 : Int) (List.replicate 32 0) (0 : Int) (AE.mk (0 : Int) [] [] [])), r6.2.2.1, r6.2.2.2) else some (r6.1, (A1.mk a_2 a_3 a_4 r6.2.1), 0, r6.2.2.2))))
theorem JP {p_0 : Value} {L_0 : Option AD} {a_1 : Am} {a_2 : Int} {a_3 : List UInt8} {a_4 : Int} {r : Am × A1 × Int × (Option AD)} (hF : FI L_0 a_1 a_2 a_3 a_4 = some r) : AH prog KG 27 [(Az p_0), (Au (Am.ck a_1)), (Ag .u32 a_2), (Au [Af 32 a_3]), (Ag .i64 a_4)] [(AK p_0 L_0)] (fun _ => [AK p_0 r.2.2.2]) (Db [(Au (Am.ck r.1)), (Au (A1.ck r.2.1)), (Ag .i64 r.2.2.1)]) := by
 refine AH.intro 39 func27 rfl ntmps27 (Nat.le_of_ble_eq_true rfl) ?_
 intro c a w hG hn h
 unfold FI at hF
 change AA c [.slot 0 (Az p_0), .slot 1 (Au (Am.ck a_1)), .slot 2 (Ag .u32 a_2), .slot 3 (Au [Af 32 a_3]), .slot 4 (Ag .i64 a_4), .res (AK p_0 L_0)] a w at h
 refine As mixed hn hG h [0, 2, 4, 508, 506, 504, 502, 5, 507, 505, 503, 501] (ob [1] (Bc q0 (Ai _)) <| ob [3] (Bc q0 (Ai _)) <| ob [] (AR zeroValue58 PJ) <| ob [] (AR zeroValue84 Se) <| ov [] (Ae qi) .nil) fun b1 a w h => ?_
 obtain ⟨r5, hr5, hF⟩ := bind_some hF
 obtain ⟨r6, hr6, hF⟩ := bind_some hF
 refine As mixed hn hG h [1, 2, 3, 4, 5, 6, 506, 504, 500, 8, 9, 10, 11, 511, 502, 501] (ov [3, 8] (An 1 isAgg58 sizeOf58 q0) <| ov [0] (Ab q0) <| ov [0] (Ab q0) <| ov [1] (Ab q0) <| ov [4, 9] (An 1 isAgg33 sizeOf33 q0) <| ov [2] (Ab q0) <| oc [503, 502, 501, 500] [7] call65 (Hm hr5) ⟨q0, q1, q2, q3, trivial⟩ <| oc [507, 506, 501] [500] call47 (F5 hr6) ⟨q0, q1, q2, trivial⟩ <| ov [501] (Ab q0) <| ov [500] (A5 q0 rfl) <| ov [501] (A5 q0 rfl) <| ov [502] (A5 q0 rfl) <| ob [] (AR zeroValue58 PJ) <| ob [] (AR zeroValue69 PM) <| og [503, 506] [502] [.res 12 100000 (fun v1_ _ => (lb (v1_) 58 (Am.ck r6.1)))] (AB.plain (Aq sizeOf58 q0 q1 (Ai _)) rfl) <| og [502, 506] [501] [.res 13 100000 (fun v1_ _ => (lb (v1_) 69 (AE.ck r6.2.1)))] (AB.plain (Aq sizeOf69 q0 q1 (Ai _)) rfl) <| ov [506] (Ae q0) .nil) fun b7 a w h => ?_
 refine wp_seq ?_
 refine As mixed hn hG h [0, 1, 2, 3, 4, 5, 6, 7, 8, 500, 9, 10, 11, 12, 13, 14, 15] (ov [8] (Ab q0) <| ov [500] (Ak Bg q0 qi) .nil) fun _ a w h => ?_
 refine CC h hF 9 [2, 4, 5, 8, 10, 12, 13, 14] [0, 1, 3, 4, 5, 6, 7, 11, 12, 13, 14, 15, 16] (fun hb9 hF h => ?_) (fun hb9 hF h => ?_)
 ·refine As mixed hn hG h [1, 2, 500, 502, 501, 7] (ov [0, 4] (An 1 isAgg58 sizeOf58 q0) <| ov [] (Dw [] rfl R5 Se rfl) <| ov [3] (Ab q0) <| ou [1, 502] 5 (Aq sizeOf58 q0 q1 (Ai _)) <| ou [2, 502] 6 (Aq sizeOf84 q0 q1 (Ai _)) <| ov [502] (Ae q0) .nil) fun _ a w h => ?_
  refine wp_ret ?_
  obtain rfl := Option.some.inj hF
  exact ⟨.inl rfl, CJ h (rs := [.cell 10 58, .cell 11 84, .tmp 12]) (Vs := [(Au (Am.ck a_1)), (Au [one (Ag .u32 (0 : Int)), Af 32 (List.replicate 32 0), one (Ag .i64 (0 : Int)), one (Ag .i64 ((AE.mk (0 : Int) [] [] []).Cc)), one (AJ (dC 32) ((AE.mk (0 : Int) [] [] []).Dl)), one (AJ (dC 32) ((AE.mk (0 : Int) [] [] []).CZ)), one (AJ (dC 32) ((AE.mk (0 : Int) [] [] []).Dk))]), (Ag .i64 r6.2.2.1)]) results27 (by decide) ⟨(Be 0 3 rfl rfl isAgg58 sizeOf58 rfl), (Be 1 4 rfl rfl isAgg84 sizeOf84 rfl), (Ba 2 rfl), trivial⟩ [5] [(AK p_0 r6.2.2.2)] rfl rfl rfl⟩
 ·refine wp_skip ?_
  show Code.wp prog _ _ a w
  refine As mixed hn hG h [3, 4, 500, 502, 501, 10] (ov [5, 11] (An 1 isAgg58 sizeOf58 q0) <| ov [0] (Ab q0) <| ov [2, 7] (An 1 isAgg33 sizeOf33 q0) <| ov [1] (Ab q0) <| ov [6, 12] (An 1 isAgg69 sizeOf69 q0) <| ov [503, 502, 501, 500] (Dw [(0, .tmp 34), (1, .tmp 35), (2, .tmp 36), (3, .tmp 37)] rfl R5 Se ⟨[], [one (Ag .u32 (0 : Int))], [Af 32 (List.replicate 32 0), one (Ag .i64 (0 : Int)), one (Ag .i64 ((AE.mk (0 : Int) [] [] []).Cc)), one (AJ (dC 32) ((AE.mk (0 : Int) [] [] []).Dl)), one (AJ (dC 32) ((AE.mk (0 : Int) [] [] []).CZ)), one (AJ (dC 32) ((AE.mk (0 : Int) [] [] []).Dk))], [one (Ag .u32 a_2)], _, rfl, rfl, rfl, q0, (AG (A8 _ _)), ⟨[one (Ag .u32 a_2)], [Af 32 (List.replicate 32 0)], [one (Ag .i64 (0 : Int)), one (Ag .i64 ((AE.mk (0 : Int) [] [] []).Cc)), one (AJ (dC 32) ((AE.mk (0 : Int) [] [] []).Dl)), one (AJ (dC 32) ((AE.mk (0 : Int) [] [] []).CZ)), one (AJ (dC 32) ((AE.mk (0 : Int) [] [] []).Dk))], [Af 32 a_3], _, rfl, rfl, rfl, q1, (Ai _), ⟨[one (Ag .u32 a_2), Af 32 a_3], [one (Ag .i64 (0 : Int))], (AE.ck (AE.mk (0 : Int) [] [] [])), [one (Ag .i64 a_4)], _, rfl, rfl, rfl, q2, (AG (A8 _ _)), ⟨[one (Ag .u32 a_2), Af 32 a_3, one (Ag .i64 a_4)], (AE.ck (AE.mk (0 : Int) [] [] [])), [], (AE.ck r6.2.1), _, rfl, rfl, rfl, q3, (Ai _), rfl⟩⟩⟩⟩) <| ou [3, 505] 8 (Aq sizeOf58 q0 q1 (Ai _)) <| ou [4, 501] 9 (Aq sizeOf84 q0 q1 (Ai _)) <| ov [] (Ae qi) .nil) fun _ a w h => ?_
  refine wp_ret ?_
  obtain rfl := Option.some.inj hF
  exact ⟨.inl rfl, CJ h (rs := [.cell 10 58, .cell 11 84, .tmp 12]) (Vs := [(Au (Am.ck r6.1)), (Au [one (Ag .u32 a_2), Af 32 a_3, one (Ag .i64 a_4), one (Ag .i64 r6.2.1.Cc), one (AJ (dC 32) r6.2.1.Dl), one (AJ (dC 32) r6.2.1.CZ), one (AJ (dC 32) r6.2.1.Dk)]), (Ag .i64 0)]) results27 (by decide) ⟨(Be 0 3 rfl rfl isAgg58 sizeOf58 rfl), (Be 1 4 rfl rfl isAgg84 sizeOf84 rfl), (Ba 2 rfl), trivial⟩ [5] [(AK p_0 r6.2.2.2)] rfl rfl rfl⟩

def E7 (L_0 : Option AD) (a_1 : List UInt8) (a_2 : A1) : Option (Bool × (Option AD)) := ((E1 L_0 a_2.B0 a_2.EP a_2.Bn).bind fun r3 => ((Ct r3.2 a_1 r3.1 a_2.C1).bind fun r4 => some (r4.1, r4.2)))
theorem Jv {p_0 : Value} {L_0 : Option AD} {a_1 : List UInt8} {a_2 : A1} {r : Bool × (Option AD)} (hF : E7 L_0 a_1 a_2 = some r) : AH prog KG 66 [(Az p_0), (Au [Af 32 a_1]), (Au (A1.ck a_2))] [(AK p_0 L_0)] (fun _ => [AK p_0 r.2]) (AL r.1) := by
 refine AH.intro 20 func66 rfl ntmps66 (Nat.le_of_ble_eq_true rfl) ?_
 intro c a w hG hn h
 unfold E7 at hF
 change AA c [.slot 0 (Az p_0), .slot 1 (Au [Af 32 a_1]), .slot 2 (Au (A1.ck a_2)), .res (AK p_0 L_0)] a w at h
 refine As mixed hn hG h [0, 504, 502, 3, 503, 501] (ob [1] (Bc q0 (Ai _)) <| ob [2] (Bc q0 (Ai _)) <| ov [] (Ae qb) .nil) fun b1 a w h => ?_
 obtain ⟨r3, hr3, hF⟩ := bind_some hF
 obtain ⟨r4, hr4, hF⟩ := bind_some hF
 refine As mixed hn hG h [500, 501] (ov [0] (Ab q0) <| ov [1, 4] (An 1 isAgg33 sizeOf33 q0) <| ov [0] (Ab q0) <| ov [2] (Ad (p := (b1 1)) (n := 1) 0 0 underlying84 rfl sizeOf29 (by decide) q0 rfl) <| ov [500, 5] (Aj [] ((A1.ck a_2).drop 1) 1 isAgg29 q0 rfl rfl) <| ov [2] (Ad (p := (b1 1)) (n := 32) 0 1 underlying84 rfl sizeOf33 (by decide) q0 rfl) <| ov [500, 5] (AT [one (Ag .u32 a_2.B0)] [Af 32 a_2.EP] ((A1.ck a_2).drop 2) 1 isAgg33 sizeOf33 q0 rfl rfl rfl) <| ov [2] (Ad (p := (b1 1)) (n := 1) 0 33 underlying84 rfl sizeOf3 (by decide) q0 rfl) <| ov [500, 5] (Aj ((A1.ck a_2).take 2) (AE.ck a_2.C1) 1 isAgg3 q0 rfl rfl) <| oc [506, 504, 502, 500] [3] call65 (Hm hr3) ⟨q0, q1, q2, q3, trivial⟩ <| ov [2] (Ad (p := (b1 1)) (n := 4) 0 34 underlying84 rfl sizeOf69 (by decide) q0 rfl) <| ov [500, 5] (AT ((A1.ck a_2).take 3) (AE.ck a_2.C1) [] 1 isAgg69 sizeOf69 q0 rfl rfl rfl) <| oc [512, 511, 503, 500] [502] call98 (HA hr4) ⟨q0, q1, q2, q3, trivial⟩ <| ov [501] (Ae q0) .nil) fun _ a w h => ?_
 refine wp_ret ?_
 obtain rfl := Option.some.inj hF
 exact ⟨.inl rfl, BW h results66 (Ba 0 rfl) [1] [(AK p_0 r4.2)] rfl rfl rfl⟩

def B9.j2 (L_0 : Option AD) (a_1 : Aa) (a_2 : A1) (x7 : Bool) : Option (Aa × Int × (Option AD)) := (if x7 = true then some (a_1, 14, L_0) else (if (0 : Int) ≤ a_2.Bn ∧ a_2.Bn < a_1.AP.length then ((E7 L_0 (a_1.AP.getD a_2.Bn.toNat default) a_2).bind fun r10 => (if (!r10.1) = true then some (a_1, 21, r10.2) else some ((Aa.mk a_1.AX a_1.BC a_1.AQ a_1.AP a_1.A4 a_1.AN a_1.Ay a_1.Ah a_1.Bj true), 0, r10.2))) else none))
def B9.j1 (L_0 : Option AD) (a_1 : Aa) (a_2 : A1) (x5 : Bool) : Option (Aa × Int × (Option AD)) := (if x5 = true then some (a_1, 38, L_0) else (if (decide (a_2.Bn < (0 : Int))) = true then B9.j2 L_0 a_1 a_2 true else B9.j2 L_0 a_1 a_2 (decide ((a_1.AP.length : Int) ≤ a_2.Bn))))
def B9 (L_0 : Option AD) (a_1 : Aa) (a_2 : A1) : Option (Aa × Int × (Option AD)) := (if a_1.BR = true then some (a_1, 34, L_0) else (if (!decide (a_2.B0 = a_1.AX)) = true then B9.j1 L_0 a_1 a_2 true else B9.j1 L_0 a_1 a_2 (!decide (a_2.EP = a_1.AQ))))
theorem Jy {p_0 : Value} {L_0 : Option AD} {a_1 : Aa} {a_2 : A1} {r : Aa × Int × (Option AD)} (hF : B9 L_0 a_1 a_2 = some r) : AH prog KG 28 [(Az p_0), (Au (Aa.ck a_1)), (Au (A1.ck a_2))] [(AK p_0 L_0)] (fun _ => [AK p_0 r.2.2]) (Db [(Au (Aa.ck r.1)), (Ag .i64 r.2.1)]) := by
 refine AH.intro 53 func28 rfl ntmps28 (Nat.le_of_ble_eq_true rfl) ?_
 intro c a w hG hn h
 unfold B9 at hF
 change AA c [.slot 0 (Az p_0), .slot 1 (Au (Aa.ck a_1)), .slot 2 (Au (A1.ck a_2)), .res (AK p_0 L_0)] a w at h
 refine As mixed hn hG h [0, 506, 504, 502, 3, 505, 503, 501] (ob [1] (Bc q0 (Ai _)) <| ob [2] (Bc q0 (Ai _)) <| ob [] (AR zeroValue41 MN) <| ov [] (Ae qi) .nil) fun b1 a w h => ?_
 refine wp_seq ?_
 refine wp_block ?_
 refine As mixed hn hG h [0, 1, 2, 3, 500, 4, 5, 6, 7] (ov [1] (Ad (p := (b1 0)) (n := 1) 0 71 underlying41 rfl sizeOf4 (by decide) q0 rfl) <| ov [500, 5] (Aj ((Aa.ck a_1).take 9) [] 1 isAgg4 q0 rfl rfl) <| ov [500] (Ae q0) .nil) fun _ a w h => ?_
 refine CC h hF 4 [1, 3, 5, 6, 8] [0, 1, 2, 3, 5, 6, 7, 8] (fun hb4 hF h => ?_) (fun hb4 hF h => ?_)
 ·refine As mixed hn hG h [1, 500, 2, 501] (ov [0, 3] (An 1 isAgg41 sizeOf41 q0) <| ou [1, 500] 4 (Aq sizeOf41 q0 q1 (Ai _)) <| ov [] (Ae qi) .nil) fun _ a w h => ?_
  refine wp_ret ?_
  obtain rfl := Option.some.inj hF
  exact ⟨.inl rfl, CJ h (rs := [.cell 6 41, .tmp 7]) (Vs := [(Au (Aa.ck a_1)), (Ag .i64 34)]) results28 (by decide) ⟨(Be 0 3 rfl rfl isAgg41 sizeOf41 rfl), (Ba 1 rfl), trivial⟩ [2] [(AK p_0 L_0)] rfl rfl rfl⟩
 ·refine wp_seq ?_
  refine wp_cut (fun a w => ∃ (x5 : Bool), B9.j1 L_0 a_1 a_2 x5 = some r ∧ AA c [.slot 0 (Az p_0), .slot 4 (Av (b1 0) 0), .slot 5 (Av (b1 1) 0), .slot 6 (Av (b1 2) 0), .slot 12 (AL x5), .res (AK p_0 L_0), .res (lb (b1 0) 41 (Aa.ck a_1)), .res (lb (b1 1) 84 (A1.ck a_2)), .res (lb (b1 2) 41 (Aa.ck (Aa.mk (0 : Int) (0 : Int) (List.replicate 32 0) [] (0 : Int) (List.replicate 32 0) [] [] false false)))] a w) ?_ ?_
  ·rcases Bool.eq_false_or_eq_true (!decide (a_2.B0 = a_1.AX)) with hb13 | hb13
   ·replace hF := CQ hb13 hF
    refine Cd mixed hn hG h [0, 1, 2, 3, 500, 4, 5, 6, 7] (ov [2] (Ad (p := (b1 1)) (n := 1) 0 0 underlying84 rfl sizeOf29 (by decide) q0 rfl) <| ov [500, 6] (Aj [] ((A1.ck a_2).drop 1) 1 isAgg29 q0 rfl rfl) <| ov [1] (Ad (p := (b1 0)) (n := 1) 0 0 underlying41 rfl sizeOf29 (by decide) q0 rfl) <| ov [500, 5] (Aj [] ((Aa.ck a_1).drop 1) 1 isAgg29 q0 rfl rfl) <| ov [502, 500] (Ak Bg q0 q1) <| ov [500] (Ab q0) <| oe [500] [] (AB.At (want := false) hb13 rfl rfl rfl rfl) <| oe [501] [] (AB.At (want := false) hb13 rfl rfl rfl rfl) <| oe [502] [] (AB.At (want := false) hb13 rfl rfl rfl rfl) <| oe [503] [] (AB.At (want := false) hb13 rfl rfl rfl rfl) <| oe [504] [] (AB.At (want := false) hb13 rfl rfl rfl rfl) <| ov [505] (AU hb13 q0 qb) <| ov [500] (Ae q0) .nil) fun _ a w h => ?_
    exact ⟨true, hF, h.sub [0, 1, 2, 3, 4, 5, 6, 7, 8] (by rfl)⟩
   ·replace hF := CT hb13 hF
    refine Cd mixed hn hG h [0, 1, 2, 3, 500, 4, 5, 6, 7] (ov [2] (Ad (p := (b1 1)) (n := 1) 0 0 underlying84 rfl sizeOf29 (by decide) q0 rfl) <| ov [500, 6] (Aj [] ((A1.ck a_2).drop 1) 1 isAgg29 q0 rfl rfl) <| ov [1] (Ad (p := (b1 0)) (n := 1) 0 0 underlying41 rfl sizeOf29 (by decide) q0 rfl) <| ov [500, 5] (Aj [] ((Aa.ck a_1).drop 1) 1 isAgg29 q0 rfl rfl) <| ov [502, 500] (Ak Bg q0 q1) <| ov [500] (Ab q0) <| oe [500, 2] [] (AB.Aw hb13 rfl rfl rfl (Ad (p := (b1 1)) (n := 32) 0 1 underlying84 rfl sizeOf33 (by decide) q0 rfl)) <| oe [501, 500, 6] [] (AB.Aw hb13 rfl rfl rfl (AT [one (Ag .u32 a_2.B0)] [Af 32 a_2.EP] ((A1.ck a_2).drop 2) 1 isAgg33 sizeOf33 q0 rfl rfl rfl)) <| oe [502, 1] [] (AB.Aw hb13 rfl rfl rfl (Ad (p := (b1 0)) (n := 32) 0 2 underlying41 rfl sizeOf33 (by decide) q0 rfl)) <| oe [503, 500, 5] [] (AB.Aw hb13 rfl rfl rfl (AT ((Aa.ck a_1).take 2) [Af 32 a_1.AQ] ((Aa.ck a_1).drop 3) 1 isAgg33 sizeOf33 q0 rfl rfl rfl)) <| oe [504, 502, 500] [] (AB.Aw hb13 rfl rfl rfl (Ak (Dm underlying33 underlying5 type5 sizeOf5 isAgg5 eqGuardType33) q0 q1)) <| ov [505, 500] (AV hb13 q0 q1) <| ov [500] (Ae q0) .nil) fun _ a w h => ?_
    exact ⟨!decide (a_2.EP = a_1.AQ), hF, h.sub [0, 1, 2, 3, 4, 5, 6, 7, 8] (by rfl)⟩
  ·clear h hF
   rintro a w ⟨x5, hF, h⟩
   unfold B9.j1 at hF
   show Code.wp prog _ _ a w
   refine CC h hF 4 [1, 3, 5, 6, 8] [0, 1, 2, 3, 5, 6, 7, 8] (fun hb6 hF h => ?_) (fun hb6 hF h => ?_)
   ·refine As mixed hn hG h [1, 500, 2, 501] (ov [0, 3] (An 1 isAgg41 sizeOf41 q0) <| ou [1, 500] 4 (Aq sizeOf41 q0 q1 (Ai _)) <| ov [] (Ae qi) .nil) fun _ a w h => ?_
    refine wp_ret ?_
    obtain rfl := Option.some.inj hF
    exact ⟨.inl rfl, CJ h (rs := [.cell 6 41, .tmp 7]) (Vs := [(Au (Aa.ck a_1)), (Ag .i64 38)]) results28 (by decide) ⟨(Be 0 3 rfl rfl isAgg41 sizeOf41 rfl), (Ba 1 rfl), trivial⟩ [2] [(AK p_0 L_0)] rfl rfl rfl⟩
   ·refine wp_seq ?_
    refine wp_cut (fun a w => ∃ (x7 : Bool), B9.j2 L_0 a_1 a_2 x7 = some r ∧ AA c [.slot 0 (Az p_0), .slot 4 (Av (b1 0) 0), .slot 5 (Av (b1 1) 0), .slot 6 (Av (b1 2) 0), .slot 26 (AL x7), .res (AK p_0 L_0), .res (lb (b1 0) 41 (Aa.ck a_1)), .res (lb (b1 1) 84 (A1.ck a_2)), .res (lb (b1 2) 41 (Aa.ck (Aa.mk (0 : Int) (0 : Int) (List.replicate 32 0) [] (0 : Int) (List.replicate 32 0) [] [] false false)))] a w) ?_ ?_
    ·rcases Bool.eq_false_or_eq_true (decide (a_2.Bn < (0 : Int))) with hb12 | hb12
     ·replace hF := CQ hb12 hF
      refine Cd mixed hn hG h [0, 1, 2, 3, 500, 4, 5, 6, 7] (ov [2] (Ad (p := (b1 1)) (n := 1) 0 33 underlying84 rfl sizeOf3 (by decide) q0 rfl) <| ov [500, 6] (Aj ((A1.ck a_2).take 2) (AE.ck a_2.C1) 1 isAgg3 q0 rfl rfl) <| ov [500] (Ak Bl q0 qi) <| ov [500] (Ab q0) <| oe [500] [] (AB.At (want := false) hb12 rfl rfl rfl rfl) <| oe [501] [] (AB.At (want := false) hb12 rfl rfl rfl rfl) <| oe [502] [] (AB.At (want := false) hb12 rfl rfl rfl rfl) <| oe [503] [] (AB.At (want := false) hb12 rfl rfl rfl rfl) <| oe [504] [] (AB.At (want := false) hb12 rfl rfl rfl rfl) <| oe [505] [] (AB.At (want := false) hb12 rfl rfl rfl rfl) <| ov [506] (AU hb12 q0 qb) <| ov [500] (Ae q0) .nil) fun _ a w h => ?_
      exact ⟨true, hF, h.sub [0, 1, 2, 3, 4, 5, 6, 7, 8] (by rfl)⟩
     ·replace hF := CT hb12 hF
      refine Cd mixed hn hG h [0, 1, 2, 3, 500, 4, 5, 6, 7] (ov [2] (Ad (p := (b1 1)) (n := 1) 0 33 underlying84 rfl sizeOf3 (by decide) q0 rfl) <| ov [500, 6] (Aj ((A1.ck a_2).take 2) (AE.ck a_2.C1) 1 isAgg3 q0 rfl rfl) <| ov [500] (Ak Bl q0 qi) <| ov [500] (Ab q0) <| oe [500, 2] [] (AB.Aw hb12 rfl rfl rfl (Ad (p := (b1 1)) (n := 1) 0 33 underlying84 rfl sizeOf3 (by decide) q0 rfl)) <| oe [501, 500, 6] [] (AB.Aw hb12 rfl rfl rfl (Aj ((A1.ck a_2).take 2) (AE.ck a_2.C1) 1 isAgg3 q0 rfl rfl)) <| oe [502, 1] [] (AB.Aw hb12 rfl rfl rfl (Ad (p := (b1 0)) (n := 1) 0 34 underlying41 rfl sizeOf27 (by decide) q0 rfl)) <| oe [503, 500, 5] [] (AB.Aw hb12 rfl rfl rfl (Aj ((Aa.ck a_1).take 3) ((Aa.ck a_1).drop 4) 1 isAgg27 q0 rfl rfl)) <| oe [504, 500] [] (AB.Aw hb12 rfl rfl rfl (A6 underlying27 q0)) <| oe [505, 503, 500] [] (AB.Aw hb12 rfl rfl rfl (Ak Ef q0 q1)) <| ov [506, 500] (AV hb12 q0 q1) <| ov [500] (Ae q0) .nil) fun _ a w h => ?_
      exact ⟨decide ((a_1.AP.length : Int) ≤ a_2.Bn), hF, h.sub [0, 1, 2, 3, 4, 5, 6, 7, 8] (by rfl)⟩
    ·clear h hF
     rintro a w ⟨x7, hF, h⟩
     unfold B9.j2 at hF
     show Code.wp prog _ _ a w
     refine CC h hF 4 [1, 3, 5, 6, 8] [0, 1, 2, 3, 5, 6, 7, 8] (fun hb8 hF h => ?_) (fun hb8 hF h => ?_)
     ·refine As mixed hn hG h [1, 500, 2, 501] (ov [0, 3] (An 1 isAgg41 sizeOf41 q0) <| ou [1, 500] 4 (Aq sizeOf41 q0 q1 (Ai _)) <| ov [] (Ae qi) .nil) fun _ a w h => ?_
      refine wp_ret ?_
      obtain rfl := Option.some.inj hF
      exact ⟨.inl rfl, CJ h (rs := [.cell 6 41, .tmp 7]) (Vs := [(Au (Aa.ck a_1)), (Ag .i64 14)]) results28 (by decide) ⟨(Be 0 3 rfl rfl isAgg41 sizeOf41 rfl), (Ba 1 rfl), trivial⟩ [2] [(AK p_0 L_0)] rfl rfl rfl⟩
     ·obtain ⟨hv9, hF⟩ := AF hF
      obtain ⟨r10, hr10, hF⟩ := bind_some hF
      refine As mixed hn hG h [1, 3, 500, 5, 7, 502] (ov [0] (Ab q0) <| ov [1] (Ad (p := (b1 0)) (n := 1) 0 34 underlying41 rfl sizeOf27 (by decide) q0 rfl) <| ov [500, 5] (Aj ((Aa.ck a_1).take 3) ((Aa.ck a_1).drop 4) 1 isAgg27 q0 rfl rfl) <| ov [2] (Ad (p := (b1 1)) (n := 1) 0 33 underlying84 rfl sizeOf3 (by decide) q0 rfl) <| ov [500, 6] (Aj ((A1.ck a_2).take 2) (AE.ck a_2.C1) 1 isAgg3 q0 rfl rfl) <| ov [502, 500] (AS underlying27 sizeOf33 (Bk 32) q0 q1 hv9) <| ov [500] (Bq [Af 32 (a_1.AP.getD a_2.Bn.toNat default)] [] isAgg33 sizeOf33 q0 rfl) <| ov [2, 6] (An 1 isAgg84 sizeOf84 q0) <| oc [507, 501, 500] [4] call66 (Jv hr10) ⟨q0, q1, q2, trivial⟩ <| ov [501] (EO (Ec _) q0) <| ov [500] (Ae q0) .nil) fun _ a w h => ?_
      refine CC h hF 2 [0, 1, 3, 4, 5] [0, 1, 3, 4, 5] (fun hb11 hF h => ?_) (fun hb11 hF h => ?_)
      ·refine As mixed hn hG h [1, 500, 501, 4] (ov [0, 2] (An 1 isAgg41 sizeOf41 q0) <| ou [1, 500] 3 (Aq sizeOf41 q0 q1 (Ai _)) <| ov [] (Ae qi) .nil) fun _ a w h => ?_
       refine wp_ret ?_
       obtain rfl := Option.some.inj hF
       exact ⟨.inl rfl, CJ h (rs := [.cell 6 41, .tmp 7]) (Vs := [(Au (Aa.ck a_1)), (Ag .i64 21)]) results28 (by decide) ⟨(Be 0 2 rfl rfl isAgg41 sizeOf41 rfl), (Ba 1 rfl), trivial⟩ [3] [(AK p_0 r10.2)] rfl rfl rfl⟩
      ·refine wp_skip ?_
       show Code.wp prog _ _ a w
       refine As mixed hn hG h [0, 1, 500, 3, 4] (ov [0] (Ad (p := (b1 0)) (n := 1) 0 71 underlying41 rfl sizeOf4 (by decide) q0 rfl) <| ou [500] 2 (B8 ((Aa.ck a_1).take 9) [one (AL a_1.BR)] [] [one (AL true)] sizeOf4 q0 qb (AG (Mp _)) rfl rfl rfl) .nil) fun _ a w h => ?_
       refine As mixed hn hG h [1, 500, 501, 4] (ov [0, 2] (An 1 isAgg41 sizeOf41 q0) <| ou [1, 500] 3 (Aq sizeOf41 q0 q1 (Ai _)) <| ov [] (Ae qi) .nil) fun _ a w h => ?_
       refine wp_ret ?_
       obtain rfl := Option.some.inj hF
       exact ⟨.inl rfl, CJ h (rs := [.cell 6 41, .tmp 7]) (Vs := [(Au [one (Ag .u32 a_1.AX), one (Ag .u32 a_1.BC), Af 32 a_1.AQ, one (AJ (dC 32) a_1.AP), one (Ag .u64 a_1.A4), Af 32 a_1.AN, one (AJ Ao.ck a_1.Ay), one (AJ Al.ck a_1.Ah), one (AL a_1.Bj), one (AL true)]), (Ag .i64 0)]) results28 (by decide) ⟨(Be 0 2 rfl rfl isAgg41 sizeOf41 rfl), (Ba 1 rfl), trivial⟩ [3] [(AK p_0 r10.2)] rfl rfl rfl⟩

def Gn (L_0 : Option A2) (a_1 : Int) (a_2 : List UInt8) (a_3 : Int) : Option ((List UInt8) × (Option A2)) := ((CK (IntKind.wrap .u64 a_1) 4).bind fun r3 => ((Dr a_2).bind fun r4 => ((CK (IntKind.wrap .u64 a_3) 4).bind fun r5 => ((DB L_0 9 [r3, r4, r5]).bind fun r6 => some (r6.1, r6.2)))))
theorem KO {p_0 : Value} {L_0 : Option A2} {a_1 : Int} {a_2 : List UInt8} {a_3 : Int} {r : (List UInt8) × (Option A2)} (hF : Gn L_0 a_1 a_2 a_3 = some r) : AH prog KG 99 [(Az p_0), (Ag .u32 a_1), (Au [Af 32 a_2]), (Ag .i64 a_3)] [(AZ p_0 L_0)] (fun _ => [AZ p_0 r.2]) (Au [Af 32 r.1]) := by
 refine AH.intro 20 func99 rfl ntmps99 (Nat.le_of_ble_eq_true rfl) ?_
 intro c a w hG hn h
 unfold Gn at hF
 change AA c [.slot 0 (Az p_0), .slot 1 (Ag .u32 a_1), .slot 2 (Au [Af 32 a_2]), .slot 3 (Ag .i64 a_3), .res (AZ p_0 L_0)] a w at h
 refine As mixed hn hG h [0, 1, 3, 503, 501, 4, 502, 500] (ob [2] (Bc q0 (Ai _)) <| ob [] (AR zeroValue33 FT) .nil) fun b1 a w h => ?_
 obtain ⟨r3, hr3, hF⟩ := bind_some hF
 obtain ⟨r4, hr4, hF⟩ := bind_some hF
 obtain ⟨r5, hr5, hF⟩ := bind_some hF
 obtain ⟨r6, hr6, hF⟩ := bind_some hF
 refine As mixed hn hG h [4, 500, 501] (ov [0] (Ab q0) <| ov [1] (Ab q0) <| ov [500] (A3 underlying29 underlying24 q0) <| oc [500] [] call73 (Em hr3) ⟨q0, qi, trivial⟩ <| ov [3, 6] (An 1 isAgg33 sizeOf33 q0) <| oc [500] [] call104 (Dj hr4) ⟨q0, trivial⟩ <| ov [2] (Ab q0) <| ov [500] (A3 underlying3 underlying24 q0) <| oc [500] [] call73 (Em hr5) ⟨q0, qi, trivial⟩ <| ov [505, 503, 500] (CP (xs := [.tmp 12, .tmp 14, .tmp 17]) (ys := [r3, r4, r5]) _ rfl underlying22 sizeOf9 zeroValue9 rfl rfl (by decide) (by decide) ⟨⟨_, q0, (AG (CD _))⟩, ⟨_, q1, (AG (CD _))⟩, ⟨_, q2, (AG (CD _))⟩, trivial⟩ CF) <| oc [509, 500] [5] call33 (D5 hr6) ⟨q0, qi, q1, trivial⟩ <| ou [4, 501] 7 (Aq sizeOf33 q0 q1 (Ai _)) .nil) fun _ a w h => ?_
 refine wp_ret ?_
 obtain rfl := Option.some.inj hF
 exact ⟨.inl rfl, BW h results99 (Be 0 1 rfl rfl isAgg33 sizeOf33 rfl) [2] [(AZ p_0 r6.2)] rfl rfl rfl⟩

def FM (L_0 : Option A2) (a_1 : List UInt8) (a_2 : A1) : Option (Bool × (Option A2)) := ((Gn L_0 a_2.B0 a_2.EP a_2.Bn).bind fun r3 => ((C4 r3.2 a_1 r3.1 a_2.C1).bind fun r4 => some (r4.1, r4.2)))
theorem J3 {p_0 : Value} {L_0 : Option A2} {a_1 : List UInt8} {a_2 : A1} {r : Bool × (Option A2)} (hF : FM L_0 a_1 a_2 = some r) : AH prog KG 67 [(Az p_0), (Au [Af 32 a_1]), (Au (A1.ck a_2))] [(AZ p_0 L_0)] (fun _ => [AZ p_0 r.2]) (AL r.1) := by
 refine AH.intro 20 func67 rfl ntmps67 (Nat.le_of_ble_eq_true rfl) ?_
 intro c a w hG hn h
 unfold FM at hF
 change AA c [.slot 0 (Az p_0), .slot 1 (Au [Af 32 a_1]), .slot 2 (Au (A1.ck a_2)), .res (AZ p_0 L_0)] a w at h
 refine As mixed hn hG h [0, 504, 502, 3, 503, 501] (ob [1] (Bc q0 (Ai _)) <| ob [2] (Bc q0 (Ai _)) <| ov [] (Ae qb) .nil) fun b1 a w h => ?_
 obtain ⟨r3, hr3, hF⟩ := bind_some hF
 obtain ⟨r4, hr4, hF⟩ := bind_some hF
 refine As mixed hn hG h [500, 501] (ov [0] (Ab q0) <| ov [1, 4] (An 1 isAgg33 sizeOf33 q0) <| ov [0] (Ab q0) <| ov [2] (Ad (p := (b1 1)) (n := 1) 0 0 underlying84 rfl sizeOf29 (by decide) q0 rfl) <| ov [500, 5] (Aj [] ((A1.ck a_2).drop 1) 1 isAgg29 q0 rfl rfl) <| ov [2] (Ad (p := (b1 1)) (n := 32) 0 1 underlying84 rfl sizeOf33 (by decide) q0 rfl) <| ov [500, 5] (AT [one (Ag .u32 a_2.B0)] [Af 32 a_2.EP] ((A1.ck a_2).drop 2) 1 isAgg33 sizeOf33 q0 rfl rfl rfl) <| ov [2] (Ad (p := (b1 1)) (n := 1) 0 33 underlying84 rfl sizeOf3 (by decide) q0 rfl) <| ov [500, 5] (Aj ((A1.ck a_2).take 2) (AE.ck a_2.C1) 1 isAgg3 q0 rfl rfl) <| oc [506, 504, 502, 500] [3] call99 (KO hr3) ⟨q0, q1, q2, q3, trivial⟩ <| ov [2] (Ad (p := (b1 1)) (n := 4) 0 34 underlying84 rfl sizeOf69 (by decide) q0 rfl) <| ov [500, 5] (AT ((A1.ck a_2).take 3) (AE.ck a_2.C1) [] 1 isAgg69 sizeOf69 q0 rfl rfl rfl) <| oc [512, 511, 503, 500] [502] call94 (Hg hr4) ⟨q0, q1, q2, q3, trivial⟩ <| ov [501] (Ae q0) .nil) fun _ a w h => ?_
 refine wp_ret ?_
 obtain rfl := Option.some.inj hF
 exact ⟨.inl rfl, BW h results67 (Ba 0 rfl) [1] [(AZ p_0 r4.2)] rfl rfl rfl⟩

def Ce.b1 (L_0 : Option A2) (a_1 : Aa) (a_2 : A1) (x13 : Int) : Option (Cn (Aa × Int × (Option A2)) Int) := (if (decide (x13 < (a_1.AP.length : Int))) = true then (if (0 : Int) ≤ x13 ∧ x13 < a_1.AP.length then (if (decide (x13 = a_2.Bn)) = true then ((FM L_0 (a_1.AP.getD x13.toNat default) a_2).bind fun r25 => (if (!r25.1) = true then some (.ret (a_1, 21, r25.2)) else some (.ret ((Aa.mk a_1.AX a_1.BC a_1.AQ a_1.AP a_1.A4 a_1.AN a_1.Ay a_1.Ah a_1.Bj true), 0, r25.2)))) else some (.cont (IntKind.wrap .i64 (x13 + 1)))) else none) else some (.brk x13))
def Ce.j1 (L_0 : Option A2) (a_1 : Aa) (a_2 : A1) (x5 : Bool) : Option (Aa × Int × (Option A2)) := (if x5 = true then some (a_1, 38, L_0) else ((Bu (fun s : Int => Ce.b1 L_0 a_1 a_2 s) (((a_1.AP.length : Int) - 0 : Int).toNat + 2) 0).bind fun cr => match cr with | .ret r => some r | .next y31 => some (a_1, 14, L_0)))
def Ce (L_0 : Option A2) (a_1 : Aa) (a_2 : A1) : Option (Aa × Int × (Option A2)) := (if a_1.BR = true then some (a_1, 34, L_0) else (if (!decide (a_2.B0 = a_1.AX)) = true then Ce.j1 L_0 a_1 a_2 true else Ce.j1 L_0 a_1 a_2 (!decide (a_2.EP = a_1.AQ))))
theorem KN {p_0 : Value} {L_0 : Option A2} {a_1 : Aa} {a_2 : A1} {r : Aa × Int × (Option A2)} (hF : Ce L_0 a_1 a_2 = some r) : AH prog KG 29 [(Az p_0), (Au (Aa.ck a_1)), (Au (A1.ck a_2))] [(AZ p_0 L_0)] (fun _ => [AZ p_0 r.2.2]) (Db [(Au (Aa.ck r.1)), (Ag .i64 r.2.1)]) := by
 refine AH.intro 48 func29 rfl ntmps29 (Nat.le_of_ble_eq_true rfl) ?_
 intro c a w hG hn h
 unfold Ce at hF
 change AA c [.slot 0 (Az p_0), .slot 1 (Au (Aa.ck a_1)), .slot 2 (Au (A1.ck a_2)), .res (AZ p_0 L_0)] a w at h
 refine As mixed hn hG h [0, 506, 504, 502, 3, 505, 503, 501] (ob [1] (Bc q0 (Ai _)) <| ob [2] (Bc q0 (Ai _)) <| ob [] (AR zeroValue41 MN) <| ov [] (Ae qi) .nil) fun b1 a w h => ?_
 refine wp_seq ?_
 refine As mixed hn hG h [0, 1, 2, 3, 500, 4, 5, 6, 7] (ov [1] (Ad (p := (b1 0)) (n := 1) 0 71 underlying41 rfl sizeOf4 (by decide) q0 rfl) <| ov [500, 5] (Aj ((Aa.ck a_1).take 9) [] 1 isAgg4 q0 rfl rfl) .nil) fun _ a w h => ?_
 refine CC h hF 4 [1, 3, 5, 6, 8] [0, 1, 2, 3, 5, 6, 7, 8] (fun hb4 hF h => ?_) (fun hb4 hF h => ?_)
 ·refine As mixed hn hG h [1, 500, 2, 501] (ov [0, 3] (An 1 isAgg41 sizeOf41 q0) <| ou [1, 500] 4 (Aq sizeOf41 q0 q1 (Ai _)) <| ov [] (Ae qi) .nil) fun _ a w h => ?_
  refine wp_ret ?_
  obtain rfl := Option.some.inj hF
  exact ⟨.inl rfl, CJ h (rs := [.cell 6 41, .tmp 7]) (Vs := [(Au (Aa.ck a_1)), (Ag .i64 34)]) results29 (by decide) ⟨(Be 0 3 rfl rfl isAgg41 sizeOf41 rfl), (Ba 1 rfl), trivial⟩ [2] [(AZ p_0 L_0)] rfl rfl rfl⟩
 ·refine wp_skip ?_
  show Code.wp prog _ _ a w
  refine wp_seq ?_
  refine wp_seq ?_
  refine wp_cut (fun a w => ∃ (x5 : Bool), Ce.j1 L_0 a_1 a_2 x5 = some r ∧ AA c [.slot 0 (Az p_0), .slot 4 (Av (b1 0) 0), .slot 5 (Av (b1 1) 0), .slot 6 (Av (b1 2) 0), .slot 24 (AL x5), .res (AZ p_0 L_0), .res (lb (b1 0) 41 (Aa.ck a_1)), .res (lb (b1 1) 84 (A1.ck a_2)), .res (lb (b1 2) 41 (Aa.ck (Aa.mk (0 : Int) (0 : Int) (List.replicate 32 0) [] (0 : Int) (List.replicate 32 0) [] [] false false)))] a w) ?_ ?_
  ·rcases Bool.eq_false_or_eq_true (!decide (a_2.B0 = a_1.AX)) with hb32 | hb32
   ·replace hF := CQ hb32 hF
    refine Cd mixed hn hG h [0, 1, 2, 3, 500, 4, 5, 6, 7] (ov [2] (Ad (p := (b1 1)) (n := 1) 0 0 underlying84 rfl sizeOf29 (by decide) q0 rfl) <| ov [500, 6] (Aj [] ((A1.ck a_2).drop 1) 1 isAgg29 q0 rfl rfl) <| ov [1] (Ad (p := (b1 0)) (n := 1) 0 0 underlying41 rfl sizeOf29 (by decide) q0 rfl) <| ov [500, 5] (Aj [] ((Aa.ck a_1).drop 1) 1 isAgg29 q0 rfl rfl) <| ov [502, 500] (Ak Bg q0 q1) <| ov [500] (Ab q0) <| oe [500] [] (AB.At (want := false) hb32 rfl rfl rfl rfl) <| oe [501] [] (AB.At (want := false) hb32 rfl rfl rfl rfl) <| oe [502] [] (AB.At (want := false) hb32 rfl rfl rfl rfl) <| oe [503] [] (AB.At (want := false) hb32 rfl rfl rfl rfl) <| oe [504] [] (AB.At (want := false) hb32 rfl rfl rfl rfl) <| ov [505] (AU hb32 q0 qb) .nil) fun _ a w h => ?_
    exact ⟨true, hF, h.sub [0, 1, 2, 3, 4, 5, 6, 7, 8] (by rfl)⟩
   ·replace hF := CT hb32 hF
    refine Cd mixed hn hG h [0, 1, 2, 3, 500, 4, 5, 6, 7] (ov [2] (Ad (p := (b1 1)) (n := 1) 0 0 underlying84 rfl sizeOf29 (by decide) q0 rfl) <| ov [500, 6] (Aj [] ((A1.ck a_2).drop 1) 1 isAgg29 q0 rfl rfl) <| ov [1] (Ad (p := (b1 0)) (n := 1) 0 0 underlying41 rfl sizeOf29 (by decide) q0 rfl) <| ov [500, 5] (Aj [] ((Aa.ck a_1).drop 1) 1 isAgg29 q0 rfl rfl) <| ov [502, 500] (Ak Bg q0 q1) <| ov [500] (Ab q0) <| oe [500, 2] [] (AB.Aw hb32 rfl rfl rfl (Ad (p := (b1 1)) (n := 32) 0 1 underlying84 rfl sizeOf33 (by decide) q0 rfl)) <| oe [501, 500, 6] [] (AB.Aw hb32 rfl rfl rfl (AT [one (Ag .u32 a_2.B0)] [Af 32 a_2.EP] ((A1.ck a_2).drop 2) 1 isAgg33 sizeOf33 q0 rfl rfl rfl)) <| oe [502, 1] [] (AB.Aw hb32 rfl rfl rfl (Ad (p := (b1 0)) (n := 32) 0 2 underlying41 rfl sizeOf33 (by decide) q0 rfl)) <| oe [503, 500, 5] [] (AB.Aw hb32 rfl rfl rfl (AT ((Aa.ck a_1).take 2) [Af 32 a_1.AQ] ((Aa.ck a_1).drop 3) 1 isAgg33 sizeOf33 q0 rfl rfl rfl)) <| oe [504, 502, 500] [] (AB.Aw hb32 rfl rfl rfl (Ak (Dm underlying33 underlying5 type5 sizeOf5 isAgg5 eqGuardType33) q0 q1)) <| ov [505, 500] (AV hb32 q0 q1) .nil) fun _ a w h => ?_
    exact ⟨!decide (a_2.EP = a_1.AQ), hF, h.sub [0, 1, 2, 3, 4, 5, 6, 7, 8] (by rfl)⟩
  ·clear h hF
   rintro a w ⟨x5, hF, h⟩
   unfold Ce.j1 at hF
   show Code.wp prog _ _ a w
   refine CC h hF 4 [1, 3, 5, 6, 8] [0, 1, 2, 3, 5, 6, 7, 8] (fun hb6 hF h => ?_) (fun hb6 hF h => ?_)
   ·refine As mixed hn hG h [1, 500, 2, 501] (ov [0, 3] (An 1 isAgg41 sizeOf41 q0) <| ou [1, 500] 4 (Aq sizeOf41 q0 q1 (Ai _)) <| ov [] (Ae qi) .nil) fun _ a w h => ?_
    refine wp_ret ?_
    obtain rfl := Option.some.inj hF
    exact ⟨.inl rfl, CJ h (rs := [.cell 6 41, .tmp 7]) (Vs := [(Au (Aa.ck a_1)), (Ag .i64 38)]) results29 (by decide) ⟨(Be 0 3 rfl rfl isAgg41 sizeOf41 rfl), (Ba 1 rfl), trivial⟩ [2] [(AZ p_0 L_0)] rfl rfl rfl⟩
   ·refine wp_skip ?_
    show Code.wp prog _ _ a w
    refine wp_seq ?_
    refine As mixed hn hG h [0, 1, 2, 3, 502, 501, 500, 4, 5, 6, 7] (ov [1] (Ad (p := (b1 0)) (n := 1) 0 34 underlying41 rfl sizeOf27 (by decide) q0 rfl) <| ov [500, 5] (Aj ((Aa.ck a_1).take 3) ((Aa.ck a_1).drop 4) 1 isAgg27 q0 rfl rfl) <| ov [500] (A6 underlying27 q0) <| ov [] (Ab qi) .nil) fun _ a w h => ?_
    refine wp_block ?_
    obtain ⟨cr27, hl28, hF⟩ := bind_some hF
    refine wp_mono (Bx (R := Aa × Int × (Option A2)) (S := Int) (fun s a w => AA c [.slot 0 (Az p_0), .slot 4 (Av (b1 0) 0), .slot 5 (Av (b1 1) 0), .slot 6 (Av (b1 2) 0), .slot 27 (AJ (dC 32) a_1.AP), .slot 28 (Ag .i64 (a_1.AP.length : Int)), .slot 29 (Ag .i64 s), .res (AZ p_0 L_0), .res (lb (b1 0) 41 (Aa.ck a_1)), .res (lb (b1 1) 84 (A1.ck a_2)), .res (lb (b1 2) 41 (Aa.ck (Aa.mk (0 : Int) (0 : Int) (List.replicate 32 0) [] (0 : Int) (List.replicate 32 0) [] [] false false)))] a w) (fun res e a w => match res with | .next s => e = .exit 0 ∧ AA c [.slot 4 (Av (b1 0) 0), .slot 6 (Av (b1 2) 0), .res (AZ p_0 L_0), .res (lb (b1 0) 41 (Aa.ck a_1)), .res (lb (b1 2) 41 (Aa.ck (Aa.mk (0 : Int) (0 : Int) (List.replicate 32 0) [] (0 : Int) (List.replicate 32 0) [] [] false false)))] a w | .ret r => e = .ret ∧ Cu prog f29 c (Db [(Au (Aa.ck r.1)), (Ag .i64 r.2.1)]) (fun _ => [AZ p_0 r.2.2]) a w) ?_ _ 0 _ _ _ (h.sub [0, 1, 2, 3, 4, 5, 6, 7, 8, 9, 10] (by rfl)) hl28) ?_
    ·clear hl28 hF h
     intro x13 a w o h hF
     change Ce.b1 L_0 a_1 a_2 x13 = some o at hF
     unfold Ce.b1 at hF
     change AA c [.slot 0 (Az p_0), .slot 4 (Av (b1 0) 0), .slot 5 (Av (b1 1) 0), .slot 6 (Av (b1 2) 0), .slot 27 (AJ (dC 32) a_1.AP), .slot 28 (Ag .i64 (a_1.AP.length : Int)), .slot 29 (Ag .i64 x13), .res (AZ p_0 L_0), .res (lb (b1 0) 41 (Aa.ck a_1)), .res (lb (b1 1) 84 (A1.ck a_2)), .res (lb (b1 2) 41 (Aa.ck (Aa.mk (0 : Int) (0 : Int) (List.replicate 32 0) [] (0 : Int) (List.replicate 32 0) [] [] false false)))] a w at h
     refine As mixed hn hG h [0, 1, 2, 3, 4, 5, 6, 500, 7, 8, 9, 10] (ov [6, 5] (Ak Bl q0 q1) .nil) fun _ a w h => ?_
     refine wp_seq ?_
     refine CC h hF 7 [0, 1, 2, 3, 4, 5, 6, 8, 9, 10, 11] [0, 1, 2, 3, 4, 5, 6, 8, 9, 10, 11] (fun hb21 hF h => ?_) (fun hb21 hF h => ?_)
     ·refine wp_skip ?_
      show Code.wp prog _ _ a w
      refine wp_seq ?_
      refine wp_block ?_
      obtain ⟨hv22, hF⟩ := AF hF
      refine As mixed hn hG h [0, 1, 2, 3, 501, 503, 4, 5, 6, 7, 8, 9, 10, 500] (ov [6] (Ab q0) <| ov [4, 6] (AS underlying27 sizeOf33 (Bk 32) q0 q1 hv22) <| ov [500] (Bq [Af 32 (a_1.AP.getD x13.toNat default)] [] isAgg33 sizeOf33 q0 rfl) <| ob [] (AR zeroValue33 FT) <| ov [504] (Ae q0) <| og [502, 503] [501] [.res 3 100000 (fun v1_ _ => (lb (v1_) 33 [Af 32 (a_1.AP.getD x13.toNat default)]))] (AB.plain (Aq sizeOf33 q0 q1 (Ai _)) rfl) .nil) fun b23 a w h => ?_
      refine As mixed hn hG h [0, 1, 2, 3, 5, 6, 7, 8, 500, 9, 10, 11, 12, 13] (ov [4] (Ab q0) <| ov [2] (Ad (p := (b1 1)) (n := 1) 0 33 underlying84 rfl sizeOf3 (by decide) q0 rfl) <| ov [500, 11] (Aj ((A1.ck a_2).take 2) (AE.ck a_2.C1) 1 isAgg3 q0 rfl rfl) <| ov [502, 500] (Ak CI q0 q1) .nil) fun _ a w h => ?_
      refine CC h hF 8 [0, 1, 2, 3, 4, 9, 10, 11, 12, 13] [0, 1, 2, 3, 5, 6, 7, 9, 10, 11, 12] (fun hb24 hF h => ?_) (fun hb24 hF h => ?_)
      ·refine wp_seq ?_
       obtain ⟨r25, hr25, hF⟩ := bind_some hF
       refine As mixed hn hG h [1, 3, 500, 6, 8, 501] (ov [0] (Ab q0) <| ov [4, 9] (An 1 isAgg33 sizeOf33 q0) <| ov [2, 7] (An 1 isAgg84 sizeOf84 q0) <| oc [502, 501, 500] [5] call67 (J3 hr25) ⟨q0, q1, q2, trivial⟩ <| ov [501] (EO (Ec _) q0) .nil) fun _ a w h => ?_
       refine CC h hF 2 [0, 1, 3, 4, 5] [0, 1, 3, 4, 5] (fun hb26 hF h => ?_) (fun hb26 hF h => ?_)
       ·refine As mixed hn hG h [1, 500, 501, 4] (ov [0, 2] (An 1 isAgg41 sizeOf41 q0) <| ou [1, 500] 3 (Aq sizeOf41 q0 q1 (Ai _)) <| ov [] (Ae qi) .nil) fun _ a w h => ?_
        refine wp_ret ?_
        obtain rfl := Option.some.inj hF
        exact ⟨EA, rfl, CJ h (rs := [.cell 6 41, .tmp 7]) (Vs := [(Au (Aa.ck a_1)), (Ag .i64 21)]) results29 (by decide) ⟨(Be 0 2 rfl rfl isAgg41 sizeOf41 rfl), (Ba 1 rfl), trivial⟩ [3] [(AZ p_0 r25.2)] rfl rfl rfl⟩
       ·refine wp_skip ?_
        show Code.wp prog _ _ a w
        refine As mixed hn hG h [0, 1, 500, 3, 4] (ov [0] (Ad (p := (b1 0)) (n := 1) 0 71 underlying41 rfl sizeOf4 (by decide) q0 rfl) <| ou [500] 2 (B8 ((Aa.ck a_1).take 9) [one (AL a_1.BR)] [] [one (AL true)] sizeOf4 q0 qb (AG (Mp _)) rfl rfl rfl) .nil) fun _ a w h => ?_
        refine As mixed hn hG h [1, 500, 501, 4] (ov [0, 2] (An 1 isAgg41 sizeOf41 q0) <| ou [1, 500] 3 (Aq sizeOf41 q0 q1 (Ai _)) <| ov [] (Ae qi) .nil) fun _ a w h => ?_
        refine wp_ret ?_
        obtain rfl := Option.some.inj hF
        exact ⟨EA, rfl, CJ h (rs := [.cell 6 41, .tmp 7]) (Vs := [(Au [one (Ag .u32 a_1.AX), one (Ag .u32 a_1.BC), Af 32 a_1.AQ, one (AJ (dC 32) a_1.AP), one (Ag .u64 a_1.A4), Af 32 a_1.AN, one (AJ Ao.ck a_1.Ay), one (AJ Al.ck a_1.Ah), one (AL a_1.Bj), one (AL true)]), (Ag .i64 0)]) results29 (by decide) ⟨(Be 0 2 rfl rfl isAgg41 sizeOf41 rfl), (Ba 1 rfl), trivial⟩ [3] [(AZ p_0 r25.2)] rfl rfl rfl⟩
      ·refine wp_skip ?_
       show Code.wp prog _ _ a w
       refine Cd mixed hn hG h [0, 1, 2, 3, 4, 5, 500, 7, 8, 9, 10] (ov [6] (Ak A9 q0 qi) <| od [500] 6 (Ab q0) .nil) fun _ a w h => ?_
       obtain rfl := Option.some.inj hF
       exact ⟨rfl, h.sub [0, 1, 2, 3, 4, 5, 6, 7, 8, 9, 10] (by rfl)⟩
     ·refine wp_exit ?_
      obtain rfl := Option.some.inj hF
      exact ⟨BK _, rfl, h.sub [1, 3, 7, 8, 10] (by rfl)⟩
    ·clear hl28
     intro e a w hq
     cases cr27 with
     | ret r29 =>
      obtain ⟨rfl, hq⟩ := hq
      obtain rfl := Option.some.inj hF
      exact ⟨.inl rfl, hq⟩
     | next y31 =>
      obtain ⟨rfl, h⟩ := hq
      change AA c [.slot 4 (Av (b1 0) 0), .slot 6 (Av (b1 2) 0), .res (AZ p_0 L_0), .res (lb (b1 0) 41 (Aa.ck a_1)), .res (lb (b1 2) 41 (Aa.ck (Aa.mk (0 : Int) (0 : Int) (List.replicate 32 0) [] (0 : Int) (List.replicate 32 0) [] [] false false)))] a w at h
      refine Bd ?_
      show Code.wp prog _ _ a w
      refine As mixed hn hG h [1, 500, 2, 501] (ov [0, 3] (An 1 isAgg41 sizeOf41 q0) <| ou [1, 500] 4 (Aq sizeOf41 q0 q1 (Ai _)) <| ov [] (Ae qi) .nil) fun _ a w h => ?_
      refine wp_ret ?_
      obtain rfl := Option.some.inj hF
      exact ⟨.inl rfl, CJ h (rs := [.cell 6 41, .tmp 7]) (Vs := [(Au (Aa.ck a_1)), (Ag .i64 14)]) results29 (by decide) ⟨(Be 0 3 rfl rfl isAgg41 sizeOf41 rfl), (Ba 1 rfl), trivial⟩ [2] [(AZ p_0 L_0)] rfl rfl rfl⟩

def CB.b1 (a_0 : List (List UInt8)) (a_1 : List (List UInt8)) (x6 : Int) : Option (Cn Bool Int) := (if (decide (x6 < (a_0.length : Int))) = true then (if (0 : Int) ≤ x6 ∧ x6 < a_0.length then (if (0 : Int) ≤ x6 ∧ x6 < a_1.length then (if (!decide ((a_0.getD x6.toNat default) = (a_1.getD x6.toNat default))) = true then some (.ret false) else some (.cont (IntKind.wrap .i64 (x6 + 1)))) else none) else none) else some (.brk x6))
def CB (a_0 : List (List UInt8)) (a_1 : List (List UInt8)) : Option Bool := (if (!decide ((a_0.length : Int) = (a_1.length : Int))) = true then some false else ((Bu (fun s : Int => CB.b1 a_0 a_1 s) (((a_0.length : Int) - 0 : Int).toNat + 2) 0).bind fun cr => match cr with | .ret r => some r | .next y20 => some true))
theorem Fb {a_0 : List (List UInt8)} {a_1 : List (List UInt8)} {r : Bool} (hF : CB a_0 a_1 = some r) : AH prog KG 68 [(AJ (dC 32) a_0), (AJ (dC 32) a_1)] [] (fun _ => []) (AL r) := by
 refine AH.intro 26 func68 rfl ntmps68 (Nat.le_of_ble_eq_true rfl) ?_
 intro c a w hG hn h
 unfold CB at hF
 change AA c [.slot 0 (AJ (dC 32) a_0), .slot 1 (AJ (dC 32) a_1)] a w at h
 refine As mixed hn hG h [0, 1] (ov [] (Ae qb) .nil) fun _ a w h => ?_
 refine wp_seq ?_
 refine As mixed hn hG h [0, 1, 500] (ov [0] (Ab q0) <| ov [500] (A6 underlying27 q0) <| ov [1] (Ab q0) <| ov [500] (A6 underlying27 q0) <| ov [502, 500] (Ak Bg q0 q1) .nil) fun _ a w h => ?_
 refine CC h hF 2 [] [0, 1] (fun hb1 hF h => ?_) (fun hb1 hF h => ?_)
 ·refine As mixed hn hG h [500] (ov [] (Ae qb) .nil) fun _ a w h => ?_
  refine wp_ret ?_
  obtain rfl := Option.some.inj hF
  exact ⟨.inl rfl, BW h results68 (Ba 0 rfl) [] [] rfl rfl rfl⟩
 ·refine wp_skip ?_
  show Code.wp prog _ _ a w
  refine wp_seq ?_
  refine As mixed hn hG h [0, 1, 501, 500] (ov [0] (Ab q0) <| ov [500] (A6 underlying27 q0) <| ov [] (Ab qi) .nil) fun _ a w h => ?_
  refine wp_block ?_
  obtain ⟨cr16, hl17, hF⟩ := bind_some hF
  refine wp_mono (Bx (R := Bool) (S := Int) (fun s a w => AA c [.slot 0 (AJ (dC 32) a_0), .slot 1 (AJ (dC 32) a_1), .slot 12 (Ag .i64 (a_0.length : Int)), .slot 13 (Ag .i64 s)] a w) (fun res e a w => match res with | .next s => e = .exit 0 ∧ AA c [] a w | .ret r => e = .ret ∧ Cu prog f68 c (AL r) (fun _ => []) a w) ?_ _ 0 _ _ _ (h.sub [0, 1, 2, 3] (by rfl)) hl17) ?_
  ·clear hl17 hF h
   intro x6 a w o h hF
   change CB.b1 a_0 a_1 x6 = some o at hF
   unfold CB.b1 at hF
   change AA c [.slot 0 (AJ (dC 32) a_0), .slot 1 (AJ (dC 32) a_1), .slot 12 (Ag .i64 (a_0.length : Int)), .slot 13 (Ag .i64 x6)] a w at h
   refine As mixed hn hG h [0, 1, 2, 3, 500] (ov [3, 2] (Ak Bl q0 q1) .nil) fun _ a w h => ?_
   refine wp_seq ?_
   refine CC h hF 4 [0, 1, 2, 3] [0, 1, 2, 3] (fun hb12 hF h => ?_) (fun hb12 hF h => ?_)
   ·refine wp_skip ?_
    show Code.wp prog _ _ a w
    refine wp_seq ?_
    refine wp_block ?_
    refine As mixed hn hG h [0, 1, 500, 2, 3] (ov [3] (Ab q0) <| ov [500] (Ae q0) .nil) fun _ a w h => ?_
    obtain ⟨hv13, hF⟩ := AF hF
    obtain ⟨hv14, hF⟩ := AF hF
    refine As mixed hn hG h [0, 1, 3, 4, 500] (ov [0] (Ab q0) <| ov [2] (Ab q0) <| ov [501, 500] (AS underlying27 sizeOf33 (Bk 32) q0 q1 hv13) <| ov [500] (Bq [Af 32 (a_0.getD x6.toNat default)] [] isAgg33 sizeOf33 q0 rfl) <| ov [1] (Ab q0) <| ov [2] (Ab q0) <| ov [501, 500] (AS underlying27 sizeOf33 (Bk 32) q0 q1 hv14) <| ov [500] (Bq [Af 32 (a_1.getD x6.toNat default)] [] isAgg33 sizeOf33 q0 rfl) <| ov [504, 500] (Ak (Dm underlying33 underlying5 type5 sizeOf5 isAgg5 eqGuardType33) q0 q1) .nil) fun _ a w h => ?_
    refine CC h hF 4 [] [0, 1, 2, 3] (fun hb15 hF h => ?_) (fun hb15 hF h => ?_)
    ·refine As mixed hn hG h [500] (ov [] (Ae qb) .nil) fun _ a w h => ?_
     refine wp_ret ?_
     obtain rfl := Option.some.inj hF
     exact ⟨EA, rfl, BW h results68 (Ba 0 rfl) [] [] rfl rfl rfl⟩
    ·refine wp_skip ?_
     show Code.wp prog _ _ a w
     refine Cd mixed hn hG h [0, 1, 2, 500] (ov [3] (Ak A9 q0 qi) <| od [500] 3 (Ab q0) .nil) fun _ a w h => ?_
     obtain rfl := Option.some.inj hF
     exact ⟨rfl, h.sub [0, 1, 2, 3] (by rfl)⟩
   ·refine wp_exit ?_
    obtain rfl := Option.some.inj hF
    exact ⟨BK _, rfl, h.sub [] (by rfl)⟩
  ·clear hl17
   intro e a w hq
   cases cr16 with
   | ret r18 =>
    obtain ⟨rfl, hq⟩ := hq
    obtain rfl := Option.some.inj hF
    exact ⟨.inl rfl, hq⟩
   | next y20 =>
    obtain ⟨rfl, h⟩ := hq
    change AA c [] a w at h
    refine Bd ?_
    show Code.wp prog _ _ a w
    refine As mixed hn hG h [500] (ov [] (Ae qb) .nil) fun _ a w h => ?_
    refine wp_ret ?_
    obtain rfl := Option.some.inj hF
    exact ⟨.inl rfl, BW h results68 (Ba 0 rfl) [] [] rfl rfl rfl⟩
end Go.Proofs.YteboiefnflipjaaGreatDoor
