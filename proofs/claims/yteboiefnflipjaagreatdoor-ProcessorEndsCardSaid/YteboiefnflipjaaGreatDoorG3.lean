/- The functions' Lean twins and contracts, printed by this session's own program: part 3. -/
import Derived.Test.YteboiefnflipjaaGreatDoorG2
namespace Go.Proofs.YteboiefnflipjaaGreatDoor
open _root_.Go.Proofs.Tryz
open Go Go.RowKit Go.Proofs
set_option maxRecDepth 100000
set_option maxHeartbeats 4000000
set_option linter.unusedVariables false
set_option linter.unusedSimpArgs false
def Bj.b1 (r1 : (List UInt8) × Cg) (x4 : Int) (x5 : Int) : Option (CR (Int × Cg) (Int × Int)) := (if (decide (x5 < (r1.1.length : Int))) = true then (if (0 : Int) ≤ x5 ∧ x5 < r1.1.length then some (.cont (bits .or .u64 (shl .u64 x4 8) (IntKind.wrap .u64 ((r1.1.getD x5.toNat default).toNat)), IntKind.wrap .i64 (x5 + 1))) else none) else some (.brk (x4, x5)))
def Bj (L_0 : Cg) (a_1 : Int) : Option (Int × Cg) := ((Dy L_0 a_1).bind fun r1 => ((Bf (fun s : Int × Int => Bj.b1 r1 s.1 s.2) (((r1.1.length : Int) - 0 : Int).toNat + 2) (0, 0)).bind fun cr => match cr with | .ret r => some r | .next (y16, y17) => some (y16, r1.2)))
theorem Ep {p_0 : Value} {L_0 : Cg} {a_1 : Int} {r : Int × Cg} (hF : Bj L_0 a_1 = some r) : Az prog KG 136 [(Am p_0), (Ab .i64 a_1)] [(BS p_0 (some L_0))] (fun _ => [BS p_0 (some r.2)]) (Ab .u64 r.1) := by
 refine Az.intro 24 func136 rfl ntmps136 (Nat.le_of_ble_eq_true rfl) ?_
 intro c a w hG hn h
 unfold Bj at hF
 change Ar c [.slot 0 (Am p_0), .slot 1 (Ab .i64 a_1), .res (BS p_0 (some L_0))] a w at h
 refine Ao mixed hn hG h [0, 1, 2] (ov [] (Ad qi) .nil) fun _ a w h => ?_
 refine Ao mixed hn hG h [0, 1, 500, 2] (ov [] (Ad qi) .nil) fun _ a w h => ?_
 refine wp_seq ?_
 obtain ⟨r1, hr1, hF⟩ := bind_some hF
 refine Ao mixed hn hG h [2, 502, 501, 500, 503] (ov [0] (Aa q0) <| ov [1] (Aa q0) <| oc [501, 500] [3] call137 (FC hr1) ⟨q0, q1, trivial⟩ <| ov [501] (GY underlying9 underlying207 underlying5 q0) <| ov [500] (A4 underlying207 q0) <| ov [] (Aa qi) .nil) fun _ a w h => ?_
 refine wp_block ?_
 obtain ⟨cr12, hl13, hF⟩ := bind_some hF
 refine wp_mono (Bw (R := Int × Cg) (S := Int × Int) (fun s a w => Ar c [.slot 5 (Ab .u64 s.1), .slot 11 (An bC r1.1), .slot 12 (Ab .i64 (r1.1.length : Int)), .slot 13 (Ab .i64 s.2), .res (BS p_0 (some r1.2))] a w) (fun res e a w => match res with | .next s => e = .exit 0 ∧ Ar c [.slot 5 (Ab .u64 s.1), .res (BS p_0 (some r1.2))] a w | .ret r => e = .ret ∧ CO prog f136 c (Ab .u64 r.1) (fun _ => [BS p_0 (some r.2)]) a w) ?_ _ (0, 0) _ _ _ (h.sub [0, 1, 2, 3, 4] (by rfl)) hl13) ?_
 ·clear hl13 hF h
  intro s a w o h hF
  obtain ⟨x4, x5⟩ := s
  change Bj.b1 r1 x4 x5 = some o at hF
  unfold Bj.b1 at hF
  change Ar c [.slot 5 (Ab .u64 x4), .slot 11 (An bC r1.1), .slot 12 (Ab .i64 (r1.1.length : Int)), .slot 13 (Ab .i64 x5), .res (BS p_0 (some r1.2))] a w at h
  refine Ao mixed hn hG h [0, 1, 2, 3, 500, 4] (ov [3, 2] (Ak Bl q0 q1) .nil) fun _ a w h => ?_
  refine wp_seq ?_
  refine DL h hF 4 [0, 1, 2, 3, 5] [0, 1, 2, 3, 5] (fun hb10 hF h => ?_) (fun hb10 hF h => ?_)
  ·refine wp_skip ?_
   show Code.wp prog _ _ a w
   refine wp_seq ?_
   refine wp_block ?_
   obtain ⟨hv11, hF⟩ := Ay hF
   refine Ao mixed hn hG h [0, 500, 1, 2, 3, 4] (ov [1, 3] (AL underlying207 sizeOf5 DQ q0 q1 hv11) <| ov [500] (BH [] isAgg5 q0) <| ov [500] (Ad q0) .nil) fun _ a w h => ?_
   refine CY mixed hn hG h [500, 2, 3, 4, 5] (ov [0] (Aa q0) <| ov [500] (Ak (Gr rfl) q0 qi) <| ov [1] (Aa q0) <| ov [500] (AW underlying5 underlying24 q0) <| ov [502, 500] (Ak It q0 q1) <| od [500] 0 (Ad q0) .nil) fun _ a w h => ?_
   show Code.wp prog _ _ a w
   refine CY mixed hn hG h [0, 1, 2, 500, 4] (ov [3] (Ak AY q0 qi) <| od [500] 3 (Aa q0) .nil) fun _ a w h => ?_
   obtain rfl := Option.some.inj hF
   exact ⟨rfl, h.sub [0, 1, 2, 3, 4] (by rfl)⟩
  ·refine wp_exit ?_
   obtain rfl := Option.some.inj hF
   exact ⟨BQ _, rfl, h.sub [0, 4] (by rfl)⟩
 ·clear hl13
  intro e a w hq
  cases cr12 with
  | ret r14 =>
   obtain ⟨rfl, hq⟩ := hq
   obtain rfl := Option.some.inj hF
   exact ⟨.inl rfl, hq⟩
  | next s15 =>
   obtain ⟨y16, y17⟩ := s15
   obtain ⟨rfl, h⟩ := hq
   change Ar c [.slot 5 (Ab .u64 y16), .res (BS p_0 (some r1.2))] a w at h
   refine Be ?_
   show Code.wp prog _ _ a w
   refine Ao mixed hn hG h [500, 1] (ov [0] (Aa q0) <| ov [500] (Ad q0) .nil) fun _ a w h => ?_
   refine wp_ret ?_
   obtain rfl := Option.some.inj hF
   exact ⟨.inl rfl, BG h results136 (Bc 0 rfl) [1] [(BS p_0 (some r1.2))] rfl rfl rfl⟩

def D1 (L_0 : Cg) : Option (Int × Cg) := ((Bj L_0 1).bind fun r1 => some (IntKind.wrap .u8 r1.1, r1.2))
theorem Hh {p_0 : Value} {L_0 : Cg} {r : Int × Cg} (hF : D1 L_0 = some r) : Az prog KG 121 [(Am p_0)] [(BS p_0 (some L_0))] (fun _ => [BS p_0 (some r.2)]) (Ab .u8 r.1) := by
 refine Az.intro 6 func121 rfl ntmps121 (Nat.le_of_ble_eq_true rfl) ?_
 intro c a w hG hn h
 unfold D1 at hF
 change Ar c [.slot 0 (Am p_0), .res (BS p_0 (some L_0))] a w at h
 refine Ao mixed hn hG h [0, 1] (ov [] (Ad qi) .nil) fun _ a w h => ?_
 obtain ⟨r1, hr1, hF⟩ := bind_some hF
 refine Ao mixed hn hG h [500, 502] (ov [0] (Aa q0) <| oc [500] [1] call136 (Ep hr1) ⟨q0, qi, trivial⟩ <| ov [501] (AW underlying24 underlying5 q0) <| ov [500] (Ad q0) .nil) fun _ a w h => ?_
 refine wp_ret ?_
 obtain rfl := Option.some.inj hF
 exact ⟨.inl rfl, BG h results121 (Bc 0 rfl) [1] [(BS p_0 (some r1.2))] rfl rfl rfl⟩

def D0 (L_0 : Cg) : Option (Int × Cg) := ((Bj L_0 4).bind fun r1 => some (IntKind.wrap .u32 r1.1, r1.2))
theorem Hg {p_0 : Value} {L_0 : Cg} {r : Int × Cg} (hF : D0 L_0 = some r) : Az prog KG 122 [(Am p_0)] [(BS p_0 (some L_0))] (fun _ => [BS p_0 (some r.2)]) (Ab .u32 r.1) := by
 refine Az.intro 6 func122 rfl ntmps122 (Nat.le_of_ble_eq_true rfl) ?_
 intro c a w hG hn h
 unfold D0 at hF
 change Ar c [.slot 0 (Am p_0), .res (BS p_0 (some L_0))] a w at h
 refine Ao mixed hn hG h [0, 1] (ov [] (Ad qi) .nil) fun _ a w h => ?_
 obtain ⟨r1, hr1, hF⟩ := bind_some hF
 refine Ao mixed hn hG h [500, 502] (ov [0] (Aa q0) <| oc [500] [1] call136 (Ep hr1) ⟨q0, qi, trivial⟩ <| ov [501] (AW underlying24 underlying29 q0) <| ov [500] (Ad q0) .nil) fun _ a w h => ?_
 refine wp_ret ?_
 obtain rfl := Option.some.inj hF
 exact ⟨.inl rfl, BG h results122 (Bc 0 rfl) [1] [(BS p_0 (some r1.2))] rfl rfl rfl⟩

def Dz (L_0 : Cg) : Option (Int × Cg) := ((Bj L_0 8).bind fun r1 => some (r1.1, r1.2))
theorem FD {p_0 : Value} {L_0 : Cg} {r : Int × Cg} (hF : Dz L_0 = some r) : Az prog KG 123 [(Am p_0)] [(BS p_0 (some L_0))] (fun _ => [BS p_0 (some r.2)]) (Ab .u64 r.1) := by
 refine Az.intro 5 func123 rfl ntmps123 (Nat.le_of_ble_eq_true rfl) ?_
 intro c a w hG hn h
 unfold Dz at hF
 change Ar c [.slot 0 (Am p_0), .res (BS p_0 (some L_0))] a w at h
 refine Ao mixed hn hG h [0, 1] (ov [] (Ad qi) .nil) fun _ a w h => ?_
 obtain ⟨r1, hr1, hF⟩ := bind_some hF
 refine Ao mixed hn hG h [500, 501] (ov [0] (Aa q0) <| oc [500] [1] call136 (Ep hr1) ⟨q0, qi, trivial⟩ <| ov [501] (Ad q0) .nil) fun _ a w h => ?_
 refine wp_ret ?_
 obtain rfl := Option.some.inj hF
 exact ⟨.inl rfl, BG h results123 (Bc 0 rfl) [1] [(BS p_0 (some r1.2))] rfl rfl rfl⟩

def Co (L_0 : Cg) : Option ((List UInt8) × Cg) := ((Dy L_0 32).bind fun r3 => some ((List.replicate 32 0).take (0 : Int).toNat ++ r3.1.take (min r3.1.length ((32 : Int).toNat - (0 : Int).toNat)) ++ (List.replicate 32 0).drop ((0 : Int).toNat + (min r3.1.length ((32 : Int).toNat - (0 : Int).toNat))), r3.2))
theorem Er {p_0 : Value} {L_0 : Cg} {r : (List UInt8) × Cg} (hF : Co L_0 = some r) : Az prog KG 124 [(Am p_0)] [(BS p_0 (some L_0))] (fun _ => [BS p_0 (some r.2)]) (AG [Af 32 r.1]) := by
 refine Az.intro 9 func124 rfl ntmps124 (Nat.le_of_ble_eq_true rfl) ?_
 intro c a w hG hn h
 unfold Co at hF
 change Ar c [.slot 0 (Am p_0), .res (BS p_0 (some L_0))] a w at h
 refine Ao mixed hn hG h [0, 501, 1, 500] (ob [] (AJ zeroValue33 GN) .nil) fun b1 a w h => ?_
 refine Ao mixed hn hG h [0, 1, 501, 2, 3, 500] (ob [] (AJ zeroValue33 GN) .nil) fun b2 a w h => ?_
 obtain ⟨r3, hr3, hF⟩ := bind_some hF
 refine Ao mixed hn hG h [1, 2, 4, 500, 502] (ov [2] (Eb (a := 0) (b := 32) underlying33 sizeOf5 q0 rfl rfl (by decide)) <| ov [0] (Aa q0) <| oc [500] [3] call137 (FC hr3) ⟨q0, qi, trivial⟩ <| oe [503, 501] [5] (AV.plain (La (i := (0 : Int).toNat) [] [] underlying207 rfl q0 q1 (by rfl) (by decide) (by decide)) rfl) .nil) fun _ a w h => ?_
 refine Ao mixed hn hG h [0, 500, 4] (ov [1, 3] (AA 1 isAgg33 sizeOf33 q0) <| ou [0, 500] 2 (Aq sizeOf33 q0 q1 (Al _)) .nil) fun _ a w h => ?_
 refine wp_ret ?_
 obtain rfl := Option.some.inj hF
 exact ⟨.inl rfl, BG h results124 (Bs 0 1 rfl rfl isAgg33 sizeOf33 rfl) [2] [(BS p_0 (some r3.2))] rfl rfl rfl⟩

def Ce.j1 (L_0 : Cg) (x2 : Bool) : Option (Int × Cg) := (if x2 = true then some (4, L_0) else some (L_0.H4, L_0))
def Ce (L_0 : Cg) : Option (Int × Cg) := (if (decide (L_0.H4 = (0 : Int))) = true then Ce.j1 L_0 (!decide (L_0.FM = [])) else Ce.j1 L_0 false)
theorem FO {p_0 : Value} {L_0 : Cg} {r : Int × Cg} (hF : Ce L_0 = some r) : Az prog KG 125 [(Am p_0)] [(BS p_0 (some L_0))] (fun _ => [BS p_0 (some r.2)]) (Ab .i64 r.1) := by
 refine Az.intro 23 func125 rfl ntmps125 (Nat.le_of_ble_eq_true rfl) ?_
 intro c a w hG hn h
 unfold Ce at hF
 change Ar c [.slot 0 (Am p_0), .res (BS p_0 (some L_0))] a w at h
 refine Ao mixed hn hG h [0, 1] (ov [] (Ad qi) .nil) fun _ a w h => ?_
 refine wp_seq ?_
 refine wp_block ?_
 have hp := h.Hi 1 rfl (fun Φ f w q => G6 Φ f w q)
 replace h := h.B6 0 rfl (V' := Au p_0 0) (fun _ _ h => DG h hp)
 replace h := h.sub [0, 1] (by rfl)
 change Ar c [.slot 0 (Au p_0 0), .res (lb p_0 259 [one (As L_0.FM), one (Ab .i64 L_0.H4)])] a w at h
 refine wp_seq ?_
 refine CY mixed hn hG h [0, 500, 1] (ov [0] (Aa q0) <| ov [500] (Ak (Gt underlying236) (KE q0) (DZ (ec _))) <| ov [500] (Ad q0) .nil) fun _ a w h => ?_
 replace h := h.conv 2 rfl (R' := BS p_0 (some L_0)) (Eo (o := (some L_0)))
 replace h := h.B6 0 rfl (fun _ _ h => DD h)
 replace h := h.sub [0, 1, 2] (by rfl)
 change Ar c [.slot 0 (Am p_0), .slot 3 (AE false), .res (BS p_0 (some L_0))] a w at h
 show Code.wp prog _ _ a w
 refine D6 h 1 rfl (fun hb1 => ?_) (fun hb1 => ?_)
 ·cases hb1
 ·skip
  replace h := h.LO [0, 2]
  have hp := h.Hi 1 rfl (fun Φ f w q => G6 Φ f w q)
  replace h := h.B6 0 rfl (V' := Au p_0 0) (fun _ _ h => DG h hp)
  replace h := h.sub [0, 1] (by rfl)
  change Ar c [.slot 0 (Au p_0 0), .res (lb p_0 259 [one (As L_0.FM), one (Ab .i64 L_0.H4)])] a w at h
  refine wp_seq ?_
  refine wp_cut (fun a w => ∃ (x2 : Bool), Ce.j1 L_0 x2 = some r ∧ Ar c [.slot 0 (Am p_0), .slot 6 (AE x2), .res (BS p_0 (some L_0))] a w) ?_ ?_
  ·rcases Bool.eq_false_or_eq_true (decide (L_0.H4 = (0 : Int))) with hb4 | hb4
   ·replace hF := EM hb4 hF
    refine CY mixed hn hG h [0, 500, 1] (ov [0] (Aa q0) <| ov [500] (Bz q0 (DA _ _)) <| ov [500] (Aj (p := p_0) (n := 1) 0 1 underlying259 rfl sizeOf48 (by decide) q0 rfl) <| ov [500, 1] (AB [one (As L_0.FM)] [] 1 isAgg48 q0 rfl rfl) <| ov [500] (Ak C3 q0 qi) <| ov [500] (Aa q0) <| oe [500, 0] [] (AV.AT hb4 rfl rfl rfl (Aa q0)) <| oe [501, 500] [] (AV.AT hb4 rfl rfl rfl (Bz q0 (DA _ _))) <| oe [502, 500] [] (AV.AT hb4 rfl rfl rfl (Aj (p := p_0) (n := 1) 0 0 underlying259 rfl sizeOf9 (by decide) q0 rfl)) <| oe [503, 500, 1] [] (AV.AT hb4 rfl rfl rfl (AB [] [one (Ab .i64 L_0.H4)] 1 isAgg9 q0 rfl rfl)) <| oe [504, 500] [] (AV.AT hb4 rfl rfl rfl (Ak Lu q0 (DZ (sc _ (by decide))))) <| ov [505, 500] (Bu hb4 q0 q1) <| ov [500] (Ad q0) .nil) fun _ a w h => ?_
    replace h := h.conv 2 rfl (R' := BS p_0 (some L_0)) (Eo (o := (some L_0)))
    replace h := h.B6 0 rfl (fun _ _ h => DD h)
    replace h := h.sub [0, 1, 2] (by rfl)
    change Ar c [.slot 0 (Am p_0), .slot 6 (AE (!decide (L_0.FM = []))), .res (BS p_0 (some L_0))] a w at h
    exact ⟨!decide (L_0.FM = []), hF, h.sub [0, 1, 2] (by rfl)⟩
   ·replace hF := EO hb4 hF
    refine CY mixed hn hG h [0, 500, 1] (ov [0] (Aa q0) <| ov [500] (Bz q0 (DA _ _)) <| ov [500] (Aj (p := p_0) (n := 1) 0 1 underlying259 rfl sizeOf48 (by decide) q0 rfl) <| ov [500, 1] (AB [one (As L_0.FM)] [] 1 isAgg48 q0 rfl rfl) <| ov [500] (Ak C3 q0 qi) <| ov [500] (Aa q0) <| oe [500] [] (AV.AZ (want := true) hb4 rfl rfl rfl rfl) <| oe [501] [] (AV.AZ (want := true) hb4 rfl rfl rfl rfl) <| oe [502] [] (AV.AZ (want := true) hb4 rfl rfl rfl rfl) <| oe [503] [] (AV.AZ (want := true) hb4 rfl rfl rfl rfl) <| oe [504] [] (AV.AZ (want := true) hb4 rfl rfl rfl rfl) <| ov [505] (Bq hb4 q0 qb) <| ov [500] (Ad q0) .nil) fun _ a w h => ?_
    replace h := h.conv 2 rfl (R' := BS p_0 (some L_0)) (Eo (o := (some L_0)))
    replace h := h.B6 0 rfl (fun _ _ h => DD h)
    replace h := h.sub [0, 1, 2] (by rfl)
    change Ar c [.slot 0 (Am p_0), .slot 6 (AE false), .res (BS p_0 (some L_0))] a w at h
    exact ⟨false, hF, h.sub [0, 1, 2] (by rfl)⟩
  ·clear h hF
   rintro a w ⟨x2, hF, h⟩
   unfold Ce.j1 at hF
   show Code.wp prog _ _ a w
   refine DL h hF 1 [2] [0, 2] (fun hb3 hF h => ?_) (fun hb3 hF h => ?_)
   ·refine Ao mixed hn hG h [500, 0] (ov [] (Ad qi) .nil) fun _ a w h => ?_
    refine wp_ret ?_
    obtain rfl := Option.some.inj hF
    exact ⟨.inl rfl, BG h results125 (Bc 0 rfl) [1] [(BS p_0 (some L_0))] rfl rfl rfl⟩
   ·refine wp_skip ?_
    show Code.wp prog _ _ a w
    have hp := h.Hi 1 rfl (fun Φ f w q => G6 Φ f w q)
    replace h := h.B6 0 rfl (V' := Au p_0 0) (fun _ _ h => DG h hp)
    replace h := h.sub [0, 1] (by rfl)
    change Ar c [.slot 0 (Au p_0 0), .res (lb p_0 259 [one (As L_0.FM), one (Ab .i64 L_0.H4)])] a w at h
    refine wp_seq ?_
    refine CY mixed hn hG h [500, 1] (ov [0] (Aa q0) <| ov [500] (Bz q0 (DA _ _)) <| ov [500] (Aj (p := p_0) (n := 1) 0 1 underlying259 rfl sizeOf48 (by decide) q0 rfl) <| ov [500, 1] (AB [one (As L_0.FM)] [] 1 isAgg48 q0 rfl rfl) <| ov [500] (Ad q0) .nil) fun _ a w h => ?_
    replace h := h.conv 1 rfl (R' := BS p_0 (some L_0)) (Eo (o := (some L_0)))
    replace h := h.sub [0, 1] (by rfl)
    change Ar c [.slot 2 (Ab .i64 L_0.H4), .res (BS p_0 (some L_0))] a w at h
    show Code.wp prog _ _ a w
    refine wp_ret ?_
    obtain rfl := Option.some.inj hF
    exact ⟨.inl rfl, BG h results125 (Bc 0 rfl) [1] [(BS p_0 (some L_0))] rfl rfl rfl⟩

def DC.j1 (r4 : Int × Cg) (r5 : Int × Cg) (r6 : Int × Cg) (r7 : (List UInt8) × Cg) (r8 : (List UInt8) × Cg) (r9 : Int × Cg) (x14 : Bool) : Option (AD × Bool) := some ((AD.mk r4.1 r5.1 r6.1 r7.1 r8.1 r9.1), x14)
def DC (a_0 : List UInt8) : Option (AD × Bool) := ((H7 a_0).bind fun r2 => ((D1 r2).bind fun r4 => ((D0 r4.2).bind fun r5 => ((Dz r5.2).bind fun r6 => ((Co r6.2).bind fun r7 => ((Co r7.2).bind fun r8 => ((Dz r8.2).bind fun r9 => ((Co r9.2).bind fun r11 => ((Ce r11.2).bind fun r12 => (if (decide (r12.1 = (0 : Int))) = true then ((Ec (AD.mk r4.1 r5.1 r6.1 r7.1 r8.1 r9.1)).bind fun r13 => DC.j1 r4 r5 r6 r7 r8 r9 (decide (r13 = a_0))) else DC.j1 r4 r5 r6 r7 r8 r9 false))))))))))
theorem JQ {a_0 : List UInt8} {r : AD × Bool} (hF : DC a_0 = some r) : Az prog KG 100 [(As a_0)] [] (fun _ => []) (CV [(AG (AD.ck r.1)), (AE r.2)]) := by
 refine Az.intro 33 func100 rfl ntmps100 (Nat.le_of_ble_eq_true rfl) ?_
 intro c a w hG hn h
 unfold DC at hF
 change Ar c [.slot 0 (As a_0)] a w at h
 refine Ao mixed hn hG h [0, 502, 501] (ob [] (AJ zeroValue93 z93) <| ov [] (Ad qb) .nil) fun b1 a w h => ?_
 obtain ⟨r2, hr2, hF⟩ := bind_some hF
 refine Ao mixed hn hG h [0, 1, 500, 2, 501] (ov [0] (Aa q0) <| og [500] [] [.slot 7 1 100000 (fun v1_ _ => (Am v1_)), .res 1 100000 (fun v1_ _ => (BS (v1_) (some r2)))] (AV.plain (Jo call120 (Ki hr2) ⟨q0, trivial⟩) rfl) <| og [501] [] [.slot 4 1 100000 (fun v1_ _ => (Am v1_))] (fun {β} => (AV.plain (Ad (V := (Am (β 1))) q0) rfl)) .nil) fun b3 a w h => ?_
 obtain ⟨r4, hr4, hF⟩ := bind_some hF
 obtain ⟨r5, hr5, hF⟩ := bind_some hF
 obtain ⟨r6, hr6, hF⟩ := bind_some hF
 obtain ⟨r7, hr7, hF⟩ := bind_some hF
 obtain ⟨r8, hr8, hF⟩ := bind_some hF
 obtain ⟨r9, hr9, hF⟩ := bind_some hF
 refine Ao mixed hn hG h [0, 1, 2, 502, 3, 504, 500] (ov [2] (Aa q0) <| oc [500] [4] call121 (Hh hr4) ⟨q0, trivial⟩ <| ov [2] (Aa q0) <| oc [500] [501] call122 (Hg hr5) ⟨q0, trivial⟩ <| ov [2] (Aa q0) <| oc [500] [501] call123 (FD hr6) ⟨q0, trivial⟩ <| ov [2] (Aa q0) <| oc [500] [501] call124 (Er hr7) ⟨q0, trivial⟩ <| ov [2] (Aa q0) <| oc [500] [501] call124 (Er hr8) ⟨q0, trivial⟩ <| ov [2] (Aa q0) <| oc [500] [501] call123 (FD hr9) ⟨q0, trivial⟩ <| ov [516, 513, 510, 507, 504, 501] (Dc [(0, .tmp 9), (1, .tmp 11), (2, .tmp 13), (3, .tmp 15), (4, .tmp 17), (5, .tmp 19)] rfl Q1 z93 ⟨[], [one (Ab .u8 (0 : Int))], [one (Ab .u32 (0 : Int)), one (Ab .u64 (0 : Int)), Af 32 (List.replicate 32 0), Af 32 (List.replicate 32 0), one (Ab .u64 (0 : Int))], [one (Ab .u8 r4.1)], _, rfl, rfl, rfl, q0, (Ap (AK _ _)), ⟨[one (Ab .u8 r4.1)], [one (Ab .u32 (0 : Int))], [one (Ab .u64 (0 : Int)), Af 32 (List.replicate 32 0), Af 32 (List.replicate 32 0), one (Ab .u64 (0 : Int))], [one (Ab .u32 r5.1)], _, rfl, rfl, rfl, q1, (Ap (AK _ _)), ⟨[one (Ab .u8 r4.1), one (Ab .u32 r5.1)], [one (Ab .u64 (0 : Int))], [Af 32 (List.replicate 32 0), Af 32 (List.replicate 32 0), one (Ab .u64 (0 : Int))], [one (Ab .u64 r6.1)], _, rfl, rfl, rfl, q2, (Ap (AK _ _)), ⟨[one (Ab .u8 r4.1), one (Ab .u32 r5.1), one (Ab .u64 r6.1)], [Af 32 (List.replicate 32 0)], [Af 32 (List.replicate 32 0), one (Ab .u64 (0 : Int))], [Af 32 r7.1], _, rfl, rfl, rfl, q3, (Al _), ⟨[one (Ab .u8 r4.1), one (Ab .u32 r5.1), one (Ab .u64 r6.1), Af 32 r7.1], [Af 32 (List.replicate 32 0)], [one (Ab .u64 (0 : Int))], [Af 32 r8.1], _, rfl, rfl, rfl, (opt 4 rfl), (Al _), ⟨[one (Ab .u8 r4.1), one (Ab .u32 r5.1), one (Ab .u64 r6.1), Af 32 r7.1, Af 32 r8.1], [one (Ab .u64 (0 : Int))], [], [one (Ab .u64 r9.1)], _, rfl, rfl, rfl, (opt 5 rfl), (Ap (AK _ _)), rfl⟩⟩⟩⟩⟩⟩) <| ob [] (AJ zeroValue93 z93) <| og [501, 502] [500] [.res 13 100000 (fun v1_ _ => (lb (v1_) 93 [one (Ab .u8 r4.1), one (Ab .u32 r5.1), one (Ab .u64 r6.1), Af 32 r7.1, Af 32 r8.1, one (Ab .u64 r9.1)]))] (AV.plain (Aq sizeOf93 q0 q1 (Al _)) rfl) .nil) fun b10 a w h => ?_
 obtain ⟨r11, hr11, hF⟩ := bind_some hF
 refine Ao mixed hn hG h [0, 1, 2, 3, 4, 6, 500] (ov [2] (Aa q0) <| oc [500] [5] call124 (Er hr11) ⟨q0, trivial⟩ .nil) fun _ a w h => ?_
 refine wp_seq ?_
 obtain ⟨r12, hr12, hF⟩ := bind_some hF
 refine wp_cut (fun a w => ∃ (x14 : Bool), DC.j1 r4 r5 r6 r7 r8 r9 x14 = some r ∧ Ar c [.slot 2 (Au (b1 0) 0), .slot 3 (AE x14), .res (lb (b1 0) 93 [one (Ab .u8 r4.1), one (Ab .u32 r5.1), one (Ab .u64 r6.1), Af 32 r7.1, Af 32 r8.1, one (Ab .u64 r9.1)]), .res (BS (b3 1) (some r12.2))] a w) ?_ ?_
 ·rcases Bool.eq_false_or_eq_true (decide (r12.1 = (0 : Int))) with hb15 | hb15
  ·replace hF := EM hb15 hF
   obtain ⟨r13, hr13, hF⟩ := bind_some hF
   refine CY mixed hn hG h [1, 500, 501, 509] (ov [3, 5] (AA 1 isAgg93 sizeOf93 q0) <| ov [2] (Aa q0) <| oc [500] [6] call125 (FO hr12) ⟨q0, trivial⟩ <| ov [501] (Ak C3 q0 qi) <| ov [500] (Aa q0) <| oe [500, 3, 5] [] (AV.AT hb15 rfl rfl rfl (AA 1 isAgg93 sizeOf93 q0)) <| oe [501, 500] [] (AV.AT hb15 rfl rfl rfl (HN call39 (G0 hr13) ⟨q0, trivial⟩)) <| oe [502, 0] [] (AV.AT hb15 rfl rfl rfl (Aa q0)) <| oe [503, 501, 500] [] (AV.AT hb15 rfl rfl rfl (Ak Lv q0 q1)) <| ov [504, 500] (Bu hb15 q0 q1) <| ou [1, 510] 4 (Aq sizeOf93 q0 q1 (Al _)) <| ov [501] (Ad q0) .nil) fun _ a w h => ?_
   exact ⟨decide (r13 = a_0), hF, h.sub [0, 1, 2, 3] (by rfl)⟩
  ·replace hF := EO hb15 hF
   refine CY mixed hn hG h [1, 500, 501, 509] (ov [3, 5] (AA 1 isAgg93 sizeOf93 q0) <| ov [2] (Aa q0) <| oc [500] [6] call125 (FO hr12) ⟨q0, trivial⟩ <| ov [501] (Ak C3 q0 qi) <| ov [500] (Aa q0) <| oe [500] [] (AV.AZ (want := true) hb15 rfl rfl rfl rfl) <| oe [501] [] (AV.AZ (want := true) hb15 rfl rfl rfl rfl) <| oe [502] [] (AV.AZ (want := true) hb15 rfl rfl rfl rfl) <| oe [503] [] (AV.AZ (want := true) hb15 rfl rfl rfl rfl) <| ov [504] (Bq hb15 q0 qb) <| ou [1, 510] 4 (Aq sizeOf93 q0 q1 (Al _)) <| ov [501] (Ad q0) .nil) fun _ a w h => ?_
   exact ⟨false, hF, h.sub [0, 1, 2, 3] (by rfl)⟩
 ·clear h hF
  rintro a w ⟨x14, hF, h⟩
  unfold DC.j1 at hF
  show Code.wp prog _ _ a w
  refine wp_ret ?_
  obtain rfl := Option.some.inj hF
  exact ⟨.inl rfl, Es h (rs := [.cell 2 93, .tmp 3]) (Vs := [(AG [one (Ab .u8 r4.1), one (Ab .u32 r5.1), one (Ab .u64 r6.1), Af 32 r7.1, Af 32 r8.1, one (Ab .u64 r9.1)]), (AE x14)]) results100 (by decide) ⟨(Bs 0 2 rfl rfl isAgg93 sizeOf93 rfl), (Bc 1 rfl), trivial⟩ [] [] rfl rfl rfl⟩

def Dp.j1 (a_1 : Int) (a_2 : Int) (r2 : AD × Bool) (x4 : Bool) : Option AD := (if x4 = true then some (AD.mk a_1 a_2 (0 : Int) (List.replicate 32 0) (List.replicate 32 0) (0 : Int)) else some r2.1)
def Dp (a_0 : List UInt8) (a_1 : Int) (a_2 : Int) : Option AD := ((DC a_0).bind fun r2 => (if (!r2.2) = true then Dp.j1 a_1 a_2 r2 true else (if (!decide (r2.1.DF = a_1)) = true then Dp.j1 a_1 a_2 r2 true else Dp.j1 a_1 a_2 r2 (!decide (r2.1.BE = a_2)))))
theorem JR {a_0 : List UInt8} {a_1 : Int} {a_2 : Int} {r : AD} (hF : Dp a_0 a_1 a_2 = some r) : Az prog KG 69 [(As a_0), (Ab .u8 a_1), (Ab .u32 a_2)] [] (fun _ => []) (AG (AD.ck r)) := by
 refine Az.intro 32 func69 rfl ntmps69 (Nat.le_of_ble_eq_true rfl) ?_
 intro c a w hG hn h
 unfold Dp at hF
 change Ar c [.slot 0 (As a_0), .slot 1 (Ab .u8 a_1), .slot 2 (Ab .u32 a_2)] a w at h
 refine Ao mixed hn hG h [0, 1, 2, 501, 500] (ob [] (AJ zeroValue93 z93) .nil) fun b1 a w h => ?_
 obtain ⟨r2, hr2, hF⟩ := bind_some hF
 refine Ao mixed hn hG h [1, 2, 3, 503, 500, 4, 501] (ov [0] (Aa q0) <| oc [500] [] call100 (JQ hr2) ⟨q0, trivial⟩ <| ov [500] (Aa q0) <| ov [500] (AQ q0 rfl) <| ov [501] (AQ q0 rfl) <| ob [] (AJ zeroValue93 z93) <| og [501, 503] [500] [.res 5 100000 (fun v1_ _ => (lb (v1_) 93 (AD.ck r2.1)))] (AV.plain (Aq sizeOf93 q0 q1 (Al _)) rfl) <| ov [503] (Ad q0) .nil) fun b3 a w h => ?_
 refine wp_seq ?_
 refine wp_seq ?_
 refine wp_cut (fun a w => ∃ (x4 : Bool), Dp.j1 a_1 a_2 r2 x4 = some r ∧ Ar c [.slot 1 (Ab .u8 a_1), .slot 2 (Ab .u32 a_2), .slot 6 (Au (b1 0) 0), .slot 7 (Au (b3 5) 0), .slot 27 (AE x4), .res (lb (b1 0) 93 [one (Ab .u8 (0 : Int)), one (Ab .u32 (0 : Int)), one (Ab .u64 (0 : Int)), Af 32 (List.replicate 32 0), Af 32 (List.replicate 32 0), one (Ab .u64 (0 : Int))]), .res (lb (b3 5) 93 (AD.ck r2.1))] a w) ?_ ?_
 ·rcases Bool.eq_false_or_eq_true (!r2.2) with hb6 | hb6
  ·replace hF := EM hb6 hF
   refine CY mixed hn hG h [0, 1, 2, 3, 500, 5, 6] (ov [4] (Aa q0) <| ov [500] (ID (Hq _) q0) <| ov [500] (Aa q0) <| oe [500] [] (AV.AZ (want := false) hb6 rfl rfl rfl rfl) <| oe [501] [] (AV.AZ (want := false) hb6 rfl rfl rfl rfl) <| oe [502] [] (AV.AZ (want := false) hb6 rfl rfl rfl rfl) <| oe [503] [] (AV.AZ (want := false) hb6 rfl rfl rfl rfl) <| ov [504] (Bu hb6 q0 qb) <| ov [500] (Aa q0) <| oe [500] [] (AV.AZ (want := false) rfl rfl rfl rfl rfl) <| oe [501] [] (AV.AZ (want := false) rfl rfl rfl rfl rfl) <| oe [502] [] (AV.AZ (want := false) rfl rfl rfl rfl rfl) <| oe [503] [] (AV.AZ (want := false) rfl rfl rfl rfl rfl) <| ov [504] (Bu rfl q0 qb) .nil) fun _ a w h => ?_
   exact ⟨true, hF, h.sub [0, 1, 2, 3, 4, 5, 6] (by rfl)⟩
  ·replace hF := EO hb6 hF
   rcases Bool.eq_false_or_eq_true (!decide (r2.1.DF = a_1)) with hb7 | hb7
   ·replace hF := EM hb7 hF
    refine CY mixed hn hG h [0, 1, 2, 3, 500, 5, 6] (ov [4] (Aa q0) <| ov [500] (ID (Hq _) q0) <| ov [500] (Aa q0) <| oe [500, 3] [] (AV.AT hb6 rfl rfl rfl (Aj (p := (b3 5)) (n := 1) 0 0 underlying93 rfl sizeOf5 (by decide) q0 rfl)) <| oe [501, 500, 6] [] (AV.AT hb6 rfl rfl rfl (AB [] ((AD.ck r2.1).drop 1) 1 isAgg5 q0 rfl rfl)) <| oe [502, 0] [] (AV.AT hb6 rfl rfl rfl (Aa q0)) <| oe [503, 501, 500] [] (AV.AT hb6 rfl rfl rfl (Ak C2 q0 q1)) <| ov [504, 500] (Bq hb6 q0 q1) <| ov [500] (Aa q0) <| oe [500] [] (AV.AZ (want := false) hb7 rfl rfl rfl rfl) <| oe [501] [] (AV.AZ (want := false) hb7 rfl rfl rfl rfl) <| oe [502] [] (AV.AZ (want := false) hb7 rfl rfl rfl rfl) <| oe [503] [] (AV.AZ (want := false) hb7 rfl rfl rfl rfl) <| ov [504] (Bu hb7 q0 qb) .nil) fun _ a w h => ?_
    exact ⟨true, hF, h.sub [0, 1, 2, 3, 4, 5, 6] (by rfl)⟩
   ·replace hF := EO hb7 hF
    refine CY mixed hn hG h [0, 1, 2, 3, 500, 5, 6] (ov [4] (Aa q0) <| ov [500] (ID (Hq _) q0) <| ov [500] (Aa q0) <| oe [500, 3] [] (AV.AT hb6 rfl rfl rfl (Aj (p := (b3 5)) (n := 1) 0 0 underlying93 rfl sizeOf5 (by decide) q0 rfl)) <| oe [501, 500, 6] [] (AV.AT hb6 rfl rfl rfl (AB [] ((AD.ck r2.1).drop 1) 1 isAgg5 q0 rfl rfl)) <| oe [502, 0] [] (AV.AT hb6 rfl rfl rfl (Aa q0)) <| oe [503, 501, 500] [] (AV.AT hb6 rfl rfl rfl (Ak C2 q0 q1)) <| ov [504, 500] (Bq hb6 q0 q1) <| ov [500] (Aa q0) <| oe [500, 3] [] (AV.AT hb7 rfl rfl rfl (Aj (p := (b3 5)) (n := 1) 0 1 underlying93 rfl sizeOf29 (by decide) q0 rfl)) <| oe [501, 500, 6] [] (AV.AT hb7 rfl rfl rfl (AB [one (Ab .u8 r2.1.DF)] ((AD.ck r2.1).drop 2) 1 isAgg29 q0 rfl rfl)) <| oe [502, 1] [] (AV.AT hb7 rfl rfl rfl (Aa q0)) <| oe [503, 501, 500] [] (AV.AT hb7 rfl rfl rfl (Ak C2 q0 q1)) <| ov [504, 500] (Bq hb7 q0 q1) .nil) fun _ a w h => ?_
    exact ⟨!decide (r2.1.BE = a_2), hF, h.sub [0, 1, 2, 3, 4, 5, 6] (by rfl)⟩
 ·clear h hF
  rintro a w ⟨x4, hF, h⟩
  unfold Dp.j1 at hF
  show Code.wp prog _ _ a w
  refine DL h hF 4 [0, 1, 2, 5] [2, 3, 5, 6] (fun hb5 hF h => ?_) (fun hb5 hF h => ?_)
  ·refine Ao mixed hn hG h [2, 500] (ov [0] (Aa q0) <| ov [1] (Aa q0) <| ov [501, 500] (Dc [(0, .tmp 28), (1, .tmp 29)] rfl Q1 z93 ⟨[], [one (Ab .u8 (0 : Int))], [one (Ab .u32 (0 : Int)), one (Ab .u64 (0 : Int)), Af 32 (List.replicate 32 0), Af 32 (List.replicate 32 0), one (Ab .u64 (0 : Int))], [one (Ab .u8 a_1)], _, rfl, rfl, rfl, q0, (Ap (AK _ _)), ⟨[one (Ab .u8 a_1)], [one (Ab .u32 (0 : Int))], [one (Ab .u64 (0 : Int)), Af 32 (List.replicate 32 0), Af 32 (List.replicate 32 0), one (Ab .u64 (0 : Int))], [one (Ab .u32 a_2)], _, rfl, rfl, rfl, q1, (Ap (AK _ _)), rfl⟩⟩) <| ou [2, 500] 3 (Aq sizeOf93 q0 q1 (Al _)) .nil) fun _ a w h => ?_
   refine wp_ret ?_
   obtain rfl := Option.some.inj hF
   exact ⟨.inl rfl, BG h results69 (Bs 0 1 rfl rfl isAgg93 sizeOf93 rfl) [] [] rfl rfl rfl⟩
  ·refine wp_skip ?_
   show Code.wp prog _ _ a w
   refine Ao mixed hn hG h [0, 500] (ov [1, 3] (AA 1 isAgg93 sizeOf93 q0) <| ou [0, 500] 2 (Aq sizeOf93 q0 q1 (Al _)) .nil) fun _ a w h => ?_
   refine wp_ret ?_
   obtain rfl := Option.some.inj hF
   exact ⟨.inl rfl, BG h results69 (Bs 0 1 rfl rfl isAgg93 sizeOf93 rfl) [] [] rfl rfl rfl⟩

def Dh (a_0 : Ah) : Option AD := ((Dp a_0.Iq 4 a_0.BE).bind fun r3 => some r3)
theorem Ga {a_0 : Ah} {r : AD} (hF : Dh a_0 = some r) : Az prog KG 32 [(AG (Ah.ck a_0))] [] (fun _ => []) (AG (AD.ck r)) := by
 refine Az.intro 8 func32 rfl ntmps32 (Nat.le_of_ble_eq_true rfl) ?_
 intro c a w hG hn h
 unfold Dh at hF
 change Ar c [.slot 0 (AG (Ah.ck a_0))] a w at h
 refine Ao mixed hn hG h [503, 501, 502, 500] (ob [0] (BF q0 (Al _)) <| ob [] (AJ zeroValue93 z93) .nil) fun b1 a w h => ?_
 obtain ⟨r3, hr3, hF⟩ := bind_some hF
 refine Ao mixed hn hG h [1, 500] (ov [0] (Aj (p := (b1 0)) (n := 1) 0 1 underlying43 rfl sizeOf9 (by decide) q0 rfl) <| ov [500, 2] (AB [one (Ab .u32 a_0.BE)] [] 1 isAgg9 q0 rfl rfl) <| ov [0] (Aj (p := (b1 0)) (n := 1) 0 0 underlying43 rfl sizeOf29 (by decide) q0 rfl) <| ov [500, 2] (AB [] [one (As a_0.Iq)] 1 isAgg29 q0 rfl rfl) <| oc [502, 500] [] call69 (JR hr3) ⟨q0, qi, q1, trivial⟩ <| ou [1, 500] 3 (Aq sizeOf93 q0 q1 (Al _)) .nil) fun _ a w h => ?_
 refine wp_ret ?_
 obtain rfl := Option.some.inj hF
 exact ⟨.inl rfl, BG h results32 (Bs 0 1 rfl rfl isAgg93 sizeOf93 rfl) [] [] rfl rfl rfl⟩

def A1.b1 (a_0 : List (Ag)) (a_1 : ((Ag)) → Option (Bool)) (x5 : Int) : Option (CR Int Int) := (if (decide (x5 < (a_0.length : Int))) = true then (if (0 : Int) ≤ x5 ∧ x5 < a_0.length then ((a_1 (a_0.getD x5.toNat default)).bind fun r13 => (if r13 = true then some (.ret x5) else some (.cont (IntKind.wrap .i64 (x5 + 1))))) else none) else some (.brk x5))
def A1 (a_0 : List (Ag)) (a_1 : ((Ag)) → Option (Bool)) : Option Int := ((Bf (fun s : Int => A1.b1 a_0 a_1 s) (((a_0.length : Int) - 0 : Int).toNat + 2) 0).bind fun cr => match cr with | .ret r => some r | .next y19 => some (-1 : Int))
theorem Fu {a_0 : List (Ag)} {a_1 : ((Ag)) → Option (Bool)} {r : Int} (hF : A1 a_0 a_1 = some r) : Az prog KG 81 [(An Ag.ck a_0), (Jw prog KG (fun x : Ag => [(AG (Ag.ck x))]) (fun r : Bool => (AE r)) a_1)] [] (fun _ => []) (Ab .i64 r) := by
 refine Az.intro 19 func81 rfl ntmps81 (Nat.le_of_ble_eq_true rfl) ?_
 intro c a w hG hn h
 unfold A1 at hF
 change Ar c [.slot 0 (An Ag.ck a_0), .slot 1 (Jw prog KG (fun x : Ag => [(AG (Ag.ck x))]) (fun r : Bool => (AE r)) a_1)] a w at h
 refine Ao mixed hn hG h [0, 1] (ov [] (Ad qi) .nil) fun _ a w h => ?_
 refine wp_seq ?_
 refine Ao mixed hn hG h [0, 1, 501, 500] (ov [0] (Aa q0) <| ov [500] (A4 underlying39 q0) <| ov [] (Aa qi) .nil) fun _ a w h => ?_
 refine wp_block ?_
 obtain ⟨cr15, hl16, hF⟩ := bind_some hF
 refine wp_mono (Bw (R := Int) (S := Int) (fun s a w => Ar c [.slot 0 (An Ag.ck a_0), .slot 1 (Jw prog KG (fun x : Ag => [(AG (Ag.ck x))]) (fun r : Bool => (AE r)) a_1), .slot 7 (Ab .i64 (a_0.length : Int)), .slot 8 (Ab .i64 s)] a w) (fun res e a w => match res with | .next s => e = .exit 0 ∧ Ar c [] a w | .ret r => e = .ret ∧ CO prog f81 c (Ab .i64 r) (fun _ => []) a w) ?_ _ 0 _ _ _ (h.sub [0, 1, 2, 3] (by rfl)) hl16) ?_
 ·clear hl16 hF h
  intro x5 a w o h hF
  change A1.b1 a_0 a_1 x5 = some o at hF
  unfold A1.b1 at hF
  change Ar c [.slot 0 (An Ag.ck a_0), .slot 1 (Jw prog KG (fun x : Ag => [(AG (Ag.ck x))]) (fun r : Bool => (AE r)) a_1), .slot 7 (Ab .i64 (a_0.length : Int)), .slot 8 (Ab .i64 x5)] a w at h
  refine Ao mixed hn hG h [0, 1, 2, 3, 500] (ov [3, 2] (Ak Bl q0 q1) .nil) fun _ a w h => ?_
  refine wp_seq ?_
  refine DL h hF 4 [0, 1, 2, 3] [0, 1, 2, 3] (fun hb11 hF h => ?_) (fun hb11 hF h => ?_)
  ·refine wp_skip ?_
   show Code.wp prog _ _ a w
   refine wp_seq ?_
   refine wp_block ?_
   refine Ao mixed hn hG h [0, 1, 500, 2, 3] (ov [3] (Aa q0) <| ov [500] (Ad q0) .nil) fun _ a w h => ?_
   obtain ⟨hv12, hF⟩ := Ay hF
   obtain ⟨r13, hr13, hF⟩ := bind_some hF
   refine Ao mixed hn hG h [0, 1, 2, 3, 4, 500] (ov [1] (Aa q0) <| ov [0] (Aa q0) <| ov [2] (Aa q0) <| ov [501, 500] (AL underlying39 sizeOf110 Ag.lens q0 q1 hv12) <| ov [500] (BM (Ag.ck (a_0.getD x5.toNat default)) [] isAgg110 sizeOf110 q0 rfl) <| ov [504, 500] (J3 (A := (fun x : Ag => [(AG (Ag.ck x))])) (B := (fun r : Bool => (AE r))) (g := a_1) (x := (a_0.getD x5.toNat default)) q0 ⟨q1, trivial⟩ hr13) .nil) fun _ a w h => ?_
   refine DL h hF 5 [2] [0, 1, 3, 4] (fun hb14 hF h => ?_) (fun hb14 hF h => ?_)
   ·refine Ao mixed hn hG h [500] (ov [0] (Aa q0) <| ov [500] (Ad q0) .nil) fun _ a w h => ?_
    refine wp_ret ?_
    obtain rfl := Option.some.inj hF
    exact ⟨E2, rfl, BG h results81 (Bc 0 rfl) [] [] rfl rfl rfl⟩
   ·refine wp_skip ?_
    show Code.wp prog _ _ a w
    refine CY mixed hn hG h [0, 1, 2, 500] (ov [3] (Ak AY q0 qi) <| od [500] 3 (Aa q0) .nil) fun _ a w h => ?_
    obtain rfl := Option.some.inj hF
    exact ⟨rfl, h.sub [0, 1, 2, 3] (by rfl)⟩
  ·refine wp_exit ?_
   obtain rfl := Option.some.inj hF
   exact ⟨BQ _, rfl, h.sub [] (by rfl)⟩
 ·clear hl16
  intro e a w hq
  cases cr15 with
  | ret r17 =>
   obtain ⟨rfl, hq⟩ := hq
   obtain rfl := Option.some.inj hF
   exact ⟨.inl rfl, hq⟩
  | next y19 =>
   obtain ⟨rfl, h⟩ := hq
   change Ar c [] a w at h
   refine Be ?_
   show Code.wp prog _ _ a w
   refine Ao mixed hn hG h [500] (ov [] (Ad qi) .nil) fun _ a w h => ?_
   refine wp_ret ?_
   obtain rfl := Option.some.inj hF
   exact ⟨.inl rfl, BG h results81 (Bc 0 rfl) [] [] rfl rfl rfl⟩

def DN (a_0 : Ag) (c_1 : List UInt8) : Option Bool := some (decide (a_0.BP = c_1))
theorem Hs {a_0 : Ag} {c_1 : List UInt8} {r : Bool} (hF : DN a_0 c_1 = some r) : Az prog KG 82 [(AG (Ag.ck a_0)), (FB [Af 32 c_1])] [] (fun _ => []) (AE r) := by
 refine Az.intro 8 func82 rfl ntmps82 (Nat.le_of_ble_eq_true rfl) ?_
 intro c a w hG hn h
 unfold DN at hF
 change Ar c [.slot 0 (AG (Ag.ck a_0)), .slot 1 (FB [Af 32 c_1])] a w at h
 refine Ao mixed hn hG h [1, 502, 501] (ob [0] (BF q0 (Al _)) <| ov [] (Ad qb) .nil) fun b1 a w h => ?_
 refine Ao mixed hn hG h [500] (ov [1] (Aj (p := (b1 0)) (n := 32) 0 0 underlying110 rfl sizeOf33 (by decide) q0 rfl) <| ov [500, 2] (DB [] [Af 32 a_0.BP] ((Ag.ck a_0).drop 1) 1 isAgg33 sizeOf33 q0 rfl rfl rfl) <| ov [0] (BM [Af 32 c_1] [] isAgg33 sizeOf33 q0 rfl) <| ov [501, 500] (Ak (Lx underlying33 underlying5 type5 sizeOf5 isAgg5 eqGuardType33) q0 q1) <| ov [500] (Ad q0) .nil) fun _ a w h => ?_
 refine wp_ret ?_
 obtain rfl := Option.some.inj hF
 exact ⟨.inl rfl, BG h results82 (Bc 0 rfl) [] [] rfl rfl rfl⟩

def DT (a_0 : Ae) (a_1 : List UInt8) : Option Int := ((A1 a_0.AH (fun x : Ag => DN x a_1)).bind fun r3 => some r3)
theorem Ff {a_0 : Ae} {a_1 : List UInt8} {r : Int} (hF : DT a_0 a_1 = some r) : Az prog KG 41 [(AG (Ae.ck a_0)), (AG [Af 32 a_1])] [] (fun _ => []) (Ab .i64 r) := by
 refine Az.intro 9 func41 rfl ntmps41 (Nat.le_of_ble_eq_true rfl) ?_
 intro c a w hG hn h
 unfold DT at hF
 change Ar c [.slot 0 (AG (Ae.ck a_0)), .slot 1 (AG [Af 32 a_1])] a w at h
 refine Ao mixed hn hG h [504, 502, 503, 501] (ob [0] (BF q0 (Al _)) <| ob [1] (BF q0 (Al _)) <| ov [] (Ad qi) .nil) fun b1 a w h => ?_
 replace h := h.Mh 3 rfl
 replace h := h.Lp 1 3 rfl rfl
 replace h := h.sub [0, 1, 2] (by rfl)
 change Ar c [.slot 2 (Au (b1 0) 0), .slot 3 (FB [Af 32 a_1]), .res (lb (b1 0) 41 (Ae.ck a_0))] a w at h
 obtain ⟨r3, hr3, hF⟩ := bind_some hF
 refine Ao mixed hn hG h [500] (ov [0] (Aj (p := (b1 0)) (n := 1) 0 69 underlying41 rfl sizeOf39 (by decide) q0 rfl) <| ov [500, 2] (AB ((Ae.ck a_0).take 7) ((Ae.ck a_0).drop 8) 1 isAgg39 q0 rfl rfl) <| ov [1] (GX (A := (fun x : Ag => [(AG (Ag.ck x))])) (B := (fun r : Bool => (AE r))) (g := (fun x : Ag => DN x a_1)) (Cs := [(FB [Af 32 a_1])]) call82 (fun x r h => Hs h) ⟨q0, trivial⟩) <| oc [501, 500] [] call81 (Fu hr3) ⟨q0, q1, trivial⟩ <| ov [500] (Ad q0) .nil) fun _ a w h => ?_
 refine wp_ret ?_
 obtain rfl := Option.some.inj hF
 exact ⟨.inl rfl, BG h results41 (Bc 0 rfl) [] [] rfl rfl rfl⟩

def Dg (a_0 : Ae) (a_1 : List UInt8) : Option (Int × (List UInt8)) := ((DT a_0 a_1).bind fun r4 => (if (decide (r4 < (0 : Int))) = true then some (0, (List.replicate 32 0)) else (if (0 : Int) ≤ r4 ∧ r4 < a_0.AH.length then some ((a_0.AH.getD r4.toNat default).BX, (a_0.AH.getD r4.toNat default).Cw) else none)))
theorem F6 {a_0 : Ae} {a_1 : List UInt8} {r : Int × (List UInt8)} (hF : Dg a_0 a_1 = some r) : Az prog KG 12 [(AG (Ae.ck a_0)), (AG [Af 32 a_1])] [] (fun _ => []) (CV [(Ab .i64 r.1), (AG [Af 32 r.2])]) := by
 refine Az.intro 25 func12 rfl ntmps12 (Nat.le_of_ble_eq_true rfl) ?_
 intro c a w hG hn h
 unfold Dg at hF
 change Ar c [.slot 0 (AG (Ae.ck a_0)), .slot 1 (AG [Af 32 a_1])] a w at h
 refine Ao mixed hn hG h [506, 504, 501, 505, 503, 500] (ob [0] (BF q0 (Al _)) <| ob [1] (BF q0 (Al _)) <| ov [] (Ad qi) <| ob [] (AJ zeroValue33 GN) .nil) fun b1 a w h => ?_
 obtain ⟨r4, hr4, hF⟩ := bind_some hF
 refine Ao mixed hn hG h [0, 2, 500, 3, 5] (ov [0, 3] (AA 1 isAgg41 sizeOf41 q0) <| ov [1, 4] (AA 1 isAgg33 sizeOf33 q0) <| oc [501, 500] [] call41 (Ff hr4) ⟨q0, q1, trivial⟩ <| ov [500] (Ad q0) .nil) fun _ a w h => ?_
 refine wp_seq ?_
 refine Ao mixed hn hG h [0, 1, 2, 500, 3, 4] (ov [2] (Aa q0) <| ov [500] (Ak Bl q0 qi) .nil) fun _ a w h => ?_
 refine DL h hF 3 [1, 5] [0, 1, 2, 4, 5] (fun hb5 hF h => ?_) (fun hb5 hF h => ?_)
 ·refine Ao mixed hn hG h [501, 0, 500] (ov [] (Qq zeroValue33 underlying33 sizeOf5 GN) <| ov [] (Ad qi) <| ou [0, 501] 1 (Aq sizeOf33 q0 q1 (Al _)) .nil) fun _ a w h => ?_
  refine wp_ret ?_
  obtain rfl := Option.some.inj hF
  exact ⟨.inl rfl, Es h (rs := [.tmp 4, .cell 5 33]) (Vs := [(Ab .i64 0), (AG [Af 32 (List.replicate 32 0)])]) results12 (by decide) ⟨(Bc 0 rfl), (Bs 1 2 rfl rfl isAgg33 sizeOf33 rfl), trivial⟩ [] [] rfl rfl rfl⟩
 ·refine wp_skip ?_
  show Code.wp prog _ _ a w
  obtain ⟨hv6, hF⟩ := Ay hF
  refine Ao mixed hn hG h [501, 1, 500] (ov [0] (Aj (p := (b1 0)) (n := 1) 0 69 underlying41 rfl sizeOf39 (by decide) q0 rfl) <| ov [500, 3] (AB ((Ae.ck a_0).take 7) ((Ae.ck a_0).drop 8) 1 isAgg39 q0 rfl rfl) <| ov [2] (Aa q0) <| ov [501, 500] (AL underlying39 sizeOf110 Ag.lens q0 q1 hv6) <| ov [500] (Ct (n := 1) [Af 32 ((a_0.AH.getD r4.toNat default).BP)] _ underlying110 rfl sizeOf3 (by decide) q0 rfl) <| ov [500] (BH [Af 32 ((a_0.AH.getD r4.toNat default).Cw)] isAgg3 q0) <| ov [0] (Aj (p := (b1 0)) (n := 1) 0 69 underlying41 rfl sizeOf39 (by decide) q0 rfl) <| ov [500, 3] (AB ((Ae.ck a_0).take 7) ((Ae.ck a_0).drop 8) 1 isAgg39 q0 rfl rfl) <| ov [2] (Aa q0) <| ov [501, 500] (AL underlying39 sizeOf110 Ag.lens q0 q1 hv6) <| ov [500] (Ct (n := 32) ((Ag.ck (a_0.AH.getD r4.toNat default)).take 2) _ underlying110 rfl sizeOf33 (by decide) q0 rfl) <| ov [500] (BM [Af 32 ((a_0.AH.getD r4.toNat default).Cw)] [] isAgg33 sizeOf33 q0 rfl) <| ov [506] (Ad q0) <| ou [1, 501] 4 (Aq sizeOf33 q0 q1 (Al _)) .nil) fun _ a w h => ?_
  refine wp_ret ?_
  obtain rfl := Option.some.inj hF
  exact ⟨.inl rfl, Es h (rs := [.tmp 4, .cell 5 33]) (Vs := [(Ab .i64 ((a_0.AH.getD r4.toNat default).BX)), (AG [Af 32 ((a_0.AH.getD r4.toNat default).Cw)])]) results12 (by decide) ⟨(Bc 0 rfl), (Bs 1 2 rfl rfl isAgg33 sizeOf33 rfl), trivial⟩ [] [] rfl rfl rfl⟩

def A0.b1 (a_0 : List (Av)) (a_1 : ((Av)) → Option (Bool)) (x5 : Int) : Option (CR Int Int) := (if (decide (x5 < (a_0.length : Int))) = true then (if (0 : Int) ≤ x5 ∧ x5 < a_0.length then ((a_1 (a_0.getD x5.toNat default)).bind fun r13 => (if r13 = true then some (.ret x5) else some (.cont (IntKind.wrap .i64 (x5 + 1))))) else none) else some (.brk x5))
def A0 (a_0 : List (Av)) (a_1 : ((Av)) → Option (Bool)) : Option Int := ((Bf (fun s : Int => A0.b1 a_0 a_1 s) (((a_0.length : Int) - 0 : Int).toNat + 2) 0).bind fun cr => match cr with | .ret r => some r | .next y19 => some (-1 : Int))
theorem Ft {a_0 : List (Av)} {a_1 : ((Av)) → Option (Bool)} {r : Int} (hF : A0 a_0 a_1 = some r) : Az prog KG 91 [(An Av.ck a_0), (Jw prog KG (fun x : Av => [(AG (Av.ck x))]) (fun r : Bool => (AE r)) a_1)] [] (fun _ => []) (Ab .i64 r) := by
 refine Az.intro 19 func91 rfl ntmps91 (Nat.le_of_ble_eq_true rfl) ?_
 intro c a w hG hn h
 unfold A0 at hF
 change Ar c [.slot 0 (An Av.ck a_0), .slot 1 (Jw prog KG (fun x : Av => [(AG (Av.ck x))]) (fun r : Bool => (AE r)) a_1)] a w at h
 refine Ao mixed hn hG h [0, 1] (ov [] (Ad qi) .nil) fun _ a w h => ?_
 refine wp_seq ?_
 refine Ao mixed hn hG h [0, 1, 501, 500] (ov [0] (Aa q0) <| ov [500] (A4 underlying38 q0) <| ov [] (Aa qi) .nil) fun _ a w h => ?_
 refine wp_block ?_
 obtain ⟨cr15, hl16, hF⟩ := bind_some hF
 refine wp_mono (Bw (R := Int) (S := Int) (fun s a w => Ar c [.slot 0 (An Av.ck a_0), .slot 1 (Jw prog KG (fun x : Av => [(AG (Av.ck x))]) (fun r : Bool => (AE r)) a_1), .slot 7 (Ab .i64 (a_0.length : Int)), .slot 8 (Ab .i64 s)] a w) (fun res e a w => match res with | .next s => e = .exit 0 ∧ Ar c [] a w | .ret r => e = .ret ∧ CO prog f91 c (Ab .i64 r) (fun _ => []) a w) ?_ _ 0 _ _ _ (h.sub [0, 1, 2, 3] (by rfl)) hl16) ?_
 ·clear hl16 hF h
  intro x5 a w o h hF
  change A0.b1 a_0 a_1 x5 = some o at hF
  unfold A0.b1 at hF
  change Ar c [.slot 0 (An Av.ck a_0), .slot 1 (Jw prog KG (fun x : Av => [(AG (Av.ck x))]) (fun r : Bool => (AE r)) a_1), .slot 7 (Ab .i64 (a_0.length : Int)), .slot 8 (Ab .i64 x5)] a w at h
  refine Ao mixed hn hG h [0, 1, 2, 3, 500] (ov [3, 2] (Ak Bl q0 q1) .nil) fun _ a w h => ?_
  refine wp_seq ?_
  refine DL h hF 4 [0, 1, 2, 3] [0, 1, 2, 3] (fun hb11 hF h => ?_) (fun hb11 hF h => ?_)
  ·refine wp_skip ?_
   show Code.wp prog _ _ a w
   refine wp_seq ?_
   refine wp_block ?_
   refine Ao mixed hn hG h [0, 1, 500, 2, 3] (ov [3] (Aa q0) <| ov [500] (Ad q0) .nil) fun _ a w h => ?_
   obtain ⟨hv12, hF⟩ := Ay hF
   obtain ⟨r13, hr13, hF⟩ := bind_some hF
   refine Ao mixed hn hG h [0, 1, 2, 3, 4, 500] (ov [1] (Aa q0) <| ov [0] (Aa q0) <| ov [2] (Aa q0) <| ov [501, 500] (AL underlying38 sizeOf37 Av.lens q0 q1 hv12) <| ov [500] (BM (Av.ck (a_0.getD x5.toNat default)) [] isAgg37 sizeOf37 q0 rfl) <| ov [504, 500] (J3 (A := (fun x : Av => [(AG (Av.ck x))])) (B := (fun r : Bool => (AE r))) (g := a_1) (x := (a_0.getD x5.toNat default)) q0 ⟨q1, trivial⟩ hr13) .nil) fun _ a w h => ?_
   refine DL h hF 5 [2] [0, 1, 3, 4] (fun hb14 hF h => ?_) (fun hb14 hF h => ?_)
   ·refine Ao mixed hn hG h [500] (ov [0] (Aa q0) <| ov [500] (Ad q0) .nil) fun _ a w h => ?_
    refine wp_ret ?_
    obtain rfl := Option.some.inj hF
    exact ⟨E2, rfl, BG h results91 (Bc 0 rfl) [] [] rfl rfl rfl⟩
   ·refine wp_skip ?_
    show Code.wp prog _ _ a w
    refine CY mixed hn hG h [0, 1, 2, 500] (ov [3] (Ak AY q0 qi) <| od [500] 3 (Aa q0) .nil) fun _ a w h => ?_
    obtain rfl := Option.some.inj hF
    exact ⟨rfl, h.sub [0, 1, 2, 3] (by rfl)⟩
  ·refine wp_exit ?_
   obtain rfl := Option.some.inj hF
   exact ⟨BQ _, rfl, h.sub [] (by rfl)⟩
 ·clear hl16
  intro e a w hq
  cases cr15 with
  | ret r17 =>
   obtain ⟨rfl, hq⟩ := hq
   obtain rfl := Option.some.inj hF
   exact ⟨.inl rfl, hq⟩
  | next y19 =>
   obtain ⟨rfl, h⟩ := hq
   change Ar c [] a w at h
   refine Be ?_
   show Code.wp prog _ _ a w
   refine Ao mixed hn hG h [500] (ov [] (Ad qi) .nil) fun _ a w h => ?_
   refine wp_ret ?_
   obtain rfl := Option.some.inj hF
   exact ⟨.inl rfl, BG h results91 (Bc 0 rfl) [] [] rfl rfl rfl⟩

def D3 (a_0 : Av) (c_1 : List UInt8) : Option Bool := some (decide (a_0.Cw = c_1))
theorem HJ {a_0 : Av} {c_1 : List UInt8} {r : Bool} (hF : D3 a_0 c_1 = some r) : Az prog KG 92 [(AG (Av.ck a_0)), (FB [Af 32 c_1])] [] (fun _ => []) (AE r) := by
 refine Az.intro 8 func92 rfl ntmps92 (Nat.le_of_ble_eq_true rfl) ?_
 intro c a w hG hn h
 unfold D3 at hF
 change Ar c [.slot 0 (AG (Av.ck a_0)), .slot 1 (FB [Af 32 c_1])] a w at h
 refine Ao mixed hn hG h [1, 502, 501] (ob [0] (BF q0 (Al _)) <| ov [] (Ad qb) .nil) fun b1 a w h => ?_
 refine Ao mixed hn hG h [500] (ov [1] (Aj (p := (b1 0)) (n := 32) 0 0 underlying37 rfl sizeOf33 (by decide) q0 rfl) <| ov [500, 2] (DB [] [Af 32 a_0.Cw] [one (Ab .u64 a_0.N3)] 1 isAgg33 sizeOf33 q0 rfl rfl rfl) <| ov [0] (BM [Af 32 c_1] [] isAgg33 sizeOf33 q0 rfl) <| ov [501, 500] (Ak (Lx underlying33 underlying5 type5 sizeOf5 isAgg5 eqGuardType33) q0 q1) <| ov [500] (Ad q0) .nil) fun _ a w h => ?_
 refine wp_ret ?_
 obtain rfl := Option.some.inj hF
 exact ⟨.inl rfl, BG h results92 (Bc 0 rfl) [] [] rfl rfl rfl⟩

def E3 (a_0 : Ae) (a_1 : List UInt8) : Option Int := ((A0 a_0.BY (fun x : Av => D3 x a_1)).bind fun r3 => some r3)
theorem IL {a_0 : Ae} {a_1 : List UInt8} {r : Int} (hF : E3 a_0 a_1 = some r) : Az prog KG 50 [(AG (Ae.ck a_0)), (AG [Af 32 a_1])] [] (fun _ => []) (Ab .i64 r) := by
 refine Az.intro 9 func50 rfl ntmps50 (Nat.le_of_ble_eq_true rfl) ?_
 intro c a w hG hn h
 unfold E3 at hF
 change Ar c [.slot 0 (AG (Ae.ck a_0)), .slot 1 (AG [Af 32 a_1])] a w at h
 refine Ao mixed hn hG h [504, 502, 503, 501] (ob [0] (BF q0 (Al _)) <| ob [1] (BF q0 (Al _)) <| ov [] (Ad qi) .nil) fun b1 a w h => ?_
 replace h := h.Mh 3 rfl
 replace h := h.Lp 1 3 rfl rfl
 replace h := h.sub [0, 1, 2] (by rfl)
 change Ar c [.slot 2 (Au (b1 0) 0), .slot 3 (FB [Af 32 a_1]), .res (lb (b1 0) 41 (Ae.ck a_0))] a w at h
 obtain ⟨r3, hr3, hF⟩ := bind_some hF
 refine Ao mixed hn hG h [500] (ov [0] (Aj (p := (b1 0)) (n := 1) 0 68 underlying41 rfl sizeOf38 (by decide) q0 rfl) <| ov [500, 2] (AB ((Ae.ck a_0).take 6) ((Ae.ck a_0).drop 7) 1 isAgg38 q0 rfl rfl) <| ov [1] (GX (A := (fun x : Av => [(AG (Av.ck x))])) (B := (fun r : Bool => (AE r))) (g := (fun x : Av => D3 x a_1)) (Cs := [(FB [Af 32 a_1])]) call92 (fun x r h => HJ h) ⟨q0, trivial⟩) <| oc [501, 500] [] call91 (Ft hr3) ⟨q0, q1, trivial⟩ <| ov [500] (Ad q0) .nil) fun _ a w h => ?_
 refine wp_ret ?_
 obtain rfl := Option.some.inj hF
 exact ⟨.inl rfl, BG h results50 (Bc 0 rfl) [] [] rfl rfl rfl⟩

def CX (a_0 : Ae) (a_1 : List UInt8) (a_2 : Int) : Option Int := ((E3 a_0 a_1).bind fun r3 => (if (decide (r3 < (0 : Int))) = true then some 31 else (if (0 : Int) ≤ r3 ∧ r3 < a_0.BY.length then (if (decide (a_2 < ((a_0.BY.getD r3.toNat default).N3))) = true then some 36 else some 0) else none)))
theorem Eu {a_0 : Ae} {a_1 : List UInt8} {a_2 : Int} {r : Int} (hF : CX a_0 a_1 a_2 = some r) : Az prog KG 58 [(AG (Ae.ck a_0)), (AG [Af 32 a_1]), (Ab .u64 a_2)] [] (fun _ => []) (Ab .i64 r) := by
 refine Az.intro 23 func58 rfl ntmps58 (Nat.le_of_ble_eq_true rfl) ?_
 intro c a w hG hn h
 unfold CX at hF
 change Ar c [.slot 0 (AG (Ae.ck a_0)), .slot 1 (AG [Af 32 a_1]), .slot 2 (Ab .u64 a_2)] a w at h
 refine Ao mixed hn hG h [2, 504, 502, 503, 501] (ob [0] (BF q0 (Al _)) <| ob [1] (BF q0 (Al _)) <| ov [] (Ad qi) .nil) fun b1 a w h => ?_
 obtain ⟨r3, hr3, hF⟩ := bind_some hF
 refine Ao mixed hn hG h [0, 1, 500, 3] (ov [1, 3] (AA 1 isAgg41 sizeOf41 q0) <| ov [2, 4] (AA 1 isAgg33 sizeOf33 q0) <| oc [501, 500] [] call50 (IL hr3) ⟨q0, q1, trivial⟩ <| ov [500] (Ad q0) .nil) fun _ a w h => ?_
 refine wp_seq ?_
 refine wp_block ?_
 refine Ao mixed hn hG h [0, 1, 2, 500, 3] (ov [2] (Aa q0) <| ov [500] (Ak Bl q0 qi) <| ov [500] (Ad q0) .nil) fun _ a w h => ?_
 refine DL h hF 3 [] [0, 1, 2, 4] (fun hb4 hF h => ?_) (fun hb4 hF h => ?_)
 ·refine Ao mixed hn hG h [500] (ov [] (Ad qi) .nil) fun _ a w h => ?_
  refine wp_ret ?_
  obtain rfl := Option.some.inj hF
  exact ⟨.inl rfl, BG h results58 (Bc 0 rfl) [] [] rfl rfl rfl⟩
 ·obtain ⟨hv5, hF⟩ := Ay hF
  refine Ao mixed hn hG h [500] (ov [1] (Aj (p := (b1 0)) (n := 1) 0 68 underlying41 rfl sizeOf38 (by decide) q0 rfl) <| ov [500, 3] (AB ((Ae.ck a_0).take 6) ((Ae.ck a_0).drop 7) 1 isAgg38 q0 rfl rfl) <| ov [2] (Aa q0) <| ov [501, 500] (AL underlying38 sizeOf37 Av.lens q0 q1 hv5) <| ov [500] (Ct (n := 1) [Af 32 ((a_0.BY.getD r3.toNat default).Cw)] _ underlying37 rfl sizeOf24 (by decide) q0 rfl) <| ov [500] (BH [] isAgg24 q0) <| ov [0] (Aa q0) <| ov [501, 500] (Ak Gd q0 q1) <| ov [500] (Ad q0) .nil) fun _ a w h => ?_
  refine DL h hF 0 [] [] (fun hb6 hF h => ?_) (fun hb6 hF h => ?_)
  ·refine Ao mixed hn hG h [500] (ov [] (Ad qi) .nil) fun _ a w h => ?_
   refine wp_ret ?_
   obtain rfl := Option.some.inj hF
   exact ⟨.inl rfl, BG h results58 (Bc 0 rfl) [] [] rfl rfl rfl⟩
  ·refine wp_skip ?_
   show Code.wp prog _ _ a w
   refine Ao mixed hn hG h [500] (ov [] (Ad qi) .nil) fun _ a w h => ?_
   refine wp_ret ?_
   obtain rfl := Option.some.inj hF
   exact ⟨.inl rfl, BG h results58 (Bc 0 rfl) [] [] rfl rfl rfl⟩

def FJ (a_0 : Ai) : Option (List UInt8) := ((DM a_0.CK).bind fun r2 => ((DM a_0.Dl).bind fun r3 => (if r2.length + r3.length ≤ CG then ((DM a_0.Fk).bind fun r5 => (if (r2 ++ r3).length + r5.length ≤ CG then ((ET a_0.Fy).bind fun r7 => (if ((r2 ++ r3) ++ r5).length + r7.length ≤ CG then ((ET a_0.EC).bind fun r9 => (if (((r2 ++ r3) ++ r5) ++ r7).length + r9.length ≤ CG then ((ET a_0.Gg).bind fun r11 => (if ((((r2 ++ r3) ++ r5) ++ r7) ++ r9).length + r11.length ≤ CG then some (((((r2 ++ r3) ++ r5) ++ r7) ++ r9) ++ r11) else none)) else none)) else none)) else none)) else none)))
theorem IT {a_0 : Ai} {r : (List UInt8)} (hF : FJ a_0 = some r) : Az prog KG 97 [(AG (Ai.ck a_0))] [] (fun _ => []) (As r) := by
 refine Az.intro 26 func97 rfl ntmps97 (Nat.le_of_ble_eq_true rfl) ?_
 intro c a w hG hn h
 unfold FJ at hF
 change Ar c [.slot 0 (AG (Ai.ck a_0))] a w at h
 refine Ao mixed hn hG h [502, 501] (ob [0] (BF q0 (Al _)) <| ov [] (Ad (DZ (sc _ (by decide)))) .nil) fun b1 a w h => ?_
 obtain ⟨r2, hr2, hF⟩ := bind_some hF
 obtain ⟨r3, hr3, hF⟩ := bind_some hF
 obtain ⟨hv4, hF⟩ := Ay hF
 obtain ⟨r5, hr5, hF⟩ := bind_some hF
 obtain ⟨hv6, hF⟩ := Ay hF
 obtain ⟨r7, hr7, hF⟩ := bind_some hF
 obtain ⟨hv8, hF⟩ := Ay hF
 obtain ⟨r9, hr9, hF⟩ := bind_some hF
 obtain ⟨hv10, hF⟩ := Ay hF
 obtain ⟨r11, hr11, hF⟩ := bind_some hF
 obtain ⟨hv12, hF⟩ := Ay hF
 refine Ao mixed hn hG h [500] (ov [0] (Aj (p := (b1 0)) (n := 1) 0 0 underlying31 rfl sizeOf29 (by decide) q0 rfl) <| ov [500, 1] (AB [] ((Ai.ck a_0).drop 1) 1 isAgg29 q0 rfl rfl) <| oc [500] [] call89 (EX hr2) ⟨q0, trivial⟩ <| ov [0] (Aj (p := (b1 0)) (n := 1) 0 1 underlying31 rfl sizeOf29 (by decide) q0 rfl) <| ov [500, 1] (AB [one (Ab .u32 a_0.CK)] ((Ai.ck a_0).drop 2) 1 isAgg29 q0 rfl rfl) <| oc [500] [] call89 (EX hr3) ⟨q0, trivial⟩ <| ov [503, 500] (Ak (Cy hv4) q0 q1) <| ov [0] (Aj (p := (b1 0)) (n := 1) 0 2 underlying31 rfl sizeOf29 (by decide) q0 rfl) <| ov [500, 1] (AB ((Ai.ck a_0).take 2) ((Ai.ck a_0).drop 3) 1 isAgg29 q0 rfl rfl) <| oc [500] [] call89 (EX hr5) ⟨q0, trivial⟩ <| ov [503, 500] (Ak (Cy hv6) q0 q1) <| ov [0] (Aj (p := (b1 0)) (n := 1) 0 3 underlying31 rfl sizeOf9 (by decide) q0 rfl) <| ov [500, 1] (AB ((Ai.ck a_0).take 3) ((Ai.ck a_0).drop 4) 1 isAgg9 q0 rfl rfl) <| oc [500] [] call117 (FG hr7) ⟨q0, trivial⟩ <| ov [503, 500] (Ak (Cy hv8) q0 q1) <| ov [0] (Aj (p := (b1 0)) (n := 1) 0 4 underlying31 rfl sizeOf9 (by decide) q0 rfl) <| ov [500, 1] (AB ((Ai.ck a_0).take 4) [one (As a_0.Gg)] 1 isAgg9 q0 rfl rfl) <| oc [500] [] call117 (FG hr9) ⟨q0, trivial⟩ <| ov [503, 500] (Ak (Cy hv10) q0 q1) <| ov [0] (Aj (p := (b1 0)) (n := 1) 0 5 underlying31 rfl sizeOf9 (by decide) q0 rfl) <| ov [500, 1] (AB ((Ai.ck a_0).take 5) [] 1 isAgg9 q0 rfl rfl) <| oc [500] [] call117 (FG hr11) ⟨q0, trivial⟩ <| ov [503, 500] (Ak (Cy hv12) q0 q1) <| ov [500] (Ad q0) .nil) fun _ a w h => ?_
 refine wp_ret ?_
 obtain rfl := Option.some.inj hF
 exact ⟨.inl rfl, BG h results97 (Bc 0 rfl) [] [] rfl rfl rfl⟩

def EV (L_0 : Option AP) (a_1 : Ai) : Option ((List UInt8) × (Option AP)) := ((FJ a_1).bind fun r3 => ((DV L_0 5 [r3]).bind fun r4 => some (r4.1, r4.2)))
theorem FX {p_0 : Value} {L_0 : Option AP} {a_1 : Ai} {r : (List UInt8) × (Option AP)} (hF : EV L_0 a_1 = some r) : Az prog KG 64 [(Am p_0), (AG (Ai.ck a_1))] [(AO p_0 L_0)] (fun _ => [AO p_0 r.2]) (AG [Af 32 r.1]) := by
 refine Az.intro 10 func64 rfl ntmps64 (Nat.le_of_ble_eq_true rfl) ?_
 intro c a w hG hn h
 unfold EV at hF
 change Ar c [.slot 0 (Am p_0), .slot 1 (AG (Ai.ck a_1)), .res (AO p_0 L_0)] a w at h
 refine Ao mixed hn hG h [0, 503, 501, 2, 502, 500] (ob [1] (BF q0 (Al _)) <| ob [] (AJ zeroValue33 GN) .nil) fun b1 a w h => ?_
 obtain ⟨r3, hr3, hF⟩ := bind_some hF
 obtain ⟨r4, hr4, hF⟩ := bind_some hF
 refine Ao mixed hn hG h [2, 500, 501] (ov [0] (Aa q0) <| ov [1, 4] (AA 1 isAgg31 sizeOf31 q0) <| oc [500] [] call97 (IT hr3) ⟨q0, trivial⟩ <| ov [500] (Dn (xs := [.tmp 7]) (ys := [r3]) _ rfl underlying22 sizeOf9 zeroValue9 rfl rfl (by decide) (by decide) ⟨⟨_, q0, (Ap (Du _))⟩, trivial⟩ C5) <| oc [503, 500] [3] call80 (Fm hr4) ⟨q0, qi, q1, trivial⟩ <| ou [2, 501] 5 (Aq sizeOf33 q0 q1 (Al _)) .nil) fun _ a w h => ?_
 refine wp_ret ?_
 obtain rfl := Option.some.inj hF
 exact ⟨.inl rfl, BG h results64 (Bs 0 1 rfl rfl isAgg33 sizeOf33 rfl) [2] [(AO p_0 r4.2)] rfl rfl rfl⟩

def Fb (L_0 : Option AP) (a_1 : Int) (a_2 : List UInt8) (a_3 : List UInt8) : Option ((List UInt8) × (Option AP)) := ((DP a_2).bind fun r4 => ((DP a_3).bind fun r5 => ((DV L_0 a_1 [r4, r5]).bind fun r6 => some (r6.1, r6.2))))
theorem HW {p_0 : Value} {L_0 : Option AP} {a_1 : Int} {a_2 : List UInt8} {a_3 : List UInt8} {r : (List UInt8) × (Option AP)} (hF : Fb L_0 a_1 a_2 a_3 = some r) : Az prog KG 86 [(Am p_0), (Ab .u8 a_1), (AG [Af 32 a_2]), (AG [Af 32 a_3])] [(AO p_0 L_0)] (fun _ => [AO p_0 r.2]) (AG [Af 32 r.1]) := by
 refine Az.intro 17 func86 rfl ntmps86 (Nat.le_of_ble_eq_true rfl) ?_
 intro c a w hG hn h
 unfold Fb at hF
 change Ar c [.slot 0 (Am p_0), .slot 1 (Ab .u8 a_1), .slot 2 (AG [Af 32 a_2]), .slot 3 (AG [Af 32 a_3]), .res (AO p_0 L_0)] a w at h
 refine Ao mixed hn hG h [0, 1, 505, 503, 501, 4, 504, 502, 500] (ob [2] (BF q0 (Al _)) <| ob [3] (BF q0 (Al _)) <| ob [] (AJ zeroValue33 GN) .nil) fun b1 a w h => ?_
 obtain ⟨r4, hr4, hF⟩ := bind_some hF
 obtain ⟨r5, hr5, hF⟩ := bind_some hF
 obtain ⟨r6, hr6, hF⟩ := bind_some hF
 refine Ao mixed hn hG h [4, 500, 501] (ov [0] (Aa q0) <| ov [1] (Aa q0) <| ov [2, 6] (AA 1 isAgg33 sizeOf33 q0) <| oc [500] [] call79 (Ey hr4) ⟨q0, trivial⟩ <| ov [3, 7] (AA 1 isAgg33 sizeOf33 q0) <| oc [500] [] call79 (Ey hr5) ⟨q0, trivial⟩ <| ov [502, 500] (Dn (xs := [.tmp 12, .tmp 14]) (ys := [r4, r5]) _ rfl underlying22 sizeOf9 zeroValue9 rfl rfl (by decide) (by decide) ⟨⟨_, q0, (Ap (Du _))⟩, ⟨_, q1, (Ap (Du _))⟩, trivial⟩ C5) <| oc [506, 505, 500] [5] call80 (Fm hr6) ⟨q0, q1, q2, trivial⟩ <| ou [4, 501] 8 (Aq sizeOf33 q0 q1 (Al _)) .nil) fun _ a w h => ?_
 refine wp_ret ?_
 obtain rfl := Option.some.inj hF
 exact ⟨.inl rfl, BG h results86 (Bs 0 1 rfl rfl isAgg33 sizeOf33 rfl) [2] [(AO p_0 r6.2)] rfl rfl rfl⟩

def Ed (L_0 : Option AP) (a_1 : List UInt8) (a_2 : List UInt8) : Option ((List UInt8) × (Option AP)) := ((Fb L_0 6 a_1 a_2).bind fun r4 => some (r4.1, r4.2))
theorem E6 {p_0 : Value} {L_0 : Option AP} {a_1 : List UInt8} {a_2 : List UInt8} {r : (List UInt8) × (Option AP)} (hF : Ed L_0 a_1 a_2 = some r) : Az prog KG 87 [(Am p_0), (AG [Af 32 a_1]), (AG [Af 32 a_2])] [(AO p_0 L_0)] (fun _ => [AO p_0 r.2]) (AG [Af 32 r.1]) := by
 refine Az.intro 11 func87 rfl ntmps87 (Nat.le_of_ble_eq_true rfl) ?_
 intro c a w hG hn h
 unfold Ed at hF
 change Ar c [.slot 0 (Am p_0), .slot 1 (AG [Af 32 a_1]), .slot 2 (AG [Af 32 a_2]), .res (AO p_0 L_0)] a w at h
 refine Ao mixed hn hG h [0, 505, 503, 501, 3, 504, 502, 500] (ob [1] (BF q0 (Al _)) <| ob [2] (BF q0 (Al _)) <| ob [] (AJ zeroValue33 GN) .nil) fun b1 a w h => ?_
 obtain ⟨r4, hr4, hF⟩ := bind_some hF
 refine Ao mixed hn hG h [3, 500, 501] (ov [0] (Aa q0) <| ov [1, 5] (AA 1 isAgg33 sizeOf33 q0) <| ov [2, 6] (AA 1 isAgg33 sizeOf33 q0) <| oc [502, 501, 500] [4] call86 (HW hr4) ⟨q0, qi, q1, q2, trivial⟩ <| ou [3, 501] 7 (Aq sizeOf33 q0 q1 (Al _)) .nil) fun _ a w h => ?_
 refine wp_ret ?_
 obtain rfl := Option.some.inj hF
 exact ⟨.inl rfl, BG h results87 (Bs 0 1 rfl rfl isAgg33 sizeOf33 rfl) [2] [(AO p_0 r4.2)] rfl rfl rfl⟩

def BO.b1 (x6 : Int) (x7 : Option AP) (x8 : List (List UInt8)) : Option (CR ((List (List UInt8)) × (Option AP)) (Int × (Option AP) × (List (List UInt8)))) := (if (decide (x6 < (32 : Int))) = true then (if (0 : Int) ≤ x6 ∧ x6 < 33 then ((Ed x7 (x8.getD x6.toNat default) (x8.getD x6.toNat default)).bind fun r18 => (if (0 : Int) ≤ IntKind.wrap .i64 (x6 + 1) ∧ IntKind.wrap .i64 (x6 + 1) < 33 then some (.cont (IntKind.wrap .i64 (x6 + 1), r18.2, x8.set (IntKind.wrap .i64 (x6 + 1)).toNat r18.1)) else none)) else none) else some (.brk (x6, x7, x8)))
def BO (L_0 : Option AP) : Option ((List (List UInt8)) × (Option AP)) := ((Bf (fun s : Int × (Option AP) × (List (List UInt8)) => BO.b1 s.1 s.2.1 s.2.2) ((32 - 0 : Int).toNat + 2) (0, L_0, (List.replicate 33 (List.replicate 32 0)))).bind fun cr => match cr with | .ret r => some r | .next (y24, y25, y26) => some (y26, y25))
theorem Gb {p_0 : Value} {L_0 : Option AP} {r : (List (List UInt8)) × (Option AP)} (hF : BO L_0 = some r) : Az prog KG 45 [(Am p_0)] [(AO p_0 L_0)] (fun _ => [AO p_0 r.2]) (AG [Ee 33 32 (dC 32) (Bk 32) r.1]) := by
 refine Az.intro 21 func45 rfl ntmps45 (Nat.le_of_ble_eq_true rfl) ?_
 intro c a w hG hn h
 unfold BO at hF
 change Ar c [.slot 0 (Am p_0), .res (AO p_0 L_0)] a w at h
 refine Ao mixed hn hG h [0, 501, 1, 500] (ob [] (AJ zeroValue113 Oy) .nil) fun b1 a w h => ?_
 refine Ao mixed hn hG h [0, 1, 501, 2, 3, 500] (ob [] (AJ zeroValue113 Oy) .nil) fun b2 a w h => ?_
 refine wp_seq ?_
 refine Ao mixed hn hG h [0, 1, 2, 500, 3, 4, 5] (ov [] (Aa qi) .nil) fun _ a w h => ?_
 refine wp_block ?_
 obtain ⟨cr20, hl21, hF⟩ := bind_some hF
 refine wp_mono (Bw (R := (List (List UInt8)) × (Option AP)) (S := Int × (Option AP) × (List (List UInt8))) (fun s a w => Ar c [.slot 0 (Am p_0), .slot 2 (Au (b1 0) 0), .slot 3 (Au (b2 0) 0), .slot 5 (Ab .i64 s.1), .res (AO p_0 s.2.1), .res (lb (b1 0) 113 [Ee 33 32 (dC 32) (Bk 32) (List.replicate 33 (List.replicate 32 0))]), .res (lb (b2 0) 113 [Ee 33 32 (dC 32) (Bk 32) s.2.2])] a w) (fun res e a w => match res with | .next s => e = .exit 0 ∧ Ar c [.slot 2 (Au (b1 0) 0), .slot 3 (Au (b2 0) 0), .res (AO p_0 s.2.1), .res (lb (b1 0) 113 [Ee 33 32 (dC 32) (Bk 32) (List.replicate 33 (List.replicate 32 0))]), .res (lb (b2 0) 113 [Ee 33 32 (dC 32) (Bk 32) s.2.2])] a w | .ret r => e = .ret ∧ CO prog f45 c (AG [Ee 33 32 (dC 32) (Bk 32) r.1]) (fun _ => [AO p_0 r.2]) a w) ?_ _ (0, L_0, (List.replicate 33 (List.replicate 32 0))) _ _ _ (h.sub [0, 1, 2, 3, 4, 5, 6] (by rfl)) hl21) ?_
 ·clear hl21 hF h
  intro s a w o h hF
  obtain ⟨x6, x7, x8⟩ := s
  change BO.b1 x6 x7 x8 = some o at hF
  unfold BO.b1 at hF
  change Ar c [.slot 0 (Am p_0), .slot 2 (Au (b1 0) 0), .slot 3 (Au (b2 0) 0), .slot 5 (Ab .i64 x6), .res (AO p_0 x7), .res (lb (b1 0) 113 [Ee 33 32 (dC 32) (Bk 32) (List.replicate 33 (List.replicate 32 0))]), .res (lb (b2 0) 113 [Ee 33 32 (dC 32) (Bk 32) x8])] a w at h
  refine Ao mixed hn hG h [0, 1, 2, 3, 500, 4, 5, 6] (ov [3] (Ak Bl q0 qi) .nil) fun _ a w h => ?_
  refine wp_seq ?_
  refine DL h hF 4 [0, 1, 2, 3, 5, 6, 7] [0, 1, 2, 3, 5, 6, 7] (fun hb16 hF h => ?_) (fun hb16 hF h => ?_)
  ·refine wp_skip ?_
   show Code.wp prog _ _ a w
   refine wp_seq ?_
   refine wp_block ?_
   refine Ao mixed hn hG h [0, 1, 2, 500, 3, 4, 5, 6] (ov [3] (Aa q0) <| ov [500] (Ad q0) .nil) fun _ a w h => ?_
   obtain ⟨hv17, hF⟩ := Ay hF
   obtain ⟨r18, hr18, hF⟩ := bind_some hF
   obtain ⟨hv19, hF⟩ := Ay hF
   refine CY mixed hn hG h [0, 1, 2, 4, 6, 500, 502] (ov [3] (Aa q0) <| ov [500] (Ak AY q0 qi) <| ov [0] (Aa q0) <| ov [3] (Aa q0) <| ov [2, 500] (Aw underlying113 sizeOf33 q0 q1 hv17) <| ov [500, 7] (EU (i := x6) [] [] 1 isAgg33 sizeOf33 q0 rfl rfl hv17) <| ov [3] (Aa q0) <| ov [2, 500] (Aw underlying113 sizeOf33 q0 q1 hv17) <| ov [500, 7] (EU (i := x6) [] [] 1 isAgg33 sizeOf33 q0 rfl rfl hv17) <| oc [506, 503, 500] [5] call87 (E6 hr18) ⟨q0, q1, q2, trivial⟩ <| ov [2, 509] (Aw underlying113 sizeOf33 q0 q1 hv19) <| ou [500, 502] 7 (Ks (i := IntKind.wrap .i64 (x6 + 1)) [] [] sizeOf33 q0 q1 rfl hv19) .nil) fun _ a w h => ?_
   show Code.wp prog _ _ a w
   refine CY mixed hn hG h [0, 1, 2, 500, 4, 5, 6] (ov [3] (Ak AY q0 qi) <| od [500] 3 (Aa q0) .nil) fun _ a w h => ?_
   obtain rfl := Option.some.inj hF
   exact ⟨rfl, h.sub [0, 1, 2, 3, 6, 4, 5] (by rfl)⟩
  ·refine wp_exit ?_
   obtain rfl := Option.some.inj hF
   exact ⟨BQ _, rfl, h.sub [1, 2, 4, 5, 6] (by rfl)⟩
 ·clear hl21
  intro e a w hq
  cases cr20 with
  | ret r22 =>
   obtain ⟨rfl, hq⟩ := hq
   obtain rfl := Option.some.inj hF
   exact ⟨.inl rfl, hq⟩
  | next s23 =>
   obtain ⟨y24, y25, y26⟩ := s23
   obtain ⟨rfl, h⟩ := hq
   change Ar c [.slot 2 (Au (b1 0) 0), .slot 3 (Au (b2 0) 0), .res (AO p_0 y25), .res (lb (b1 0) 113 [Ee 33 32 (dC 32) (Bk 32) (List.replicate 33 (List.replicate 32 0))]), .res (lb (b2 0) 113 [Ee 33 32 (dC 32) (Bk 32) y26])] a w at h
   refine Be ?_
   show Code.wp prog _ _ a w
   refine Ao mixed hn hG h [0, 2, 500] (ov [1, 4] (AA 1 isAgg113 sizeOf113 q0) <| ou [0, 500] 3 (Aq sizeOf113 q0 q1 (Al _)) .nil) fun _ a w h => ?_
   refine wp_ret ?_
   obtain rfl := Option.some.inj hF
   exact ⟨.inl rfl, BG h results45 (Bs 0 2 rfl rfl isAgg113 sizeOf113 (by kernel_rfl)) [1] [(AO p_0 y25)] rfl rfl rfl⟩

def BV.j1 (a_1 : List (List UInt8)) (x20 : Int) (x21 : Option AP) (x22 : List (List UInt8)) (x39 : List UInt8) : Option (CR ((List (List UInt8)) × (Option AP)) (Int × (Option AP) × (List (List UInt8)))) := (if (0 : Int) ≤ x20 ∧ x20 < a_1.length then ((Ed x21 (a_1.getD x20.toNat default) x39).bind fun r41 => (if x22.length + [r41.1].length ≤ CG ∧ (x22.length + [r41.1].length) * 32 ≤ 140737488355328 then some (.cont (IntKind.wrap .i64 (x20 + 2), r41.2, x22 ++ [r41.1])) else none)) else none)
def BV.b1 (a_1 : List (List UInt8)) (a_2 : List UInt8) (x20 : Int) (x21 : Option AP) (x22 : List (List UInt8)) : Option (CR ((List (List UInt8)) × (Option AP)) (Int × (Option AP) × (List (List UInt8)))) := (if (decide (x20 < (a_1.length : Int))) = true then (if (decide ((IntKind.wrap .i64 (x20 + 1)) < (a_1.length : Int))) = true then (if (0 : Int) ≤ IntKind.wrap .i64 (x20 + 1) ∧ IntKind.wrap .i64 (x20 + 1) < a_1.length then BV.j1 a_1 x20 x21 x22 (a_1.getD (IntKind.wrap .i64 (x20 + 1)).toNat default) else none) else BV.j1 a_1 x20 x21 x22 a_2) else some (.brk (x20, x21, x22)))
def BV (L_0 : Option AP) (a_1 : List (List UInt8)) (a_2 : List UInt8) : Option ((List (List UInt8)) × (Option AP)) := ((Bf (fun s : Int × (Option AP) × (List (List UInt8)) => BV.b1 a_1 a_2 s.1 s.2.1 s.2.2) (((a_1.length : Int) - 0 : Int).toNat + 2) (0, L_0, [])).bind fun cr => match cr with | .ret r => some r | .next (y50, y51, y52) => some (y52, y51))
theorem HQ {p_0 : Value} {L_0 : Option AP} {a_1 : List (List UInt8)} {a_2 : List UInt8} {r : (List (List UInt8)) × (Option AP)} (hF : BV L_0 a_1 a_2 = some r) : Az prog KG 46 [(Am p_0), (An (dC 32) a_1), (AG [Af 32 a_2])] [(AO p_0 L_0)] (fun _ => [AO p_0 r.2]) (An (dC 32) r.1) := by
 refine Az.intro 38 func46 rfl ntmps46 (Nat.le_of_ble_eq_true rfl) ?_
 intro c a w hG hn h
 unfold BV at hF
 change Ar c [.slot 0 (Am p_0), .slot 1 (An (dC 32) a_1), .slot 2 (AG [Af 32 a_2]), .res (AO p_0 L_0)] a w at h
 refine Ao mixed hn hG h [0, 1, 502, 3, 501] (ob [2] (BF q0 (Al _)) <| ov [] (Ad (DZ (ec _))) .nil) fun b1 a w h => ?_
 refine Ao mixed hn hG h [0, 1, 2, 500, 3, 4] (ov [] (Ad (DZ (ec _))) .nil) fun _ a w h => ?_
 refine wp_seq ?_
 refine Ao mixed hn hG h [0, 1, 2, 3, 500, 4, 5] (ov [] (Ad qi) .nil) fun _ a w h => ?_
 refine wp_block ?_
 obtain ⟨q11, h⟩ : ∃ q11 : Value, Ar c [.slot 0 (Am p_0), .slot 1 (An (dC 32) a_1), .slot 5 (Au (b1 0) 0), .slot 7 (Am q11), .slot 8 (Ab .i64 0), .res (AO p_0 L_0), .res (lb (b1 0) 33 [Af 32 a_2]), .res (acc q11 33 32 (dC 32) [])] a w := ⟨.slice none 0 0, (h.Ij 33 32 (dC 32)).sub [0, 1, 2, 3, 4, 5, 6, 7] (by rfl)⟩
 obtain ⟨cr46, hl47, hF⟩ := bind_some hF
 refine wp_mono (Bw (R := (List (List UInt8)) × (Option AP)) (S := Int × (Option AP) × (List (List UInt8))) (fun s a w => ∃ q23 : Value, Ar c [.slot 0 (Am p_0), .slot 1 (An (dC 32) a_1), .slot 5 (Au (b1 0) 0), .slot 7 (Am q23), .slot 8 (Ab .i64 s.1), .res (AO p_0 s.2.1), .res (lb (b1 0) 33 [Af 32 a_2]), .res (acc q23 33 32 (dC 32) s.2.2)] a w) (fun res e a w => match res with | .next s => e = .exit 0 ∧ ∃ q23 : Value, Ar c [.slot 7 (Am q23), .res (AO p_0 s.2.1), .res (acc q23 33 32 (dC 32) s.2.2)] a w | .ret r => e = .ret ∧ CO prog f46 c (An (dC 32) r.1) (fun _ => [AO p_0 r.2]) a w) ?_ _ (0, L_0, []) _ _ _ ⟨q11, (h.sub [0, 1, 2, 3, 4, 5, 6, 7] (by rfl))⟩ hl47) ?_
 ·clear hl47 hF h
  intro s a w o h hF
  obtain ⟨x20, x21, x22⟩ := s
  obtain ⟨q23, h⟩ := h
  change BV.b1 a_1 a_2 x20 x21 x22 = some o at hF
  unfold BV.b1 at hF
  change Ar c [.slot 0 (Am p_0), .slot 1 (An (dC 32) a_1), .slot 5 (Au (b1 0) 0), .slot 7 (Am q23), .slot 8 (Ab .i64 x20), .res (AO p_0 x21), .res (lb (b1 0) 33 [Af 32 a_2]), .res (acc q23 33 32 (dC 32) x22)] a w at h
  refine wp_seq ?_
  refine Ao mixed hn hG h [0, 1, 2, 3, 4, 500, 5, 6, 7] (ov [4] (Aa q0) <| ov [1] (Aa q0) <| ov [500] (A4 underlying27 q0) <| ov [502, 500] (Ak Bl q0 q1) .nil) fun _ a w h => ?_
  refine DL h hF 5 [0, 1, 2, 3, 4, 6, 7, 8] [0, 1, 2, 3, 4, 6, 7, 8] (fun hb36 hF h => ?_) (fun hb36 hF h => ?_)
  ·refine wp_skip ?_
   show Code.wp prog _ _ a w
   refine wp_seq ?_
   refine wp_block ?_
   refine Ao mixed hn hG h [0, 1, 2, 3, 4, 502, 5, 6, 7, 500] (ov [2, 6] (AA 1 isAgg33 sizeOf33 q0) <| ob [] (AJ zeroValue33 GN) <| og [501, 502] [500] [.res 1 100000 (fun v1_ _ => (lb (v1_) 33 [Af 32 a_2]))] (AV.plain (Aq sizeOf33 q0 q1 (Al _)) rfl) .nil) fun b37 a w h => ?_
   refine wp_seq ?_
   refine Ao mixed hn hG h [0, 1, 2, 3, 4, 5, 500, 6, 7, 8, 9] (ov [4] (Aa q0) <| ov [500] (Ak AY q0 qi) <| ov [1] (Aa q0) <| ov [500] (A4 underlying27 q0) <| ov [502, 500] (Ak Bl q0 q1) .nil) fun _ a w h => ?_
   refine wp_cut (fun a w => ∃ (x39 : List UInt8), BV.j1 a_1 x20 x21 x22 x39 = some o ∧ Ar c [.slot 0 (Am p_0), .slot 1 (An (dC 32) a_1), .slot 5 (Au (b1 0) 0), .slot 7 (Am q23), .slot 8 (Ab .i64 x20), .slot 9 (Au (b37 1) 0), .res (AO p_0 x21), .res (lb (b1 0) 33 [Af 32 a_2]), .res (acc q23 33 32 (dC 32) x22), .res (lb (b37 1) 33 [Af 32 x39])] a w) ?_ ?_
   ·refine DL h hF 6 [0, 1, 2, 3, 4, 5, 7, 8, 9, 10] [0, 1, 2, 3, 4, 5, 7, 8, 9, 10] (fun hb44 hF h => ?_) (fun hb44 hF h => ?_)
    ·obtain ⟨hv45, hF⟩ := Ay hF
     refine CY mixed hn hG h [0, 1, 2, 3, 4, 5, 6, 7, 8, 500] (ov [1] (Aa q0) <| ov [4] (Aa q0) <| ov [500] (Ak AY q0 qi) <| ov [502, 500] (AL underlying27 sizeOf33 (Bk 32) q0 q1 hv45) <| ov [500] (BM [Af 32 (a_1.getD (IntKind.wrap .i64 (x20 + 1)).toNat default)] [] isAgg33 sizeOf33 q0 rfl) <| ou [5, 500] 9 (Aq sizeOf33 q0 q1 (Al _)) .nil) fun _ a w h => ?_
     exact ⟨a_1.getD (IntKind.wrap .i64 (x20 + 1)).toNat default, hF, h.sub [0, 1, 2, 3, 4, 5, 6, 7, 8, 9] (by rfl)⟩
    ·refine wp_skip ?_
     exact ⟨a_2, hF, h.sub [0, 1, 2, 3, 4, 5, 6, 7, 8, 9] (by rfl)⟩
   ·clear h hF
    rintro a w ⟨x39, hF, h⟩
    unfold BV.j1 at hF
    show Code.wp prog _ _ a w
    obtain ⟨hv40, hF⟩ := Ay hF
    obtain ⟨r41, hr41, hF⟩ := bind_some hF
    obtain ⟨hv42, hF⟩ := Ay hF
    refine CY mixed hn hG h [0, 1, 2, 500, 4, 7, 504, 501] (ov [3] (Aa q0) <| ov [0] (Aa q0) <| ov [1] (Aa q0) <| ov [4] (Aa q0) <| ov [501, 500] (AL underlying27 sizeOf33 (Bk 32) q0 q1 hv40) <| ov [500] (BM [Af 32 (a_1.getD x20.toNat default)] [] isAgg33 sizeOf33 q0 rfl) <| ov [5, 9] (AA 1 isAgg33 sizeOf33 q0) <| oc [505, 501, 500] [6] call87 (E6 hr41) ⟨q0, q1, q2, trivial⟩ <| ov [501] (Dn (xs := [.tmp 34]) (ys := [r41.1]) _ rfl underlying27 sizeOf33 zeroValue33 rfl rfl (by decide) (by decide) ⟨⟨_, q0, (Al _)⟩, trivial⟩ (Bk 32)) <| og [509, 500] [8] [.slot 36 9 100000 (fun v1_ _ => (Am v1_)), .res 9 100000 (fun v1_ _ => (acc (v1_) 33 32 (dC 32) (x22 ++ [r41.1])))] (AV.plain (DO (i := t33) underlying27 type33 rfl (Bk 32) (by decide) rfl q0 q1 hv42) rfl) <| og [501] [3] [.slot 7 9 100000 (fun v1_ _ => (Am v1_))] (fun {β} => (AV.drop _ (AV.plain (Ad (V := (Am (β 9))) q0) rfl))) .nil) fun b43 a w h => ?_
    show Code.wp prog _ _ a w
    refine CY mixed hn hG h [0, 1, 2, 3, 500, 5, 6, 7] (ov [4] (Aa q0) <| ov [500] (Ak AY q0 qi) <| od [500] 4 (Ad q0) .nil) fun _ a w h => ?_
    obtain rfl := Option.some.inj hF
    exact ⟨rfl, (b43 9), h.sub [0, 1, 2, 3, 4, 6, 5, 7] (by rfl)⟩
  ·refine wp_exit ?_
   obtain rfl := Option.some.inj hF
   exact ⟨BQ _, rfl, q23, h.sub [3, 5, 7] (by rfl)⟩
 ·clear hl47
  intro e a w hq
  cases cr46 with
  | ret r48 =>
   obtain ⟨rfl, hq⟩ := hq
   obtain rfl := Option.some.inj hF
   exact ⟨.inl rfl, hq⟩
  | next s49 =>
   obtain ⟨y50, y51, y52⟩ := s49
   obtain ⟨rfl, q23, h⟩ := hq
   change Ar c [.slot 7 (Am q23), .res (AO p_0 y51), .res (acc q23 33 32 (dC 32) y52)] a w at h
   refine Be ?_
   show Code.wp prog _ _ a w
   refine Ao mixed hn hG h [500, 1, 2] (ov [0] (Aa q0) <| ov [500] (Ad q0) .nil) fun _ a w h => ?_
   refine wp_ret ?_
   obtain rfl := Option.some.inj hF
   exact ⟨.inl rfl, BG h results46 (NG 0 2 rfl rfl) [1] [(AO p_0 y51)] rfl rfl rfl⟩

def Dj.b1 (r3 : (List (List UInt8)) × (Option AP)) (x7 : List (List UInt8)) (x8 : Int) (x9 : Option AP) : Option (CR ((List UInt8) × (Option AP)) ((List (List UInt8)) × Int × (Option AP))) := (if (decide (x8 < (32 : Int))) = true then (if (0 : Int) ≤ x8 ∧ x8 < 33 then ((BV x9 x7 (r3.1.getD x8.toNat default)).bind fun r18 => some (.cont (r18.1, IntKind.wrap .i64 (x8 + 1), r18.2))) else none) else some (.brk (x7, x8, x9)))
def Dj (L_0 : Option AP) (a_1 : List (List UInt8)) : Option ((List UInt8) × (Option AP)) := (if (0 : Int) ≤ 0 ∧ (0 : Int) ≤ (if (4096 : Int) < (a_1.length : Int) then (4096 : Int) else (a_1.length : Int)) ∧ (if (4096 : Int) < (a_1.length : Int) then (4096 : Int) else (a_1.length : Int)) ≤ a_1.length then ((BO L_0).bind fun r3 => ((Bf (fun s : (List (List UInt8)) × Int × (Option AP) => Dj.b1 r3 s.1 s.2.1 s.2.2) ((32 - 0 : Int).toNat + 2) ((a_1.take (if (4096 : Int) < (a_1.length : Int) then (4096 : Int) else (a_1.length : Int)).toNat).drop (0 : Int).toNat, 0, r3.2)).bind fun cr => match cr with | .ret r => some r | .next (y23, y24, y25) => (if (decide ((y23.length : Int) = (0 : Int))) = true then some (r3.1.getD (32 : Int).toNat default, y25) else (if (0 : Int) ≤ 0 ∧ (0 : Int) < y23.length then some (y23.getD (0 : Int).toNat default, y25) else none)))) else none)
theorem KC {p_0 : Value} {L_0 : Option AP} {a_1 : List (List UInt8)} {r : (List UInt8) × (Option AP)} (hF : Dj L_0 a_1 = some r) : Az prog KG 18 [(Am p_0), (An (dC 32) a_1)] [(AO p_0 L_0)] (fun _ => [AO p_0 r.2]) (AG [Af 32 r.1]) := by
 refine Az.intro 33 func18 rfl ntmps18 (Nat.le_of_ble_eq_true rfl) ?_
 intro c a w hG hn h
 unfold Dj at hF
 change Ar c [.slot 0 (Am p_0), .slot 1 (An (dC 32) a_1), .res (AO p_0 L_0)] a w at h
 refine Ao mixed hn hG h [0, 1, 501, 2, 500] (ob [] (AJ zeroValue33 GN) .nil) fun b1 a w h => ?_
 obtain ⟨hv2, hF⟩ := Ay hF
 refine Ao mixed hn hG h [0, 2, 500, 3, 4] (ov [1] (Aa q0) <| ov [1] (Aa q0) <| ov [500] (A4 underlying27 q0) <| ov [500] (Kt q0 qi) <| ov [503, 500] (Ea (a := 0) (b := (if (4096 : Int) < (a_1.length : Int) then (4096 : Int) else (a_1.length : Int))) underlying27 sizeOf33 (Bk 32) q0 rfl ⟨_, q1⟩ hv2) <| ov [500] (Ad q0) .nil) fun _ a w h => ?_
 obtain ⟨r3, hr3, hF⟩ := bind_some hF
 refine Ao mixed hn hG h [0, 1, 2, 502, 4, 503, 500] (ov [0] (Aa q0) <| oc [500] [3] call45 (Gb hr3) ⟨q0, trivial⟩ <| ob [] (AJ zeroValue113 Oy) <| og [501, 503] [500] [.res 2 100000 (fun v1_ _ => (lb (v1_) 113 [Ee 33 32 (dC 32) (Bk 32) r3.1]))] (AV.plain (Aq sizeOf113 q0 q1 (Al _)) rfl) .nil) fun b4 a w h => ?_
 refine wp_seq ?_
 refine Ao mixed hn hG h [0, 1, 2, 3, 500, 4, 5, 6] (ov [] (Aa qi) .nil) fun _ a w h => ?_
 refine wp_block ?_
 obtain ⟨cr19, hl20, hF⟩ := bind_some hF
 refine wp_mono (Bw (R := (List UInt8) × (Option AP)) (S := (List (List UInt8)) × Int × (Option AP)) (fun s a w => Ar c [.slot 0 (Am p_0), .slot 4 (Au (b1 0) 0), .slot 5 (An (dC 32) s.1), .slot 6 (Au (b4 2) 0), .slot 15 (Ab .i64 s.2.1), .res (lb (b1 0) 33 [Af 32 (List.replicate 32 0)]), .res (AO p_0 s.2.2), .res (lb (b4 2) 113 [Ee 33 32 (dC 32) (Bk 32) r3.1])] a w) (fun res e a w => match res with | .next s => e = .exit 0 ∧ Ar c [.slot 4 (Au (b1 0) 0), .slot 5 (An (dC 32) s.1), .slot 6 (Au (b4 2) 0), .res (lb (b1 0) 33 [Af 32 (List.replicate 32 0)]), .res (AO p_0 s.2.2), .res (lb (b4 2) 113 [Ee 33 32 (dC 32) (Bk 32) r3.1])] a w | .ret r => e = .ret ∧ CO prog f18 c (AG [Af 32 r.1]) (fun _ => [AO p_0 r.2]) a w) ?_ _ ((a_1.take (if (4096 : Int) < (a_1.length : Int) then (4096 : Int) else (a_1.length : Int)).toNat).drop (0 : Int).toNat, 0, r3.2) _ _ _ (h.sub [0, 1, 2, 3, 4, 5, 6, 7] (by rfl)) hl20) ?_
 ·clear hl20 hF h
  intro s a w o h hF
  obtain ⟨x7, x8, x9⟩ := s
  change Dj.b1 r3 x7 x8 x9 = some o at hF
  unfold Dj.b1 at hF
  change Ar c [.slot 0 (Am p_0), .slot 4 (Au (b1 0) 0), .slot 5 (An (dC 32) x7), .slot 6 (Au (b4 2) 0), .slot 15 (Ab .i64 x8), .res (lb (b1 0) 33 [Af 32 (List.replicate 32 0)]), .res (AO p_0 x9), .res (lb (b4 2) 113 [Ee 33 32 (dC 32) (Bk 32) r3.1])] a w at h
  refine Ao mixed hn hG h [0, 1, 2, 3, 4, 500, 5, 6, 7] (ov [4] (Ak Bl q0 qi) .nil) fun _ a w h => ?_
  refine wp_seq ?_
  refine DL h hF 5 [0, 1, 2, 3, 4, 6, 7, 8] [0, 1, 2, 3, 4, 6, 7, 8] (fun hb16 hF h => ?_) (fun hb16 hF h => ?_)
  ·refine wp_skip ?_
   show Code.wp prog _ _ a w
   refine wp_seq ?_
   refine wp_block ?_
   refine Ao mixed hn hG h [0, 1, 2, 3, 500, 4, 5, 6, 7] (ov [4] (Aa q0) <| ov [500] (Ad q0) .nil) fun _ a w h => ?_
   obtain ⟨hv17, hF⟩ := Ay hF
   obtain ⟨r18, hr18, hF⟩ := bind_some hF
   refine CY mixed hn hG h [0, 1, 500, 3, 5, 6, 8, 501] (ov [0] (Aa q0) <| ov [2] (Aa q0) <| ov [4] (Aa q0) <| ov [3, 500] (Aw underlying113 sizeOf33 q0 q1 hv17) <| ov [500, 8] (EU (i := x8) [] [] 1 isAgg33 sizeOf33 q0 rfl rfl hv17) <| oc [504, 503, 500] [7] call46 (HQ hr18) ⟨q0, q1, q2, trivial⟩ <| od [501] 2 (Ad q0) .nil) fun _ a w h => ?_
   show Code.wp prog _ _ a w
   refine CY mixed hn hG h [0, 1, 2, 3, 500, 5, 6, 7] (ov [4] (Ak AY q0 qi) <| od [500] 4 (Aa q0) .nil) fun _ a w h => ?_
   obtain rfl := Option.some.inj hF
   exact ⟨rfl, h.sub [0, 1, 2, 3, 4, 5, 7, 6] (by rfl)⟩
  ·refine wp_exit ?_
   obtain rfl := Option.some.inj hF
   exact ⟨BQ _, rfl, h.sub [1, 2, 3, 5, 6, 7] (by rfl)⟩
 ·clear hl20
  intro e a w hq
  cases cr19 with
  | ret r21 =>
   obtain ⟨rfl, hq⟩ := hq
   obtain rfl := Option.some.inj hF
   exact ⟨.inl rfl, hq⟩
  | next s22 =>
   obtain ⟨y23, y24, y25⟩ := s22
   obtain ⟨rfl, h⟩ := hq
   change Ar c [.slot 4 (Au (b1 0) 0), .slot 5 (An (dC 32) y23), .slot 6 (Au (b4 2) 0), .res (lb (b1 0) 33 [Af 32 (List.replicate 32 0)]), .res (AO p_0 y25), .res (lb (b4 2) 113 [Ee 33 32 (dC 32) (Bk 32) r3.1])] a w at h
   refine Be ?_
   show Code.wp prog _ _ a w
   refine wp_seq ?_
   refine Ao mixed hn hG h [0, 1, 2, 500, 3, 4, 5] (ov [1] (Aa q0) <| ov [500] (A4 underlying27 q0) <| ov [500] (Ak C3 q0 qi) .nil) fun _ a w h => ?_
   refine DL h hF 3 [0, 2, 4, 5, 6] [0, 1, 4, 5] (fun hb26 hF h => ?_) (fun hb26 hF h => ?_)
   ·refine Ao mixed hn hG h [0, 500, 3] (ov [1] (Aw underlying113 sizeOf33 q0 qi (by decide)) <| ov [500, 4] (EU (i := 32) [] [] 1 isAgg33 sizeOf33 q0 rfl rfl (by decide)) <| ou [0, 500] 2 (Aq sizeOf33 q0 q1 (Al _)) .nil) fun _ a w h => ?_
    refine wp_ret ?_
    obtain rfl := Option.some.inj hF
    exact ⟨.inl rfl, BG h results18 (Bs 0 1 rfl rfl isAgg33 sizeOf33 rfl) [2] [(AO p_0 y25)] rfl rfl rfl⟩
   ·refine wp_skip ?_
    show Code.wp prog _ _ a w
    obtain ⟨hv27, hF⟩ := Ay hF
    refine Ao mixed hn hG h [0, 500, 3] (ov [1] (Aa q0) <| ov [500] (AL underlying27 sizeOf33 (Bk 32) q0 qi hv27) <| ov [500] (BM [Af 32 (y23.getD (0 : Int).toNat default)] [] isAgg33 sizeOf33 q0 rfl) <| ou [0, 500] 2 (Aq sizeOf33 q0 q1 (Al _)) .nil) fun _ a w h => ?_
    refine wp_ret ?_
    obtain rfl := Option.some.inj hF
    exact ⟨.inl rfl, BG h results18 (Bs 0 1 rfl rfl isAgg33 sizeOf33 rfl) [2] [(AO p_0 y25)] rfl rfl rfl⟩

def Ca (a_0 : List (List UInt8)) : Option (List (List UInt8)) := (if a_0.length * 32 ≤ 140737488355328 then some a_0 else none)
theorem FQ {a_0 r : List (List UInt8)} (hF : Ca a_0 = some r) : Az prog KG 43 [(An (dC 32) a_0)] [] (fun _ => []) (An (dC 32) r) := by
 unfold Ca at hF
 obtain ⟨hv1, hF⟩ := Ay hF
 obtain rfl := Option.some.inj hF
 refine Az.intro 8 func43 rfl ntmps43 (Nat.le_of_ble_eq_true rfl) ?_
 intro c a w hG hn h
 change Ar c [.slot 0 (An (dC 32) a_0)] a w at h
 refine wp_seq ?_
 refine CL (n := 8) [.slot 2 100000 100000 (fun _ _ => (Am (.slice none 0 0)))] [0] [⟨[], [], [1], [], some 2⟩] [0] mixed hn hG h (by kernel_rfl) ?_ ?_
 ·exact ⟨⟨rfl, fun β => (AV.plain (Ad (DZ (ec _))) rfl)⟩, trivial⟩
 clear h
 intro β a w h
 change Ar c [.slot 0 (An (dC 32) a_0)] a w at h
 clear β
 show Code.wp prog _ _ a w
 refine wp_seq ?_
 refine wp_seq ?_
 refine CL (n := 8) [.slot 3 100000 100000 (fun _ _ => (An (dC 32) a_0)), .slot 4 100000 100000 (fun _ _ => (Gf a_0))] [0, 1] [⟨[0], [], [1], [], some 3⟩, ⟨[1], [], [2], [0], some 4⟩] [0, 2] mixed hn hG h (by kernel_rfl) ?_ ?_
 ·exact ⟨⟨rfl, fun β => (AV.plain (Aa (opt 0 rfl)) rfl)⟩, ⟨rfl, fun β => (AV.plain (Ak (Hc underlying27) (opt 0 rfl) (DZ (ec _))) rfl)⟩, trivial⟩
 clear h
 intro β a w h
 change Ar c [.slot 0 (An (dC 32) a_0), .slot 4 (Gf a_0)] a w at h
 clear β
 show Code.wp prog _ _ a w
 obtain ⟨b0, hb0, h⟩ := h.OT 1 rfl
 change Ar c [.slot 0 (An (dC 32) a_0), .slot 4 (AE b0)] a w at h
 refine D6 h 1 rfl (fun hb => ?_) (fun hb => ?_)
 ·obtain rfl := hb0 hb
  replace h := h.sub [] (by rfl)
  change Ar c [] a w at h
  refine wp_seq ?_
  refine CL (n := 8) [.slot 2 100000 100000 (fun _ _ => (Am (.slice none 0 0)))] [0] [⟨[], [], [0], [], some 2⟩] [0] mixed hn hG h (by kernel_rfl) ?_ ?_
  ·exact ⟨⟨rfl, fun β => (AV.plain (Ad (DZ (ec _))) rfl)⟩, trivial⟩
  clear h
  intro β a w h
  change Ar c [.slot 2 (Am (.slice none 0 0))] a w at h
  clear β
  show Code.wp prog _ _ a w
  refine wp_ret ?_
  exact ⟨.inl rfl, BG h results43 (Jm 0 rfl) [] [] rfl rfl rfl⟩
 ·replace h := h.sub [0] (by rfl)
  change Ar c [.slot 0 (An (dC 32) a_0)] a w at h
  refine wp_skip ?_
  show Code.wp prog _ _ a w
  refine wp_seq ?_
  refine CL (n := 8) [.slot 5 100000 100000 (fun _ _ => Mu), .slot 6 100000 100000 (fun _ _ => (An (dC 32) a_0)), .slot 7 100000 100000 (fun _ _ => (An (dC 32) a_0)), .slot 2 100000 100000 (fun _ _ => (An (dC 32) a_0))] [0, 1, 2, 3] [⟨[], [], [1], [], some 5⟩, ⟨[0], [], [2], [0], some 6⟩, ⟨[1, 2], [], [3], [0, 1], some 7⟩, ⟨[3], [], [4], [0, 1, 2], some 2⟩] [4] mixed hn hG h (by kernel_rfl) ?_ ?_
  ·exact ⟨⟨rfl, fun β => (AV.plain (Mj underlying27 sizeOf33 zeroValue33) rfl)⟩, ⟨rfl, fun β => (AV.plain (Aa (opt 0 rfl)) rfl)⟩, ⟨rfl, fun β => (AV.plain (Hl (i := t33) underlying27 type33 rfl (Bk 32) (by decide) rfl (opt 0 rfl) (opt 1 rfl) hv1) rfl)⟩, ⟨rfl, fun β => (AV.plain (Ad (opt 0 rfl)) rfl)⟩, trivial⟩
  clear h
  intro β a w h
  change Ar c [.slot 2 (An (dC 32) a_0)] a w at h
  clear β
  show Code.wp prog _ _ a w
  refine wp_ret ?_
  exact ⟨.inl rfl, BG h results43 (Bc 0 rfl) [] [] rfl rfl rfl⟩
theorem IZ {a_0 r : List (List UInt8)} (hF : Ca a_0 = some r) : Az prog KG 43 [(An (dC 32) a_0)] [] (fun v => [own v 33 32 (dC 32) r]) Mz := by
 unfold Ca at hF
 obtain ⟨hv1, hF⟩ := Ay hF
 obtain rfl := Option.some.inj hF
 refine Az.intro 8 func43 rfl ntmps43 (Nat.le_of_ble_eq_true rfl) ?_
 intro c a w hG hn h
 change Ar c [.slot 0 (An (dC 32) a_0)] a w at h
 have hm : a_0.length ≤ CG := h.Pk 0 rfl (fun _ _ q => q.1)
 refine wp_seq ?_
 refine CL (n := 8) [.slot 2 100000 100000 (fun _ _ => (Am (.slice none 0 0)))] [0] [⟨[], [], [1], [], some 2⟩] [0] mixed hn hG h (by kernel_rfl) ?_ ?_
 ·exact ⟨⟨rfl, fun β => (AV.plain (Ad (DZ (ec _))) rfl)⟩, trivial⟩
 clear h
 intro β a w h
 change Ar c [.slot 0 (An (dC 32) a_0)] a w at h
 clear β
 show Code.wp prog _ _ a w
 refine wp_seq ?_
 refine wp_seq ?_
 refine CL (n := 8) [.slot 3 100000 100000 (fun _ _ => (An (dC 32) a_0)), .slot 4 100000 100000 (fun _ _ => (Gf a_0))] [0, 1] [⟨[0], [], [1], [], some 3⟩, ⟨[1], [], [2], [0], some 4⟩] [0, 2] mixed hn hG h (by kernel_rfl) ?_ ?_
 ·exact ⟨⟨rfl, fun β => (AV.plain (Aa (opt 0 rfl)) rfl)⟩, ⟨rfl, fun β => (AV.plain (Ak (Hc underlying27) (opt 0 rfl) (DZ (ec _))) rfl)⟩, trivial⟩
 clear h
 intro β a w h
 change Ar c [.slot 0 (An (dC 32) a_0), .slot 4 (Gf a_0)] a w at h
 clear β
 show Code.wp prog _ _ a w
 obtain ⟨b0, hb0, h⟩ := h.OT 1 rfl
 change Ar c [.slot 0 (An (dC 32) a_0), .slot 4 (AE b0)] a w at h
 refine D6 h 1 rfl (fun hb => ?_) (fun hb => ?_)
 ·obtain rfl := hb0 hb
  replace h := h.sub [] (by rfl)
  change Ar c [] a w at h
  refine wp_seq ?_
  refine CL (n := 8) [.slot 2 100000 100000 (fun _ _ => (Am (.slice none 0 0)))] [0] [⟨[], [], [0], [], some 2⟩] [0] mixed hn hG h (by kernel_rfl) ?_ ?_
  ·exact ⟨⟨rfl, fun β => (AV.plain (Ad (DZ (ec _))) rfl)⟩, trivial⟩
  clear h
  intro β a w h
  change Ar c [.slot 2 (Am (.slice none 0 0))] a w at h
  clear β
  replace h := h.NR 33 32 (dC 32)
  show Code.wp prog _ _ a w
  refine wp_ret ?_
  exact ⟨.inl rfl, K4 (p := .slice none 0 0) h results43 (Bc 0 rfl) [1] _ rfl rfl rfl⟩
 ·replace h := h.sub [0] (by rfl)
  change Ar c [.slot 0 (An (dC 32) a_0)] a w at h
  refine wp_skip ?_
  show Code.wp prog _ _ a w
  refine wp_seq ?_
  refine CL (n := 8) [.slot 5 0 100000 (fun v _ => (Am v)), .res 0 100000 (fun v _ => (own v 33 32 (dC 32) ([] : List (List UInt8)))), .slot 6 100000 100000 (fun _ _ => (An (dC 32) a_0)), .slot 7 2 100000 (fun v _ => (Am v)), .res 2 100000 (fun v _ => (own v 33 32 (dC 32) (([] : List (List UInt8)) ++ a_0))), .slot 2 2 100000 (fun v _ => (Am v))] [0, 0, 1, 2, 2, 3] [⟨[], [], [1, 2], [], some 5⟩, ⟨[0], [], [3], [0], some 6⟩, ⟨[1, 3], [2], [4, 5], [0, 1], some 7⟩, ⟨[4], [], [6], [0, 1, 2], some 2⟩] [6, 5] mixed hn hG h (by kernel_rfl) ?_ ?_
  ·exact ⟨⟨rfl, fun β => (AV.plain (K9 underlying27 sizeOf33 zeroValue33) rfl)⟩, ⟨rfl, fun β => (AV.plain (Aa (opt 0 rfl)) rfl)⟩, ⟨rfl, fun β => (AV.plain (GB (i := t33) underlying27 type33 rfl (Bk 32) (by decide) rfl (opt 0 rfl) (opt 1 rfl) ⟨by simpa using hm, by rw [List.length_nil, Nat.zero_add]; exact hv1⟩) rfl)⟩, ⟨rfl, fun β => (AV.plain (Ad (V := Am (β 2)) (opt 0 rfl)) rfl)⟩, trivial⟩
  clear h
  intro β a w h
  change Ar c [.slot 2 (Am (β 2)), .res (own (β 2) 33 32 (dC 32) a_0)] a w at h
  generalize β 2 = p at h
  clear β
  show Code.wp prog _ _ a w
  refine wp_ret ?_
  exact ⟨.inl rfl, K4 (p := p) h results43 (Bc 0 rfl) [1] _ rfl rfl rfl⟩

def A7.j2 (r5 : (List (List UInt8)) × (Option AP)) (x23 : Int) (x24 : List (List UInt8)) (x25 : Int) (x26 : Option AP) (x27 : List (List UInt8)) (x48 : List UInt8) : Option (CR ((List (List UInt8)) × Int × (Option AP)) (Int × (List (List UInt8)) × Int × (Option AP) × (List (List UInt8)))) := (if x27.length + [x48].length ≤ CG ∧ (x27.length + [x48].length) * 32 ≤ 140737488355328 then (if (0 : Int) ≤ x25 ∧ x25 < 33 then ((BV x26 x24 (r5.1.getD x25.toNat default)).bind fun r52 => some (.cont (IntKind.wrap .i64 (x23.tdiv 2), r52.1, IntKind.wrap .i64 (x25 + 1), r52.2, x27 ++ [x48]))) else none) else none)
def A7.b1 (r5 : (List (List UInt8)) × (Option AP)) (x23 : Int) (x24 : List (List UInt8)) (x25 : Int) (x26 : Option AP) (x27 : List (List UInt8)) : Option (CR ((List (List UInt8)) × Int × (Option AP)) (Int × (List (List UInt8)) × Int × (Option AP) × (List (List UInt8)))) := (if (decide (x25 < (32 : Int))) = true then (if (0 : Int) ≤ x25 ∧ x25 < 33 then (if (decide ((bits .xor .i64 x23 1) < (x24.length : Int))) = true then (if (0 : Int) ≤ bits .xor .i64 x23 1 ∧ bits .xor .i64 x23 1 < x24.length then A7.j2 r5 x23 x24 x25 x26 x27 (x24.getD (bits .xor .i64 x23 1).toNat default) else none) else A7.j2 r5 x23 x24 x25 x26 x27 (r5.1.getD x25.toNat default)) else none) else some (.brk (x23, x24, x25, x26, x27)))
def A7.j1 (L_0 : Option AP) (a_1 : List (List UInt8)) (a_2 : Int) (x1 : Bool) : Option ((List (List UInt8)) × Int × (Option AP)) := (if x1 = true then some ([], 2, L_0) else (if (decide ((4096 : Int) < (a_1.length : Int))) = true then some ([], 6, L_0) else ((Ca a_1).bind fun r4 => ((BO L_0).bind fun r5 => ((Bf (fun s : Int × (List (List UInt8)) × Int × (Option AP) × (List (List UInt8)) => A7.b1 r5 s.1 s.2.1 s.2.2.1 s.2.2.2.1 s.2.2.2.2) ((32 - 0 : Int).toNat + 2) (a_2, r4, 0, r5.2, [])).bind fun cr => match cr with | .ret r => some r | .next (y59, y60, y61, y62, y63) => some (y63, 0, y62))))))
def A7 (L_0 : Option AP) (a_1 : List (List UInt8)) (a_2 : Int) : Option ((List (List UInt8)) × Int × (Option AP)) := (if (decide (a_2 < (0 : Int))) = true then A7.j1 L_0 a_1 a_2 true else A7.j1 L_0 a_1 a_2 (decide ((a_1.length : Int) ≤ a_2)))
theorem Ik {p_0 : Value} {L_0 : Option AP} {a_1 : List (List UInt8)} {a_2 : Int} {r : (List (List UInt8)) × Int × (Option AP)} (hF : A7 L_0 a_1 a_2 = some r) : Az prog KG 22 [(Am p_0), (An (dC 32) a_1), (Ab .i64 a_2)] [(AO p_0 L_0)] (fun _ => [AO p_0 r.2.2]) (CV [(An (dC 32) r.1), (Ab .i64 r.2.1)]) := by
 refine Az.intro 61 func22 rfl ntmps22 (Nat.le_of_ble_eq_true rfl) ?_
 intro c a w hG hn h
 unfold A7 at hF
 change Ar c [.slot 0 (Am p_0), .slot 1 (An (dC 32) a_1), .slot 2 (Ab .i64 a_2), .res (AO p_0 L_0)] a w at h
 refine Ao mixed hn hG h [0, 1, 2, 3] (ov [] (Ad (DZ (ec _))) <| ov [] (Ad qi) .nil) fun _ a w h => ?_
 refine wp_seq ?_
 refine wp_block ?_
 refine wp_seq ?_
 refine wp_cut (fun a w => ∃ (x1 : Bool), A7.j1 L_0 a_1 a_2 x1 = some r ∧ Ar c [.slot 0 (Am p_0), .slot 1 (An (dC 32) a_1), .slot 2 (Ab .i64 a_2), .slot 14 (AE x1), .res (AO p_0 L_0)] a w) ?_ ?_
 ·rcases Bool.eq_false_or_eq_true (decide (a_2 < (0 : Int))) with hb64 | hb64
  ·replace hF := EM hb64 hF
   refine CY mixed hn hG h [0, 1, 2, 500, 3] (ov [2] (Aa q0) <| ov [500] (Ak Bl q0 qi) <| ov [500] (Aa q0) <| oe [500] [] (AV.AZ (want := false) hb64 rfl rfl rfl rfl) <| oe [501] [] (AV.AZ (want := false) hb64 rfl rfl rfl rfl) <| oe [502] [] (AV.AZ (want := false) hb64 rfl rfl rfl rfl) <| oe [503] [] (AV.AZ (want := false) hb64 rfl rfl rfl rfl) <| ov [504] (Bu hb64 q0 qb) <| ov [500] (Ad q0) .nil) fun _ a w h => ?_
   exact ⟨true, hF, h.sub [0, 1, 2, 3, 4] (by rfl)⟩
  ·replace hF := EO hb64 hF
   refine CY mixed hn hG h [0, 1, 2, 500, 3] (ov [2] (Aa q0) <| ov [500] (Ak Bl q0 qi) <| ov [500] (Aa q0) <| oe [500, 2] [] (AV.AT hb64 rfl rfl rfl (Aa q0)) <| oe [501, 1] [] (AV.AT hb64 rfl rfl rfl (Aa q0)) <| oe [502, 500] [] (AV.AT hb64 rfl rfl rfl (A4 underlying27 q0)) <| oe [503, 502, 500] [] (AV.AT hb64 rfl rfl rfl (Ak DJ q0 q1)) <| ov [504, 500] (Bq hb64 q0 q1) <| ov [500] (Ad q0) .nil) fun _ a w h => ?_
   exact ⟨decide ((a_1.length : Int) ≤ a_2), hF, h.sub [0, 1, 2, 3, 4] (by rfl)⟩
 ·clear h hF
  rintro a w ⟨x1, hF, h⟩
  unfold A7.j1 at hF
  show Code.wp prog _ _ a w
  refine DL h hF 3 [4] [0, 1, 2, 4] (fun hb2 hF h => ?_) (fun hb2 hF h => ?_)
  ·refine Ao mixed hn hG h [501, 500, 0] (ov [] (Ad (DZ (ec _))) <| ov [] (Ad qi) .nil) fun _ a w h => ?_
   refine wp_ret ?_
   obtain rfl := Option.some.inj hF
   exact ⟨.inl rfl, Es h (rs := [.tmp 6, .tmp 7]) (Vs := [(An (dC 32) []), (Ab .i64 2)]) results22 (by decide) ⟨(Jm 0 rfl), (Bc 1 rfl), trivial⟩ [2] [(AO p_0 L_0)] rfl rfl rfl⟩
  ·refine Ao mixed hn hG h [0, 1, 2, 500, 3] (ov [1] (Aa q0) <| ov [500] (A4 underlying27 q0) <| ov [500] (Ak Gd q0 qi) <| ov [500] (Ad q0) .nil) fun _ a w h => ?_
   refine DL h hF 3 [4] [0, 1, 2, 4] (fun hb3 hF h => ?_) (fun hb3 hF h => ?_)
   ·refine Ao mixed hn hG h [501, 500, 0] (ov [] (Ad (DZ (ec _))) <| ov [] (Ad qi) .nil) fun _ a w h => ?_
    refine wp_ret ?_
    obtain rfl := Option.some.inj hF
    exact ⟨.inl rfl, Es h (rs := [.tmp 6, .tmp 7]) (Vs := [(An (dC 32) []), (Ab .i64 6)]) results22 (by decide) ⟨(Jm 0 rfl), (Bc 1 rfl), trivial⟩ [2] [(AO p_0 L_0)] rfl rfl rfl⟩
   ·refine wp_skip ?_
    show Code.wp prog _ _ a w
    obtain ⟨r4, hr4, hF⟩ := bind_some hF
    refine Ao mixed hn hG h [0, 2, 500, 3] (ov [1] (Aa q0) <| oc [500] [] call43 (FQ hr4) ⟨q0, trivial⟩ <| ov [500] (Ad q0) .nil) fun _ a w h => ?_
    obtain ⟨r5, hr5, hF⟩ := bind_some hF
    refine Ao mixed hn hG h [0, 1, 2, 502, 503, 500] (ov [0] (Aa q0) <| oc [500] [3] call45 (Gb hr5) ⟨q0, trivial⟩ <| ob [] (AJ zeroValue113 Oy) <| og [501, 503] [500] [.res 2 100000 (fun v1_ _ => (lb (v1_) 113 [Ee 33 32 (dC 32) (Bk 32) r5.1]))] (AV.plain (Aq sizeOf113 q0 q1 (Al _)) rfl) .nil) fun b6 a w h => ?_
    refine Ao mixed hn hG h [0, 1, 2, 3, 500, 4, 5] (ov [] (Ad (DZ (ec _))) .nil) fun _ a w h => ?_
    refine wp_seq ?_
    refine Ao mixed hn hG h [0, 1, 2, 3, 4, 500, 5, 6] (ov [] (Aa qi) .nil) fun _ a w h => ?_
    refine wp_block ?_
    obtain ⟨q15, h⟩ : ∃ q15 : Value, Ar c [.slot 0 (Am p_0), .slot 2 (Ab .i64 a_2), .slot 8 (An (dC 32) r4), .slot 9 (Au (b6 2) 0), .slot 10 (Am q15), .slot 31 (Ab .i64 0), .res (AO p_0 r5.2), .res (lb (b6 2) 113 [Ee 33 32 (dC 32) (Bk 32) r5.1]), .res (acc q15 33 32 (dC 32) [])] a w := ⟨.slice none 0 0, (h.Ij 33 32 (dC 32)).sub [0, 1, 2, 3, 4, 5, 6, 7, 8] (by rfl)⟩
    obtain ⟨cr55, hl56, hF⟩ := bind_some hF
    refine wp_mono (Bw (R := (List (List UInt8)) × Int × (Option AP)) (S := Int × (List (List UInt8)) × Int × (Option AP) × (List (List UInt8))) (fun s a w => ∃ q28 : Value, Ar c [.slot 0 (Am p_0), .slot 2 (Ab .i64 s.1), .slot 8 (An (dC 32) s.2.1), .slot 9 (Au (b6 2) 0), .slot 10 (Am q28), .slot 31 (Ab .i64 s.2.2.1), .res (AO p_0 s.2.2.2.1), .res (lb (b6 2) 113 [Ee 33 32 (dC 32) (Bk 32) r5.1]), .res (acc q28 33 32 (dC 32) s.2.2.2.2)] a w) (fun res e a w => match res with | .next s => e = .exit 1 ∧ ∃ q28 : Value, Ar c [.slot 10 (Am q28), .res (AO p_0 s.2.2.2.1), .res (acc q28 33 32 (dC 32) s.2.2.2.2)] a w | .ret r => e = .ret ∧ CO prog f22 c (CV [(An (dC 32) r.1), (Ab .i64 r.2.1)]) (fun _ => [AO p_0 r.2.2]) a w) ?_ _ (a_2, r4, 0, r5.2, []) _ _ _ ⟨q15, (h.sub [0, 1, 2, 3, 4, 5, 6, 7, 8] (by rfl))⟩ hl56) ?_
    ·clear hl56 hF h
     intro s a w o h hF
     obtain ⟨x23, x24, x25, x26, x27⟩ := s
     obtain ⟨q28, h⟩ := h
     change A7.b1 r5 x23 x24 x25 x26 x27 = some o at hF
     unfold A7.b1 at hF
     change Ar c [.slot 0 (Am p_0), .slot 2 (Ab .i64 x23), .slot 8 (An (dC 32) x24), .slot 9 (Au (b6 2) 0), .slot 10 (Am q28), .slot 31 (Ab .i64 x25), .res (AO p_0 x26), .res (lb (b6 2) 113 [Ee 33 32 (dC 32) (Bk 32) r5.1]), .res (acc q28 33 32 (dC 32) x27)] a w at h
     refine Ao mixed hn hG h [0, 1, 2, 3, 4, 5, 500, 6, 7, 8] (ov [5] (Ak Bl q0 qi) .nil) fun _ a w h => ?_
     refine wp_seq ?_
     refine DL h hF 6 [0, 1, 2, 3, 4, 5, 7, 8, 9] [0, 1, 2, 3, 4, 5, 7, 8, 9] (fun hb44 hF h => ?_) (fun hb44 hF h => ?_)
     ·refine wp_skip ?_
      show Code.wp prog _ _ a w
      refine wp_seq ?_
      refine wp_block ?_
      refine Ao mixed hn hG h [0, 1, 2, 3, 4, 500, 5, 6, 7, 8] (ov [5] (Aa q0) <| ov [500] (Ad q0) .nil) fun _ a w h => ?_
      obtain ⟨hv45, hF⟩ := Ay hF
      refine Ao mixed hn hG h [0, 1, 2, 3, 4, 5, 502, 6, 7, 8, 9, 500] (ov [5] (Aa q0) <| ov [3, 500] (Aw underlying113 sizeOf33 q0 q1 hv45) <| ov [500, 8] (EU (i := x25) [] [] 1 isAgg33 sizeOf33 q0 rfl rfl hv45) <| ob [] (AJ zeroValue33 GN) <| og [501, 502] [500] [.res 3 100000 (fun v1_ _ => (lb (v1_) 33 [Af 32 (r5.1.getD x25.toNat default)]))] (AV.plain (Aq sizeOf33 q0 q1 (Al _)) rfl) .nil) fun b46 a w h => ?_
      refine wp_seq ?_
      refine Ao mixed hn hG h [0, 1, 2, 3, 4, 5, 6, 500, 7, 8, 9, 10, 11] (ov [1] (Aa q0) <| ov [500] (Ak CQ q0 qi) <| ov [500] (Ad q0) .nil) fun _ a w h => ?_
      refine Ao mixed hn hG h [0, 1, 2, 3, 4, 5, 6, 7, 8, 500, 9, 10, 11, 12] (ov [7] (Aa q0) <| ov [2] (Aa q0) <| ov [500] (A4 underlying27 q0) <| ov [502, 500] (Ak Bl q0 q1) .nil) fun _ a w h => ?_
      refine wp_cut (fun a w => ∃ (x48 : List UInt8), A7.j2 r5 x23 x24 x25 x26 x27 x48 = some o ∧ Ar c [.slot 0 (Am p_0), .slot 2 (Ab .i64 x23), .slot 8 (An (dC 32) x24), .slot 9 (Au (b6 2) 0), .slot 10 (Am q28), .slot 11 (Ab .i64 x25), .slot 12 (Au (b46 3) 0), .slot 31 (Ab .i64 x25), .res (AO p_0 x26), .res (lb (b6 2) 113 [Ee 33 32 (dC 32) (Bk 32) r5.1]), .res (acc q28 33 32 (dC 32) x27), .res (lb (b46 3) 33 [Af 32 x48])] a w) ?_ ?_
      ·refine DL h hF 9 [0, 1, 2, 3, 4, 5, 6, 7, 8, 10, 11, 12, 13] [0, 1, 2, 3, 4, 5, 6, 8, 10, 11, 12, 13] (fun hb53 hF h => ?_) (fun hb53 hF h => ?_)
       ·obtain ⟨hv54, hF⟩ := Ay hF
        refine CY mixed hn hG h [0, 1, 2, 3, 4, 5, 6, 8, 9, 10, 11, 500] (ov [2] (Aa q0) <| ov [7] (Aa q0) <| ov [501, 500] (AL underlying27 sizeOf33 (Bk 32) q0 q1 hv54) <| ov [500] (BM [Af 32 (x24.getD (bits .xor .i64 x23 1).toNat default)] [] isAgg33 sizeOf33 q0 rfl) <| ou [6, 500] 12 (Aq sizeOf33 q0 q1 (Al _)) .nil) fun _ a w h => ?_
        exact ⟨x24.getD (bits .xor .i64 x23 1).toNat default, hF, h.sub [0, 1, 2, 3, 4, 5, 6, 7, 8, 9, 10, 11] (by rfl)⟩
       ·refine wp_skip ?_
        exact ⟨r5.1.getD x25.toNat default, hF, h.sub [0, 1, 2, 3, 4, 5, 6, 7, 8, 9, 10, 11] (by rfl)⟩
      ·clear h hF
       rintro a w ⟨x48, hF, h⟩
       unfold A7.j2 at hF
       show Code.wp prog _ _ a w
       obtain ⟨hv49, hF⟩ := Ay hF
       refine Ao mixed hn hG h [0, 1, 2, 3, 500, 5, 7, 8, 9, 501] (ov [4] (Aa q0) <| ov [6, 11] (AA 1 isAgg33 sizeOf33 q0) <| ov [500] (Dn (xs := [.tmp 48]) (ys := [x48]) _ rfl underlying27 sizeOf33 zeroValue33 rfl rfl (by decide) (by decide) ⟨⟨_, q0, (Al _)⟩, trivial⟩ (Bk 32)) <| og [502, 500] [10] [.slot 50 3 100000 (fun v1_ _ => (Am v1_)), .res 3 100000 (fun v1_ _ => (acc (v1_) 33 32 (dC 32) (x27 ++ [x48])))] (AV.plain (DO (i := t33) underlying27 type33 rfl (Bk 32) (by decide) rfl q0 q1 hv49) rfl) <| og [501] [4] [.slot 10 3 100000 (fun v1_ _ => (Am v1_))] (fun {β} => (AV.drop _ (AV.plain (Ad (V := (Am (β 3))) q0) rfl))) .nil) fun b50 a w h => ?_
       obtain ⟨hv51, hF⟩ := Ay hF
       obtain ⟨r52, hr52, hF⟩ := bind_some hF
       refine CY mixed hn hG h [0, 500, 501, 3, 4, 6, 8, 9, 504] (ov [0] (Aa q0) <| ov [2] (Aa q0) <| ov [5] (Aa q0) <| ov [3, 500] (Aw underlying113 sizeOf33 q0 q1 hv51) <| ov [500, 8] (EU (i := x25) [] [] 1 isAgg33 sizeOf33 q0 rfl rfl hv51) <| oc [504, 503, 500] [7] call46 (HQ hr52) ⟨q0, q1, q2, trivial⟩ <| ov [1] (Aa q0) <| ov [500] (Ak (KQ (by decide)) q0 qi) <| od [503] 2 (Ad q0) <| od [501] 1 (Ad q0) .nil) fun _ a w h => ?_
       show Code.wp prog _ _ a w
       refine CY mixed hn hG h [0, 1, 2, 3, 4, 500, 6, 7, 8] (ov [5] (Ak AY q0 qi) <| od [500] 5 (Aa q0) .nil) fun _ a w h => ?_
       obtain rfl := Option.some.inj hF
       exact ⟨rfl, (b50 3), h.sub [0, 1, 2, 3, 4, 5, 8, 6, 7] (by rfl)⟩
     ·refine wp_exit ?_
      obtain rfl := Option.some.inj hF
      exact ⟨BQ _, rfl, q28, h.sub [4, 6, 8] (by rfl)⟩
    ·clear hl56
     intro e a w hq
     cases cr55 with
     | ret r57 =>
      obtain ⟨rfl, hq⟩ := hq
      obtain rfl := Option.some.inj hF
      exact ⟨.inl rfl, hq⟩
     | next s58 =>
      obtain ⟨y59, y60, y61, y62, y63⟩ := s58
      obtain ⟨rfl, q28, h⟩ := hq
      change Ar c [.slot 10 (Am q28), .res (AO p_0 y62), .res (acc q28 33 32 (dC 32) y63)] a w at h
      refine Be ?_
      show Code.wp prog _ _ a w
      refine Ao mixed hn hG h [501, 500, 1, 2] (ov [0] (Aa q0) <| ov [500] (Ad q0) <| ov [] (Ad qi) .nil) fun _ a w h => ?_
      refine wp_ret ?_
      obtain rfl := Option.some.inj hF
      exact ⟨.inl rfl, Es h (rs := [.tmp 6, .tmp 7]) (Vs := [(An (dC 32) y63), (Ab .i64 0)]) results22 (by decide) ⟨(NG 0 3 rfl rfl), (Bc 1 rfl), trivial⟩ [2] [(AO p_0 y62)] rfl rfl rfl⟩

def BC.b1 (a_1 : List (List UInt8)) (a_2 : Ae) (a_3 : Int) (a_4 : Int) (x10 : Int) (x11 : Option AP) : Option (CR (EJ × Bool × (Option AP)) (Int × (Option AP))) := (if (decide (x10 ≤ (a_1.length : Int))) = true then (if (0 : Int) ≤ 0 ∧ (0 : Int) ≤ x10 ∧ x10 ≤ a_1.length then ((Dj x11 ((a_1.take x10.toNat).drop (0 : Int).toNat)).bind fun r24 => ((CX a_2 r24.1 a_3).bind fun r25 => (if (!decide (r25 = (0 : Int))) = true then some (.cont (IntKind.wrap .i64 (x10 + 1), r24.2)) else (if (0 : Int) ≤ 0 ∧ (0 : Int) ≤ x10 ∧ x10 ≤ a_1.length then ((A7 r24.2 ((a_1.take x10.toNat).drop (0 : Int).toNat) a_4).bind fun r28 => (if (0 : Int) ≤ a_4 ∧ a_4 < a_1.length then some (.ret (EJ.c182 (Cd.mk (a_1.getD a_4.toNat default) (IntKind.wrap .u32 a_4) r28.1), decide (r28.2.1 = (0 : Int)), r28.2.2)) else none)) else none)))) else none) else some (.brk (x10, x11)))
def BC (L_0 : Option AP) (a_1 : List (List UInt8)) (a_2 : Ae) (a_3 : Int) (a_4 : Int) : Option (EJ × Bool × (Option AP)) := ((Bf (fun s : Int × (Option AP) => BC.b1 a_1 a_2 a_3 a_4 s.1 s.2) (((a_1.length : Int) - (IntKind.wrap .i64 (a_4 + 1)) : Int).toNat + 2) (IntKind.wrap .i64 (a_4 + 1), L_0)).bind fun cr => match cr with | .ret r => some r | .next (y34, y35) => some (EJ.nil, false, y35))
theorem Hv {p_0 : Value} {L_0 : Option AP} {a_1 : List (List UInt8)} {a_2 : Ae} {a_3 : Int} {a_4 : Int} {r : EJ × Bool × (Option AP)} (hF : BC L_0 a_1 a_2 a_3 a_4 = some r) : Az prog KG 77 [(Am p_0), (An (dC 32) a_1), (AG (Ae.ck a_2)), (Ab .u64 a_3), (Ab .i64 a_4)] [(AO p_0 L_0)] (fun _ => [AO p_0 r.2.2]) (CV [(Dw r.1), (AE r.2.1)]) := by
 refine Az.intro 52 func77 rfl ntmps77 (Nat.le_of_ble_eq_true rfl) ?_
 intro c a w hG hn h
 unfold BC at hF
 change Ar c [.slot 0 (Am p_0), .slot 1 (An (dC 32) a_1), .slot 2 (AG (Ae.ck a_2)), .slot 3 (Ab .u64 a_3), .slot 4 (Ab .i64 a_4), .res (AO p_0 L_0)] a w at h
 refine Ao mixed hn hG h [0, 1, 3, 4, 503, 5, 502] (ob [2] (BF q0 (Al _)) <| ov [] (Ad (DZ (ec _))) <| ov [] (Ad qb) .nil) fun b1 a w h => ?_
 refine wp_seq ?_
 refine Ao mixed hn hG h [0, 1, 2, 3, 4, 500, 5, 6] (ov [3] (Aa q0) <| ov [500] (Ak AY q0 qi) <| ov [500] (Ad q0) .nil) fun _ a w h => ?_
 refine wp_block ?_
 obtain ⟨cr30, hl31, hF⟩ := bind_some hF
 refine wp_mono (Bw (R := EJ × Bool × (Option AP)) (S := Int × (Option AP)) (fun s a w => Ar c [.slot 0 (Am p_0), .slot 1 (An (dC 32) a_1), .slot 3 (Ab .u64 a_3), .slot 4 (Ab .i64 a_4), .slot 7 (Au (b1 0) 0), .slot 12 (Ab .i64 s.1), .res (AO p_0 s.2), .res (lb (b1 0) 41 (Ae.ck a_2))] a w) (fun res e a w => match res with | .next s => e = .exit 0 ∧ Ar c [.res (AO p_0 s.2)] a w | .ret r => e = .ret ∧ CO prog f77 c (CV [(Dw r.1), (AE r.2.1)]) (fun _ => [AO p_0 r.2.2]) a w) ?_ _ (IntKind.wrap .i64 (a_4 + 1), L_0) _ _ _ (h.sub [0, 1, 2, 3, 4, 5, 6, 7] (by rfl)) hl31) ?_
 ·clear hl31 hF h
  intro s a w o h hF
  obtain ⟨x10, x11⟩ := s
  change BC.b1 a_1 a_2 a_3 a_4 x10 x11 = some o at hF
  unfold BC.b1 at hF
  change Ar c [.slot 0 (Am p_0), .slot 1 (An (dC 32) a_1), .slot 3 (Ab .u64 a_3), .slot 4 (Ab .i64 a_4), .slot 7 (Au (b1 0) 0), .slot 12 (Ab .i64 x10), .res (AO p_0 x11), .res (lb (b1 0) 41 (Ae.ck a_2))] a w at h
  refine wp_seq ?_
  refine Ao mixed hn hG h [0, 1, 2, 3, 4, 5, 500, 6, 7] (ov [5] (Aa q0) <| ov [1] (Aa q0) <| ov [500] (A4 underlying27 q0) <| ov [502, 500] (Ak O7 q0 q1) .nil) fun _ a w h => ?_
  refine DL h hF 6 [0, 1, 2, 3, 4, 5, 7, 8] [0, 1, 2, 3, 4, 5, 7, 8] (fun hb22 hF h => ?_) (fun hb22 hF h => ?_)
  ·refine wp_skip ?_
   show Code.wp prog _ _ a w
   refine wp_seq ?_
   refine wp_block ?_
   refine wp_seq ?_
   obtain ⟨hv23, hF⟩ := Ay hF
   obtain ⟨r24, hr24, hF⟩ := bind_some hF
   obtain ⟨r25, hr25, hF⟩ := bind_some hF
   refine Ao mixed hn hG h [0, 1, 2, 3, 4, 5, 500, 7, 503] (ov [4, 7] (AA 1 isAgg41 sizeOf41 q0) <| ov [0] (Aa q0) <| ov [1] (Aa q0) <| ov [5] (Aa q0) <| ov [501, 500] (Ea (a := 0) (b := x10) underlying27 sizeOf33 (Bk 32) q0 rfl ⟨_, q1⟩ hv23) <| oc [503, 500] [6] call18 (KC hr24) ⟨q0, q1, trivial⟩ <| ov [2] (Aa q0) <| oc [507, 502, 500] [] call58 (Eu hr25) ⟨q0, q1, q2, trivial⟩ <| ov [500] (Ak C2 q0 qi) .nil) fun _ a w h => ?_
   refine DL h hF 6 [0, 1, 2, 3, 4, 5, 7, 8] [0, 1, 3, 5, 8] (fun hb26 hF h => ?_) (fun hb26 hF h => ?_)
   ·refine wp_exit ?_
    show Code.wp prog _ _ a w
    refine CY mixed hn hG h [0, 1, 2, 3, 4, 500, 6, 7] (ov [5] (Aa q0) <| ov [500] (Ak AY q0 qi) <| od [500] 5 (Ad q0) .nil) fun _ a w h => ?_
    obtain rfl := Option.some.inj hF
    exact ⟨rfl, h.sub [0, 1, 2, 3, 4, 5, 7, 6] (by rfl)⟩
   ·refine wp_skip ?_
    show Code.wp prog _ _ a w
    obtain ⟨hv27, hF⟩ := Ay hF
    obtain ⟨r28, hr28, hF⟩ := bind_some hF
    refine Ao mixed hn hG h [1, 2, 501, 500, 505] (ov [0] (Aa q0) <| ov [1] (Aa q0) <| ov [3] (Aa q0) <| ov [501, 500] (Ea (a := 0) (b := x10) underlying27 sizeOf33 (Bk 32) q0 rfl ⟨_, q1⟩ hv27) <| ov [2] (Aa q0) <| oc [504, 501, 500] [4] call22 (Ik hr28) ⟨q0, q1, q2, trivial⟩ <| ov [501] (Aa q0) <| ov [500] (AQ q0 rfl) <| ov [501] (AQ q0 rfl) <| ov [501] (Ad q0) <| ov [501] (Ad q0) .nil) fun _ a w h => ?_
    obtain ⟨hv29, hF⟩ := Ay hF
    refine Ao mixed hn hG h [501, 500, 4] (ov [0] (Aa q0) <| ov [1] (Aa q0) <| ov [501, 500] (AL underlying27 sizeOf33 (Bk 32) q0 q1 hv29) <| ov [500] (BM [Af 32 (a_1.getD a_4.toNat default)] [] isAgg33 sizeOf33 q0 rfl) <| ov [1] (Aa q0) <| ov [500] (AW underlying3 underlying29 q0) <| ov [2] (Aa q0) <| ov [503, 501, 500] (Dc [(0, .tmp 44), (1, .tmp 46), (2, .tmp 47)] rfl Q7 z182 ⟨[], [Af 32 (List.replicate 32 0)], [one (Ab .u32 (0 : Int)), one (An (dC 32) [])], [Af 32 (a_1.getD a_4.toNat default)], _, rfl, rfl, rfl, q0, (Al _), ⟨[Af 32 (a_1.getD a_4.toNat default)], [one (Ab .u32 (0 : Int))], [one (An (dC 32) [])], [one (Ab .u32 (IntKind.wrap .u32 a_4))], _, rfl, rfl, rfl, q1, (Ap (AK _ _)), ⟨[Af 32 (a_1.getD a_4.toNat default), one (Ab .u32 (IntKind.wrap .u32 a_4))], [one (An (dC 32) [])], [], [one (An (dC 32) r28.1)], _, rfl, rfl, rfl, q2, (Ap (Ku _ _)), rfl⟩⟩⟩) <| ov [500] (M8 (x := (Cd.mk (a_1.getD a_4.toNat default) (IntKind.wrap .u32 a_4) r28.1)) q0) <| ov [3] (Aa q0) <| ov [500] (Ak C3 q0 qi) <| ov [502] (Ad q0) <| ov [501] (Ad q0) .nil) fun _ a w h => ?_
    refine wp_ret ?_
    obtain rfl := Option.some.inj hF
    exact ⟨E2, rfl, Es h (rs := [.tmp 10, .tmp 11]) (Vs := [(Dw (EJ.c182 (Cd.mk (a_1.getD a_4.toNat default) (IntKind.wrap .u32 a_4) r28.1))), (AE (decide (r28.2.1 = (0 : Int))))]) results77 (by decide) ⟨(Bc 0 rfl), (Bc 1 rfl), trivial⟩ [2] [(AO p_0 r28.2.2)] rfl rfl rfl⟩
  ·refine wp_exit ?_
   obtain rfl := Option.some.inj hF
   exact ⟨BQ _, rfl, h.sub [6] (by rfl)⟩
 ·clear hl31
  intro e a w hq
  cases cr30 with
  | ret r32 =>
   obtain ⟨rfl, hq⟩ := hq
   obtain rfl := Option.some.inj hF
   exact ⟨.inl rfl, hq⟩
  | next s33 =>
   obtain ⟨y34, y35⟩ := s33
   obtain ⟨rfl, h⟩ := hq
   change Ar c [.res (AO p_0 y35)] a w at h
   refine Be ?_
   show Code.wp prog _ _ a w
   refine Ao mixed hn hG h [501, 500, 0] (ov [] (Ad (DZ (ec _))) <| ov [] (Ad qb) .nil) fun _ a w h => ?_
   refine wp_ret ?_
   obtain rfl := Option.some.inj hF
   exact ⟨.inl rfl, Es h (rs := [.tmp 10, .tmp 11]) (Vs := [(Dw EJ.nil), (AE false)]) results77 (by decide) ⟨(Bc 0 rfl), (Bc 1 rfl), trivial⟩ [2] [(AO p_0 y35)] rfl rfl rfl⟩

def AU.j3 (a_1 : List (Ai)) (a_5 : Int) (r14 : (List UInt8) × (Option AP)) (x16 : Bool) : Option (EJ × Bool × (Option AP)) := (if x16 = true then some (EJ.nil, false, r14.2) else (if (0 : Int) ≤ a_5 ∧ a_5 < a_1.length then some (EJ.c148 (BK.mk (a_1.getD a_5.toNat default)), true, r14.2) else none))
def AU.j2 (L_0 : Option AP) (a_1 : List (Ai)) (a_2 : List (List UInt8)) (a_3 : Ae) (a_4 : Int) (a_5 : Int) (x11 : Bool) : Option (EJ × Bool × (Option AP)) := (if x11 = true then (if (0 : Int) ≤ a_5 ∧ a_5 < a_1.length then ((EV L_0 (a_1.getD a_5.toNat default)).bind fun r14 => (if (0 : Int) ≤ a_5 ∧ a_5 < ((a_2.take (if (64 : Int) < (a_2.length : Int) then (64 : Int) else (a_2.length : Int)).toNat).drop (0 : Int).toNat).length then (if (!decide (r14.1 = (((a_2.take (if (64 : Int) < (a_2.length : Int) then (64 : Int) else (a_2.length : Int)).toNat).drop (0 : Int).toNat).getD a_5.toNat default))) = true then AU.j3 a_1 a_5 r14 true else AU.j3 a_1 a_5 r14 (!decide (((a_1.getD a_5.toNat default).CK) = a_3.BZ))) else none)) else none) else ((BC L_0 ((a_2.take (if (64 : Int) < (a_2.length : Int) then (64 : Int) else (a_2.length : Int)).toNat).drop (0 : Int).toNat) a_3 a_4 a_5).bind fun r20 => some (r20.1, r20.2.1, r20.2.2)))
def AU.j1 (L_0 : Option AP) (a_1 : List (Ai)) (a_2 : List (List UInt8)) (a_3 : Ae) (a_4 : Int) (a_5 : Int) (x4 : Bool) : Option (EJ × Bool × (Option AP)) := (if x4 = true then some (EJ.nil, false, L_0) else (if (0 : Int) ≤ a_5 ∧ a_5 < ((a_2.take (if (64 : Int) < (a_2.length : Int) then (64 : Int) else (a_2.length : Int)).toNat).drop (0 : Int).toNat).length then ((Dg a_3 (((a_2.take (if (64 : Int) < (a_2.length : Int) then (64 : Int) else (a_2.length : Int)).toNat).drop (0 : Int).toNat).getD a_5.toNat default)).bind fun r7 => (if (decide (r7.1 = (2 : Int))) = true then some (EJ.nil, false, L_0) else (if (decide (r7.1 = (1 : Int))) = true then ((CX a_3 r7.2 a_4).bind fun r10 => AU.j2 L_0 a_1 a_2 a_3 a_4 a_5 (decide (r10 = (0 : Int)))) else AU.j2 L_0 a_1 a_2 a_3 a_4 a_5 false))) else none))
def AU (L_0 : Option AP) (a_1 : List (Ai)) (a_2 : List (List UInt8)) (a_3 : Ae) (a_4 : Int) (a_5 : Int) : Option (EJ × Bool × (Option AP)) := (if (0 : Int) ≤ 0 ∧ (0 : Int) ≤ (if (64 : Int) < (a_2.length : Int) then (64 : Int) else (a_2.length : Int)) ∧ (if (64 : Int) < (a_2.length : Int) then (64 : Int) else (a_2.length : Int)) ≤ a_2.length then (if (decide (a_5 < (0 : Int))) = true then AU.j1 L_0 a_1 a_2 a_3 a_4 a_5 true else (if (decide ((a_1.length : Int) ≤ a_5)) = true then AU.j1 L_0 a_1 a_2 a_3 a_4 a_5 true else (if (decide ((((a_2.take (if (64 : Int) < (a_2.length : Int) then (64 : Int) else (a_2.length : Int)).toNat).drop (0 : Int).toNat).length : Int) ≤ a_5)) = true then AU.j1 L_0 a_1 a_2 a_3 a_4 a_5 true else (if (0 : Int) ≤ a_5 ∧ a_5 < a_1.length then (if (!decide (((a_1.getD a_5.toNat default).Fk) = a_3.CA)) = true then AU.j1 L_0 a_1 a_2 a_3 a_4 a_5 true else (if a_3.BU = true then AU.j1 L_0 a_1 a_2 a_3 a_4 a_5 true else AU.j1 L_0 a_1 a_2 a_3 a_4 a_5 a_3.Ds)) else none)))) else none)
theorem Hw {p_0 : Value} {L_0 : Option AP} {a_1 : List (Ai)} {a_2 : List (List UInt8)} {a_3 : Ae} {a_4 : Int} {a_5 : Int} {r : EJ × Bool × (Option AP)} (hF : AU L_0 a_1 a_2 a_3 a_4 a_5 = some r) : Az prog KG 38 [(Am p_0), (An Ai.ck a_1), (An (dC 32) a_2), (AG (Ae.ck a_3)), (Ab .u64 a_4), (Ab .i64 a_5)] [(AO p_0 L_0)] (fun _ => [AO p_0 r.2.2]) (CV [(Dw r.1), (AE r.2.1)]) := by
 refine Az.intro 110 func38 rfl ntmps38 (Nat.le_of_ble_eq_true rfl) ?_
 intro c a w hG hn h
 unfold AU at hF
 change Ar c [.slot 0 (Am p_0), .slot 1 (An Ai.ck a_1), .slot 2 (An (dC 32) a_2), .slot 3 (AG (Ae.ck a_3)), .slot 4 (Ab .u64 a_4), .slot 5 (Ab .i64 a_5), .res (AO p_0 L_0)] a w at h
 refine Ao mixed hn hG h [0, 1, 2, 4, 5, 503, 6, 502] (ob [3] (BF q0 (Al _)) <| ov [] (Ad (DZ (ec _))) <| ov [] (Ad qb) .nil) fun b1 a w h => ?_
 obtain ⟨hv2, hF⟩ := Ay hF
 refine Ao mixed hn hG h [0, 1, 500, 3, 4, 5, 6, 7] (ov [2] (Aa q0) <| ov [2] (Aa q0) <| ov [500] (A4 underlying27 q0) <| ov [500] (Kt q0 qi) <| ov [503, 500] (Ea (a := 0) (b := (if (64 : Int) < (a_2.length : Int) then (64 : Int) else (a_2.length : Int))) underlying27 sizeOf33 (Bk 32) q0 rfl ⟨_, q1⟩ hv2) <| od [500] 2 (Ad q0) .nil) fun _ a w h => ?_
 refine wp_seq ?_
 refine wp_seq ?_
 refine wp_cut (fun a w => ∃ (x4 : Bool), AU.j1 L_0 a_1 a_2 a_3 a_4 a_5 x4 = some r ∧ Ar c [.slot 0 (Am p_0), .slot 1 (An Ai.ck a_1), .slot 2 (An (dC 32) ((a_2.take (if (64 : Int) < (a_2.length : Int) then (64 : Int) else (a_2.length : Int)).toNat).drop (0 : Int).toNat)), .slot 4 (Ab .u64 a_4), .slot 5 (Ab .i64 a_5), .slot 9 (Au (b1 0) 0), .slot 52 (AE x4), .res (AO p_0 L_0), .res (lb (b1 0) 41 (Ae.ck a_3))] a w) ?_ ?_
 ·rcases Bool.eq_false_or_eq_true (decide (a_5 < (0 : Int))) with hb22 | hb22
  ·replace hF := EM hb22 hF
   refine CY mixed hn hG h [0, 1, 2, 3, 4, 5, 500, 6, 7] (ov [4] (Aa q0) <| ov [500] (Ak Bl q0 qi) <| ov [500] (Aa q0) <| oe [500] [] (AV.AZ (want := false) hb22 rfl rfl rfl rfl) <| oe [501] [] (AV.AZ (want := false) hb22 rfl rfl rfl rfl) <| oe [502] [] (AV.AZ (want := false) hb22 rfl rfl rfl rfl) <| oe [503] [] (AV.AZ (want := false) hb22 rfl rfl rfl rfl) <| ov [504] (Bu hb22 q0 qb) <| ov [500] (Aa q0) <| oe [500] [] (AV.AZ (want := false) rfl rfl rfl rfl rfl) <| oe [501] [] (AV.AZ (want := false) rfl rfl rfl rfl rfl) <| oe [502] [] (AV.AZ (want := false) rfl rfl rfl rfl rfl) <| oe [503] [] (AV.AZ (want := false) rfl rfl rfl rfl rfl) <| ov [504] (Bu rfl q0 qb) <| ov [500] (Aa q0) <| oe [500] [] (AV.AZ (want := false) rfl rfl rfl rfl rfl) <| oe [501] [] (AV.AZ (want := false) rfl rfl rfl rfl rfl) <| oe [502] [] (AV.AZ (want := false) rfl rfl rfl rfl rfl) <| oe [503] [] (AV.AZ (want := false) rfl rfl rfl rfl rfl) <| oe [504] [] (AV.AZ (want := false) rfl rfl rfl rfl rfl) <| oe [505] [] (AV.AZ (want := false) rfl rfl rfl rfl rfl) <| oe [506] [] (AV.AZ (want := false) rfl rfl rfl rfl rfl) <| oe [507] [] (AV.AZ (want := false) rfl rfl rfl rfl rfl) <| ov [508] (Bu rfl q0 qb) <| ov [500] (Aa q0) <| oe [500] [] (AV.AZ (want := false) rfl rfl rfl rfl rfl) <| oe [501] [] (AV.AZ (want := false) rfl rfl rfl rfl rfl) <| ov [502] (Bu rfl q0 qb) <| ov [500] (Aa q0) <| oe [500] [] (AV.AZ (want := false) rfl rfl rfl rfl rfl) <| oe [501] [] (AV.AZ (want := false) rfl rfl rfl rfl rfl) <| ov [502] (Bu rfl q0 qb) .nil) fun _ a w h => ?_
   exact ⟨true, hF, h.sub [0, 1, 2, 3, 4, 5, 6, 7, 8] (by rfl)⟩
  ·replace hF := EO hb22 hF
   rcases Bool.eq_false_or_eq_true (decide ((a_1.length : Int) ≤ a_5)) with hb23 | hb23
   ·replace hF := EM hb23 hF
    refine CY mixed hn hG h [0, 1, 2, 3, 4, 5, 500, 6, 7] (ov [4] (Aa q0) <| ov [500] (Ak Bl q0 qi) <| ov [500] (Aa q0) <| oe [500, 4] [] (AV.AT hb22 rfl rfl rfl (Aa q0)) <| oe [501, 1] [] (AV.AT hb22 rfl rfl rfl (Aa q0)) <| oe [502, 500] [] (AV.AT hb22 rfl rfl rfl (A4 underlying26 q0)) <| oe [503, 502, 500] [] (AV.AT hb22 rfl rfl rfl (Ak DJ q0 q1)) <| ov [504, 500] (Bq hb22 q0 q1) <| ov [500] (Aa q0) <| oe [500] [] (AV.AZ (want := false) hb23 rfl rfl rfl rfl) <| oe [501] [] (AV.AZ (want := false) hb23 rfl rfl rfl rfl) <| oe [502] [] (AV.AZ (want := false) hb23 rfl rfl rfl rfl) <| oe [503] [] (AV.AZ (want := false) hb23 rfl rfl rfl rfl) <| ov [504] (Bu hb23 q0 qb) <| ov [500] (Aa q0) <| oe [500] [] (AV.AZ (want := false) rfl rfl rfl rfl rfl) <| oe [501] [] (AV.AZ (want := false) rfl rfl rfl rfl rfl) <| oe [502] [] (AV.AZ (want := false) rfl rfl rfl rfl rfl) <| oe [503] [] (AV.AZ (want := false) rfl rfl rfl rfl rfl) <| oe [504] [] (AV.AZ (want := false) rfl rfl rfl rfl rfl) <| oe [505] [] (AV.AZ (want := false) rfl rfl rfl rfl rfl) <| oe [506] [] (AV.AZ (want := false) rfl rfl rfl rfl rfl) <| oe [507] [] (AV.AZ (want := false) rfl rfl rfl rfl rfl) <| ov [508] (Bu rfl q0 qb) <| ov [500] (Aa q0) <| oe [500] [] (AV.AZ (want := false) rfl rfl rfl rfl rfl) <| oe [501] [] (AV.AZ (want := false) rfl rfl rfl rfl rfl) <| ov [502] (Bu rfl q0 qb) <| ov [500] (Aa q0) <| oe [500] [] (AV.AZ (want := false) rfl rfl rfl rfl rfl) <| oe [501] [] (AV.AZ (want := false) rfl rfl rfl rfl rfl) <| ov [502] (Bu rfl q0 qb) .nil) fun _ a w h => ?_
    exact ⟨true, hF, h.sub [0, 1, 2, 3, 4, 5, 6, 7, 8] (by rfl)⟩
   ·replace hF := EO hb23 hF
    rcases Bool.eq_false_or_eq_true (decide ((((a_2.take (if (64 : Int) < (a_2.length : Int) then (64 : Int) else (a_2.length : Int)).toNat).drop (0 : Int).toNat).length : Int) ≤ a_5)) with hb24 | hb24
    ·replace hF := EM hb24 hF
     refine CY mixed hn hG h [0, 1, 2, 3, 4, 5, 500, 6, 7] (ov [4] (Aa q0) <| ov [500] (Ak Bl q0 qi) <| ov [500] (Aa q0) <| oe [500, 4] [] (AV.AT hb22 rfl rfl rfl (Aa q0)) <| oe [501, 1] [] (AV.AT hb22 rfl rfl rfl (Aa q0)) <| oe [502, 500] [] (AV.AT hb22 rfl rfl rfl (A4 underlying26 q0)) <| oe [503, 502, 500] [] (AV.AT hb22 rfl rfl rfl (Ak DJ q0 q1)) <| ov [504, 500] (Bq hb22 q0 q1) <| ov [500] (Aa q0) <| oe [500, 4] [] (AV.AT hb23 rfl rfl rfl (Aa q0)) <| oe [501, 2] [] (AV.AT hb23 rfl rfl rfl (Aa q0)) <| oe [502, 500] [] (AV.AT hb23 rfl rfl rfl (A4 underlying27 q0)) <| oe [503, 502, 500] [] (AV.AT hb23 rfl rfl rfl (Ak DJ q0 q1)) <| ov [504, 500] (Bq hb23 q0 q1) <| ov [500] (Aa q0) <| oe [500] [] (AV.AZ (want := false) hb24 rfl rfl rfl rfl) <| oe [501] [] (AV.AZ (want := false) hb24 rfl rfl rfl rfl) <| oe [502] [] (AV.AZ (want := false) hb24 rfl rfl rfl rfl) <| oe [503] [] (AV.AZ (want := false) hb24 rfl rfl rfl rfl) <| oe [504] [] (AV.AZ (want := false) hb24 rfl rfl rfl rfl) <| oe [505] [] (AV.AZ (want := false) hb24 rfl rfl rfl rfl) <| oe [506] [] (AV.AZ (want := false) hb24 rfl rfl rfl rfl) <| oe [507] [] (AV.AZ (want := false) hb24 rfl rfl rfl rfl) <| ov [508] (Bu hb24 q0 qb) <| ov [500] (Aa q0) <| oe [500] [] (AV.AZ (want := false) rfl rfl rfl rfl rfl) <| oe [501] [] (AV.AZ (want := false) rfl rfl rfl rfl rfl) <| ov [502] (Bu rfl q0 qb) <| ov [500] (Aa q0) <| oe [500] [] (AV.AZ (want := false) rfl rfl rfl rfl rfl) <| oe [501] [] (AV.AZ (want := false) rfl rfl rfl rfl rfl) <| ov [502] (Bu rfl q0 qb) .nil) fun _ a w h => ?_
     exact ⟨true, hF, h.sub [0, 1, 2, 3, 4, 5, 6, 7, 8] (by rfl)⟩
    ·replace hF := EO hb24 hF
     obtain ⟨hv3, hF⟩ := Ay hF
     rcases Bool.eq_false_or_eq_true (!decide (((a_1.getD a_5.toNat default).Fk) = a_3.CA)) with hb25 | hb25
     ·replace hF := EM hb25 hF
      refine CY mixed hn hG h [0, 1, 2, 3, 4, 5, 500, 6, 7] (ov [4] (Aa q0) <| ov [500] (Ak Bl q0 qi) <| ov [500] (Aa q0) <| oe [500, 4] [] (AV.AT hb22 rfl rfl rfl (Aa q0)) <| oe [501, 1] [] (AV.AT hb22 rfl rfl rfl (Aa q0)) <| oe [502, 500] [] (AV.AT hb22 rfl rfl rfl (A4 underlying26 q0)) <| oe [503, 502, 500] [] (AV.AT hb22 rfl rfl rfl (Ak DJ q0 q1)) <| ov [504, 500] (Bq hb22 q0 q1) <| ov [500] (Aa q0) <| oe [500, 4] [] (AV.AT hb23 rfl rfl rfl (Aa q0)) <| oe [501, 2] [] (AV.AT hb23 rfl rfl rfl (Aa q0)) <| oe [502, 500] [] (AV.AT hb23 rfl rfl rfl (A4 underlying27 q0)) <| oe [503, 502, 500] [] (AV.AT hb23 rfl rfl rfl (Ak DJ q0 q1)) <| ov [504, 500] (Bq hb23 q0 q1) <| ov [500] (Aa q0) <| oe [500, 1] [] (AV.AT hb24 rfl rfl rfl (Aa q0)) <| oe [501, 4] [] (AV.AT hb24 rfl rfl rfl (Aa q0)) <| oe [502, 501, 500] [] (AV.AT hb24 rfl rfl rfl (AL underlying26 sizeOf31 Ai.lens q0 q1 hv3)) <| oe [503, 500] [] (AV.AT hb24 rfl rfl rfl (Ct (n := 1) ((Ai.ck (a_1.getD a_5.toNat default)).take 2) _ underlying31 rfl sizeOf29 (by decide) q0 rfl)) <| oe [504, 500] [] (AV.AT hb24 rfl rfl rfl (BH ((Ai.ck (a_1.getD a_5.toNat default)).drop 3) isAgg29 q0)) <| oe [505, 5] [] (AV.AT hb24 rfl rfl rfl (Aj (p := (b1 0)) (n := 1) 0 1 underlying41 rfl sizeOf29 (by decide) q0 rfl)) <| oe [506, 500, 7] [] (AV.AT hb24 rfl rfl rfl (AB [one (Ab .u32 a_3.BZ)] ((Ae.ck a_3).drop 2) 1 isAgg29 q0 rfl rfl)) <| oe [507, 502, 500] [] (AV.AT hb24 rfl rfl rfl (Ak C2 q0 q1)) <| ov [508, 500] (Bq hb24 q0 q1) <| ov [500] (Aa q0) <| oe [500] [] (AV.AZ (want := false) hb25 rfl rfl rfl rfl) <| oe [501] [] (AV.AZ (want := false) hb25 rfl rfl rfl rfl) <| ov [502] (Bu hb25 q0 qb) <| ov [500] (Aa q0) <| oe [500] [] (AV.AZ (want := false) rfl rfl rfl rfl rfl) <| oe [501] [] (AV.AZ (want := false) rfl rfl rfl rfl rfl) <| ov [502] (Bu rfl q0 qb) .nil) fun _ a w h => ?_
      exact ⟨true, hF, h.sub [0, 1, 2, 3, 4, 5, 6, 7, 8] (by rfl)⟩
     ·replace hF := EO hb25 hF
      rcases Bool.eq_false_or_eq_true a_3.BU with hb26 | hb26
      ·replace hF := EM hb26 hF
       refine CY mixed hn hG h [0, 1, 2, 3, 4, 5, 500, 6, 7] (ov [4] (Aa q0) <| ov [500] (Ak Bl q0 qi) <| ov [500] (Aa q0) <| oe [500, 4] [] (AV.AT hb22 rfl rfl rfl (Aa q0)) <| oe [501, 1] [] (AV.AT hb22 rfl rfl rfl (Aa q0)) <| oe [502, 500] [] (AV.AT hb22 rfl rfl rfl (A4 underlying26 q0)) <| oe [503, 502, 500] [] (AV.AT hb22 rfl rfl rfl (Ak DJ q0 q1)) <| ov [504, 500] (Bq hb22 q0 q1) <| ov [500] (Aa q0) <| oe [500, 4] [] (AV.AT hb23 rfl rfl rfl (Aa q0)) <| oe [501, 2] [] (AV.AT hb23 rfl rfl rfl (Aa q0)) <| oe [502, 500] [] (AV.AT hb23 rfl rfl rfl (A4 underlying27 q0)) <| oe [503, 502, 500] [] (AV.AT hb23 rfl rfl rfl (Ak DJ q0 q1)) <| ov [504, 500] (Bq hb23 q0 q1) <| ov [500] (Aa q0) <| oe [500, 1] [] (AV.AT hb24 rfl rfl rfl (Aa q0)) <| oe [501, 4] [] (AV.AT hb24 rfl rfl rfl (Aa q0)) <| oe [502, 501, 500] [] (AV.AT hb24 rfl rfl rfl (AL underlying26 sizeOf31 Ai.lens q0 q1 hv3)) <| oe [503, 500] [] (AV.AT hb24 rfl rfl rfl (Ct (n := 1) ((Ai.ck (a_1.getD a_5.toNat default)).take 2) _ underlying31 rfl sizeOf29 (by decide) q0 rfl)) <| oe [504, 500] [] (AV.AT hb24 rfl rfl rfl (BH ((Ai.ck (a_1.getD a_5.toNat default)).drop 3) isAgg29 q0)) <| oe [505, 5] [] (AV.AT hb24 rfl rfl rfl (Aj (p := (b1 0)) (n := 1) 0 1 underlying41 rfl sizeOf29 (by decide) q0 rfl)) <| oe [506, 500, 7] [] (AV.AT hb24 rfl rfl rfl (AB [one (Ab .u32 a_3.BZ)] ((Ae.ck a_3).drop 2) 1 isAgg29 q0 rfl rfl)) <| oe [507, 502, 500] [] (AV.AT hb24 rfl rfl rfl (Ak C2 q0 q1)) <| ov [508, 500] (Bq hb24 q0 q1) <| ov [500] (Aa q0) <| oe [500, 5] [] (AV.AT hb25 rfl rfl rfl (Aj (p := (b1 0)) (n := 1) 0 70 underlying41 rfl sizeOf4 (by decide) q0 rfl)) <| oe [501, 500, 7] [] (AV.AT hb25 rfl rfl rfl (AB ((Ae.ck a_3).take 8) [one (AE a_3.Ds)] 1 isAgg4 q0 rfl rfl)) <| ov [502, 500] (Bq hb25 q0 q1) <| ov [500] (Aa q0) <| oe [500] [] (AV.AZ (want := false) hb26 rfl rfl rfl rfl) <| oe [501] [] (AV.AZ (want := false) hb26 rfl rfl rfl rfl) <| ov [502] (Bu hb26 q0 qb) .nil) fun _ a w h => ?_
       exact ⟨true, hF, h.sub [0, 1, 2, 3, 4, 5, 6, 7, 8] (by rfl)⟩
      ·replace hF := EO hb26 hF
       refine CY mixed hn hG h [0, 1, 2, 3, 4, 5, 500, 6, 7] (ov [4] (Aa q0) <| ov [500] (Ak Bl q0 qi) <| ov [500] (Aa q0) <| oe [500, 4] [] (AV.AT hb22 rfl rfl rfl (Aa q0)) <| oe [501, 1] [] (AV.AT hb22 rfl rfl rfl (Aa q0)) <| oe [502, 500] [] (AV.AT hb22 rfl rfl rfl (A4 underlying26 q0)) <| oe [503, 502, 500] [] (AV.AT hb22 rfl rfl rfl (Ak DJ q0 q1)) <| ov [504, 500] (Bq hb22 q0 q1) <| ov [500] (Aa q0) <| oe [500, 4] [] (AV.AT hb23 rfl rfl rfl (Aa q0)) <| oe [501, 2] [] (AV.AT hb23 rfl rfl rfl (Aa q0)) <| oe [502, 500] [] (AV.AT hb23 rfl rfl rfl (A4 underlying27 q0)) <| oe [503, 502, 500] [] (AV.AT hb23 rfl rfl rfl (Ak DJ q0 q1)) <| ov [504, 500] (Bq hb23 q0 q1) <| ov [500] (Aa q0) <| oe [500, 1] [] (AV.AT hb24 rfl rfl rfl (Aa q0)) <| oe [501, 4] [] (AV.AT hb24 rfl rfl rfl (Aa q0)) <| oe [502, 501, 500] [] (AV.AT hb24 rfl rfl rfl (AL underlying26 sizeOf31 Ai.lens q0 q1 hv3)) <| oe [503, 500] [] (AV.AT hb24 rfl rfl rfl (Ct (n := 1) ((Ai.ck (a_1.getD a_5.toNat default)).take 2) _ underlying31 rfl sizeOf29 (by decide) q0 rfl)) <| oe [504, 500] [] (AV.AT hb24 rfl rfl rfl (BH ((Ai.ck (a_1.getD a_5.toNat default)).drop 3) isAgg29 q0)) <| oe [505, 5] [] (AV.AT hb24 rfl rfl rfl (Aj (p := (b1 0)) (n := 1) 0 1 underlying41 rfl sizeOf29 (by decide) q0 rfl)) <| oe [506, 500, 7] [] (AV.AT hb24 rfl rfl rfl (AB [one (Ab .u32 a_3.BZ)] ((Ae.ck a_3).drop 2) 1 isAgg29 q0 rfl rfl)) <| oe [507, 502, 500] [] (AV.AT hb24 rfl rfl rfl (Ak C2 q0 q1)) <| ov [508, 500] (Bq hb24 q0 q1) <| ov [500] (Aa q0) <| oe [500, 5] [] (AV.AT hb25 rfl rfl rfl (Aj (p := (b1 0)) (n := 1) 0 70 underlying41 rfl sizeOf4 (by decide) q0 rfl)) <| oe [501, 500, 7] [] (AV.AT hb25 rfl rfl rfl (AB ((Ae.ck a_3).take 8) [one (AE a_3.Ds)] 1 isAgg4 q0 rfl rfl)) <| ov [502, 500] (Bq hb25 q0 q1) <| ov [500] (Aa q0) <| oe [500, 5] [] (AV.AT hb26 rfl rfl rfl (Aj (p := (b1 0)) (n := 1) 0 71 underlying41 rfl sizeOf4 (by decide) q0 rfl)) <| oe [501, 500, 7] [] (AV.AT hb26 rfl rfl rfl (AB ((Ae.ck a_3).take 9) [] 1 isAgg4 q0 rfl rfl)) <| ov [502, 500] (Bq hb26 q0 q1) .nil) fun _ a w h => ?_
       exact ⟨a_3.Ds, hF, h.sub [0, 1, 2, 3, 4, 5, 6, 7, 8] (by rfl)⟩
 ·clear h hF
  rintro a w ⟨x4, hF, h⟩
  unfold AU.j1 at hF
  show Code.wp prog _ _ a w
  refine DL h hF 6 [7] [0, 1, 2, 3, 4, 5, 7, 8] (fun hb5 hF h => ?_) (fun hb5 hF h => ?_)
  ·refine Ao mixed hn hG h [501, 500, 0] (ov [] (Ad (DZ (ec _))) <| ov [] (Ad qb) .nil) fun _ a w h => ?_
   refine wp_ret ?_
   obtain rfl := Option.some.inj hF
   exact ⟨.inl rfl, Es h (rs := [.tmp 12, .tmp 13]) (Vs := [(Dw EJ.nil), (AE false)]) results38 (by decide) ⟨(Bc 0 rfl), (Bc 1 rfl), trivial⟩ [2] [(AO p_0 L_0)] rfl rfl rfl⟩
  ·refine wp_skip ?_
   show Code.wp prog _ _ a w
   obtain ⟨hv6, hF⟩ := Ay hF
   obtain ⟨r7, hr7, hF⟩ := bind_some hF
   refine Ao mixed hn hG h [0, 1, 2, 3, 4, 5, 501, 503, 6, 7, 500] (ov [5, 7] (AA 1 isAgg41 sizeOf41 q0) <| ov [2] (Aa q0) <| ov [4] (Aa q0) <| ov [501, 500] (AL underlying27 sizeOf33 (Bk 32) q0 q1 hv6) <| ov [500] (BM [Af 32 (((a_2.take (if (64 : Int) < (a_2.length : Int) then (64 : Int) else (a_2.length : Int)).toNat).drop (0 : Int).toNat).getD a_5.toNat default)] [] isAgg33 sizeOf33 q0 rfl) <| oc [504, 500] [] call12 (F6 hr7) ⟨q0, q1, trivial⟩ <| ov [500] (Aa q0) <| ov [500] (AQ q0 rfl) <| ov [501] (AQ q0 rfl) <| ob [] (AJ zeroValue33 GN) <| ov [503] (Ad q0) <| og [502, 503] [501] [.res 9 100000 (fun v1_ _ => (lb (v1_) 33 [Af 32 r7.2]))] (AV.plain (Aq sizeOf33 q0 q1 (Al _)) rfl) .nil) fun b8 a w h => ?_
   refine wp_seq ?_
   refine wp_block ?_
   refine Ao mixed hn hG h [0, 1, 2, 3, 4, 5, 6, 7, 500, 8, 9, 10] (ov [6] (Aa q0) <| ov [500] (Ak C3 q0 qi) <| ov [500] (Ad q0) .nil) fun _ a w h => ?_
   refine DL h hF 8 [9] [0, 1, 2, 3, 4, 5, 6, 7, 9, 10, 11] (fun hb9 hF h => ?_) (fun hb9 hF h => ?_)
   ·refine Ao mixed hn hG h [501, 500, 0] (ov [] (Ad (DZ (ec _))) <| ov [] (Ad qb) .nil) fun _ a w h => ?_
    refine wp_ret ?_
    obtain rfl := Option.some.inj hF
    exact ⟨.inl rfl, Es h (rs := [.tmp 12, .tmp 13]) (Vs := [(Dw EJ.nil), (AE false)]) results38 (by decide) ⟨(Bc 0 rfl), (Bc 1 rfl), trivial⟩ [2] [(AO p_0 L_0)] rfl rfl rfl⟩
   ·refine wp_seq ?_
    refine wp_cut (fun a w => ∃ (x11 : Bool), AU.j2 L_0 a_1 a_2 a_3 a_4 a_5 x11 = some r ∧ Ar c [.slot 0 (Am p_0), .slot 1 (An Ai.ck a_1), .slot 2 (An (dC 32) ((a_2.take (if (64 : Int) < (a_2.length : Int) then (64 : Int) else (a_2.length : Int)).toNat).drop (0 : Int).toNat)), .slot 4 (Ab .u64 a_4), .slot 5 (Ab .i64 a_5), .slot 9 (Au (b1 0) 0), .slot 65 (AE x11), .res (AO p_0 L_0), .res (lb (b1 0) 41 (Ae.ck a_3))] a w) ?_ ?_
    ·rcases Bool.eq_false_or_eq_true (decide (r7.1 = (1 : Int))) with hb21 | hb21
     ·replace hF := EM hb21 hF
      obtain ⟨r10, hr10, hF⟩ := bind_some hF
      refine CY mixed hn hG h [0, 1, 2, 3, 4, 5, 500, 8, 9] (ov [6] (Aa q0) <| ov [500] (Ak C3 q0 qi) <| ov [500] (Aa q0) <| oe [500, 5, 9] [] (AV.AT hb21 rfl rfl rfl (AA 1 isAgg41 sizeOf41 q0)) <| oe [501, 7, 10] [] (AV.AT hb21 rfl rfl rfl (AA 1 isAgg33 sizeOf33 q0)) <| oe [502, 3] [] (AV.AT hb21 rfl rfl rfl (Aa q0)) <| oe [503, 502, 501, 500] [] (AV.AT hb21 rfl rfl rfl (HN call58 (Eu hr10) ⟨q0, q1, q2, trivial⟩)) <| oe [504, 500] [] (AV.AT hb21 rfl rfl rfl (Ak C3 q0 qi)) <| ov [505, 500] (Bu hb21 q0 q1) <| ov [500] (Ad q0) .nil) fun _ a w h => ?_
      exact ⟨decide (r10 = (0 : Int)), hF, h.sub [0, 1, 2, 3, 4, 5, 6, 7, 8] (by rfl)⟩
     ·replace hF := EO hb21 hF
      refine CY mixed hn hG h [0, 1, 2, 3, 4, 5, 500, 8, 9] (ov [6] (Aa q0) <| ov [500] (Ak C3 q0 qi) <| ov [500] (Aa q0) <| oe [500] [] (AV.AZ (want := true) hb21 rfl rfl rfl rfl) <| oe [501] [] (AV.AZ (want := true) hb21 rfl rfl rfl rfl) <| oe [502] [] (AV.AZ (want := true) hb21 rfl rfl rfl rfl) <| oe [503] [] (AV.AZ (want := true) hb21 rfl rfl rfl rfl) <| oe [504] [] (AV.AZ (want := true) hb21 rfl rfl rfl rfl) <| ov [505] (Bq hb21 q0 qb) <| ov [500] (Ad q0) .nil) fun _ a w h => ?_
      exact ⟨false, hF, h.sub [0, 1, 2, 3, 4, 5, 6, 7, 8] (by rfl)⟩
    ·clear h hF
     rintro a w ⟨x11, hF, h⟩
     unfold AU.j2 at hF
     show Code.wp prog _ _ a w
     refine DL h hF 6 [0, 1, 2, 4, 5, 7, 8] [0, 2, 3, 4, 5, 7, 8] (fun hb12 hF h => ?_) (fun hb12 hF h => ?_)
     ·refine wp_seq ?_
      refine wp_seq ?_
      obtain ⟨hv13, hF⟩ := Ay hF
      obtain ⟨r14, hr14, hF⟩ := bind_some hF
      obtain ⟨hv15, hF⟩ := Ay hF
      refine wp_cut (fun a w => ∃ (x16 : Bool), AU.j3 a_1 a_5 r14 x16 = some r ∧ Ar c [.slot 1 (An Ai.ck a_1), .slot 5 (Ab .i64 a_5), .slot 95 (AE x16), .res (AO p_0 r14.2)] a w) ?_ ?_
      ·rcases Bool.eq_false_or_eq_true (!decide (r14.1 = (((a_2.take (if (64 : Int) < (a_2.length : Int) then (64 : Int) else (a_2.length : Int)).toNat).drop (0 : Int).toNat).getD a_5.toNat default))) with hb19 | hb19
       ·replace hF := EM hb19 hF
        refine CY mixed hn hG h [1, 3, 500, 515] (ov [0] (Aa q0) <| ov [1] (Aa q0) <| ov [3] (Aa q0) <| ov [501, 500] (AL underlying26 sizeOf31 Ai.lens q0 q1 hv13) <| ov [500] (BM (Ai.ck (a_1.getD a_5.toNat default)) [] isAgg31 sizeOf31 q0 rfl) <| oc [504, 500] [5] call64 (FX hr14) ⟨q0, q1, trivial⟩ <| ov [2] (Aa q0) <| ov [3] (Aa q0) <| ov [501, 500] (AL underlying27 sizeOf33 (Bk 32) q0 q1 hv15) <| ov [500] (BM [Af 32 (((a_2.take (if (64 : Int) < (a_2.length : Int) then (64 : Int) else (a_2.length : Int)).toNat).drop (0 : Int).toNat).getD a_5.toNat default)] [] isAgg33 sizeOf33 q0 rfl) <| ov [505, 500] (Ak (Lw underlying33 underlying5 type5 sizeOf5 isAgg5 eqGuardType33) q0 q1) <| ov [500] (Aa q0) <| oe [500] [] (AV.AZ (want := false) hb19 rfl rfl rfl rfl) <| oe [501] [] (AV.AZ (want := false) hb19 rfl rfl rfl rfl) <| oe [502] [] (AV.AZ (want := false) hb19 rfl rfl rfl rfl) <| oe [503] [] (AV.AZ (want := false) hb19 rfl rfl rfl rfl) <| oe [504] [] (AV.AZ (want := false) hb19 rfl rfl rfl rfl) <| oe [505] [] (AV.AZ (want := false) hb19 rfl rfl rfl rfl) <| oe [506] [] (AV.AZ (want := false) hb19 rfl rfl rfl rfl) <| oe [507] [] (AV.AZ (want := false) hb19 rfl rfl rfl rfl) <| ov [508] (Bu hb19 q0 qb) .nil) fun _ a w h => ?_
        exact ⟨true, hF, h.sub [0, 1, 2, 3] (by rfl)⟩
       ·replace hF := EO hb19 hF
        refine CY mixed hn hG h [1, 3, 500, 515] (ov [0] (Aa q0) <| ov [1] (Aa q0) <| ov [3] (Aa q0) <| ov [501, 500] (AL underlying26 sizeOf31 Ai.lens q0 q1 hv13) <| ov [500] (BM (Ai.ck (a_1.getD a_5.toNat default)) [] isAgg31 sizeOf31 q0 rfl) <| oc [504, 500] [5] call64 (FX hr14) ⟨q0, q1, trivial⟩ <| ov [2] (Aa q0) <| ov [3] (Aa q0) <| ov [501, 500] (AL underlying27 sizeOf33 (Bk 32) q0 q1 hv15) <| ov [500] (BM [Af 32 (((a_2.take (if (64 : Int) < (a_2.length : Int) then (64 : Int) else (a_2.length : Int)).toNat).drop (0 : Int).toNat).getD a_5.toNat default)] [] isAgg33 sizeOf33 q0 rfl) <| ov [505, 500] (Ak (Lw underlying33 underlying5 type5 sizeOf5 isAgg5 eqGuardType33) q0 q1) <| ov [500] (Aa q0) <| oe [500, 1] [] (AV.AT hb19 rfl rfl rfl (Aa q0)) <| oe [501, 3] [] (AV.AT hb19 rfl rfl rfl (Aa q0)) <| oe [502, 501, 500] [] (AV.AT hb19 rfl rfl rfl (AL underlying26 sizeOf31 Ai.lens q0 q1 hv13)) <| oe [503, 500] [] (AV.AT hb19 rfl rfl rfl (Ct (n := 1) [] _ underlying31 rfl sizeOf29 (by decide) q0 rfl)) <| oe [504, 500] [] (AV.AT hb19 rfl rfl rfl (BH ((Ai.ck (a_1.getD a_5.toNat default)).drop 1) isAgg29 q0)) <| oe [505, 4] [] (AV.AT hb19 rfl rfl rfl (Aj (p := (b1 0)) (n := 1) 0 0 underlying41 rfl sizeOf29 (by decide) q0 rfl)) <| oe [506, 500, 6] [] (AV.AT hb19 rfl rfl rfl (AB [] ((Ae.ck a_3).drop 1) 1 isAgg29 q0 rfl rfl)) <| oe [507, 502, 500] [] (AV.AT hb19 rfl rfl rfl (Ak C2 q0 q1)) <| ov [508, 500] (Bq hb19 q0 q1) .nil) fun _ a w h => ?_
        exact ⟨!decide (((a_1.getD a_5.toNat default).CK) = a_3.BZ), hF, h.sub [0, 1, 2, 3] (by rfl)⟩
      ·clear h hF
       rintro a w ⟨x16, hF, h⟩
       unfold AU.j3 at hF
       show Code.wp prog _ _ a w
       refine DL h hF 2 [3] [0, 1, 3] (fun hb17 hF h => ?_) (fun hb17 hF h => ?_)
       ·refine Ao mixed hn hG h [501, 500, 0] (ov [] (Ad (DZ (ec _))) <| ov [] (Ad qb) .nil) fun _ a w h => ?_
        refine wp_ret ?_
        obtain rfl := Option.some.inj hF
        exact ⟨.inl rfl, Es h (rs := [.tmp 12, .tmp 13]) (Vs := [(Dw EJ.nil), (AE false)]) results38 (by decide) ⟨(Bc 0 rfl), (Bc 1 rfl), trivial⟩ [2] [(AO p_0 r14.2)] rfl rfl rfl⟩
       ·refine wp_skip ?_
        show Code.wp prog _ _ a w
        obtain ⟨hv18, hF⟩ := Ay hF
        refine Ao mixed hn hG h [501, 500, 2] (ov [0] (Aa q0) <| ov [1] (Aa q0) <| ov [501, 500] (AL underlying26 sizeOf31 Ai.lens q0 q1 hv18) <| ov [500] (BM (Ai.ck (a_1.getD a_5.toNat default)) [] isAgg31 sizeOf31 q0 rfl) <| ov [500] (Dc [(0, .tmp 99)] rfl Q8 z148 ⟨[], [one (Ab .u32 (0 : Int)), one (Ab .u32 (0 : Int)), one (Ab .u32 (0 : Int)), one (As []), one (As []), one (As [])], [], (Ai.ck (a_1.getD a_5.toNat default)), _, rfl, rfl, rfl, q0, (Al _), rfl⟩) <| ov [500] (M9 (x := (BK.mk (a_1.getD a_5.toNat default))) q0) <| ov [500] (Ad q0) <| ov [] (Ad qb) .nil) fun _ a w h => ?_
        refine wp_ret ?_
        obtain rfl := Option.some.inj hF
        exact ⟨.inl rfl, Es h (rs := [.tmp 12, .tmp 13]) (Vs := [(Dw (EJ.c148 (BK.mk (a_1.getD a_5.toNat default)))), (AE true)]) results38 (by decide) ⟨(Bc 0 rfl), (Bc 1 rfl), trivial⟩ [2] [(AO p_0 r14.2)] rfl rfl rfl⟩
     ·refine wp_skip ?_
      show Code.wp prog _ _ a w
      obtain ⟨r20, hr20, hF⟩ := bind_some hF
      refine Ao mixed hn hG h [501, 500, 504] (ov [0] (Aa q0) <| ov [1] (Aa q0) <| ov [4, 6] (AA 1 isAgg41 sizeOf41 q0) <| ov [2] (Aa q0) <| ov [3] (Aa q0) <| oc [504, 503, 502, 501, 500] [5] call77 (Hv hr20) ⟨q0, q1, q2, q3, (opt 4 rfl), trivial⟩ <| ov [501] (AQ q0 rfl) <| ov [502] (AQ q0 rfl) <| ov [501] (Ad q0) <| ov [501] (Ad q0) .nil) fun _ a w h => ?_
      refine wp_ret ?_
      obtain rfl := Option.some.inj hF
      exact ⟨.inl rfl, Es h (rs := [.tmp 12, .tmp 13]) (Vs := [(Dw r20.1), (AE r20.2.1)]) results38 (by decide) ⟨(Bc 0 rfl), (Bc 1 rfl), trivial⟩ [2] [(AO p_0 r20.2.2)] rfl rfl rfl⟩

def A3.b1 (a_1 : Ah) (a_2 : List (Ai)) (a_3 : List (List UInt8)) (a_4 : Ae) (a_5 : Int) (a_6 : Int) (r4 : AD) (x15 : Int) (x16 : Option AP) : Option (CR (Ah × (List (EJ)) × (Option AP)) (Int × (Option AP))) := (if (decide (x15 < (a_2.length : Int))) = true then (if IntKind.wrap .u64 (a_2.length : Int) ≠ 0 then (if (a_2.length : Int) ≠ 0 then ((AU x16 a_2 a_3 a_4 a_5 ((IntKind.wrap .i64 ((IntKind.wrap .i64 (r4.Cl.tmod (IntKind.wrap .u64 (a_2.length : Int)))) + x15)).tmod (a_2.length : Int))).bind fun r31 => (if (!r31.2.1) = true then some (.cont (IntKind.wrap .i64 (x15 + 1), r31.2.2)) else (if (decide (a_6 = (0 : Int))) = true then some (.ret (a_1, [], r31.2.2)) else (if (0 : Int) ≤ (IntKind.wrap .i64 ((IntKind.wrap .i64 (r4.Cl.tmod (IntKind.wrap .u64 (a_2.length : Int)))) + x15)).tmod (a_2.length : Int) ∧ (IntKind.wrap .i64 ((IntKind.wrap .i64 (r4.Cl.tmod (IntKind.wrap .u64 (a_2.length : Int)))) + x15)).tmod (a_2.length : Int) < a_3.length then ((Ec (AD.mk r4.DF r4.BE (IntKind.wrap .u64 ((IntKind.wrap .u64 ((IntKind.wrap .i64 ((IntKind.wrap .i64 (r4.Cl.tmod (IntKind.wrap .u64 (a_2.length : Int)))) + x15)).tmod (a_2.length : Int))) + 1)) (a_3.getD ((IntKind.wrap .i64 ((IntKind.wrap .i64 (r4.Cl.tmod (IntKind.wrap .u64 (a_2.length : Int)))) + x15)).tmod (a_2.length : Int)).toNat default) r4.Dq (IntKind.wrap .u64 ((if (999999 : Int) < r4.CJ then (999999 : Int) else r4.CJ) + 1)))).bind fun r35 => (if (decide (a_6 = (1 : Int))) = true then some (.ret ((Ah.mk a_1.BE r35), [], r31.2.2)) else some (.ret ((Ah.mk a_1.BE r35), [r31.1], r31.2.2)))) else none)))) else none) else none) else some (.brk (x15, x16)))
def A3 (L_0 : Option AP) (a_1 : Ah) (a_2 : List (Ai)) (a_3 : List (List UInt8)) (a_4 : Ae) (a_5 : Int) (a_6 : Int) : Option (Ah × (List (EJ)) × (Option AP)) := ((Dh a_1).bind fun r4 => ((Bf (fun s : Int × (Option AP) => A3.b1 a_1 a_2 a_3 a_4 a_5 a_6 r4 s.1 s.2) (((a_2.length : Int) - 0 : Int).toNat + 2) (0, L_0)).bind fun cr => match cr with | .ret r => some r | .next (y41, y42) => some (a_1, [], y42)))
theorem Ev {p_0 : Value} {L_0 : Option AP} {a_1 : Ah} {a_2 : List (Ai)} {a_3 : List (List UInt8)} {a_4 : Ae} {a_5 : Int} {a_6 : Int} {r : Ah × (List (EJ)) × (Option AP)} (hF : A3 L_0 a_1 a_2 a_3 a_4 a_5 a_6 = some r) : Az prog KG 10 [(Am p_0), (AG (Ah.ck a_1)), (An Ai.ck a_2), (An (dC 32) a_3), (AG (Ae.ck a_4)), (Ab .u64 a_5), (Ab .i64 a_6)] [(AO p_0 L_0)] (fun _ => [AO p_0 r.2.2]) (CV [(AG (Ah.ck r.1)), (An KI r.2.1)]) := by
 refine Az.intro 82 func10 rfl ntmps10 (Nat.le_of_ble_eq_true rfl) ?_
 intro c a w hG hn h
 unfold A3 at hF
 change Ar c [.slot 0 (Am p_0), .slot 1 (AG (Ah.ck a_1)), .slot 2 (An Ai.ck a_2), .slot 3 (An (dC 32) a_3), .slot 4 (AG (Ae.ck a_4)), .slot 5 (Ab .u64 a_5), .slot 6 (Ab .i64 a_6), .res (AO p_0 L_0)] a w at h
 refine Ao mixed hn hG h [0, 2, 3, 5, 6, 506, 504, 502, 7, 505, 503, 501] (ob [1] (BF q0 (Al _)) <| ob [4] (BF q0 (Al _)) <| ob [] (AJ zeroValue43 Qx) <| ov [] (Ad (DZ (ec _))) .nil) fun b1 a w h => ?_
 obtain ⟨r4, hr4, hF⟩ := bind_some hF
 refine Ao mixed hn hG h [0, 1, 2, 3, 4, 5, 6, 7, 502, 8, 9, 10, 11, 500] (ov [5, 9] (AA 1 isAgg43 sizeOf43 q0) <| oc [500] [] call32 (Ga hr4) ⟨q0, trivial⟩ <| ob [] (AJ zeroValue93 z93) <| og [501, 502] [500] [.res 2 100000 (fun v1_ _ => (lb (v1_) 93 (AD.ck r4)))] (AV.plain (Aq sizeOf93 q0 q1 (Al _)) rfl) .nil) fun b5 a w h => ?_
 refine wp_seq ?_
 refine Ao mixed hn hG h [0, 1, 2, 3, 4, 5, 6, 7, 8, 501, 500, 9, 10, 11, 12, 13] (ov [1] (Aa q0) <| ov [500] (A4 underlying26 q0) <| ov [] (Aa qi) .nil) fun _ a w h => ?_
 refine wp_block ?_
 obtain ⟨cr37, hl38, hF⟩ := bind_some hF
 refine wp_mono (Bw (R := Ah × (List (EJ)) × (Option AP)) (S := Int × (Option AP)) (fun s a w => Ar c [.slot 0 (Am p_0), .slot 2 (An Ai.ck a_2), .slot 3 (An (dC 32) a_3), .slot 5 (Ab .u64 a_5), .slot 6 (Ab .i64 a_6), .slot 8 (Au (b1 0) 0), .slot 11 (Au (b1 1) 0), .slot 14 (Au (b1 2) 0), .slot 16 (Au (b5 2) 0), .slot 24 (Ab .i64 (a_2.length : Int)), .slot 25 (Ab .i64 s.1), .res (AO p_0 s.2), .res (lb (b1 0) 43 (Ah.ck a_1)), .res (lb (b1 1) 41 (Ae.ck a_4)), .res (lb (b1 2) 43 [one (Ab .u32 (0 : Int)), one (As [])]), .res (lb (b5 2) 93 (AD.ck r4))] a w) (fun res e a w => match res with | .next s => e = .exit 0 ∧ Ar c [.slot 8 (Au (b1 0) 0), .slot 14 (Au (b1 2) 0), .res (AO p_0 s.2), .res (lb (b1 0) 43 (Ah.ck a_1)), .res (lb (b1 2) 43 [one (Ab .u32 (0 : Int)), one (As [])])] a w | .ret r => e = .ret ∧ CO prog f10 c (CV [(AG (Ah.ck r.1)), (An KI r.2.1)]) (fun _ => [AO p_0 r.2.2]) a w) ?_ _ (0, L_0) _ _ _ (h.sub [0, 1, 2, 3, 4, 5, 6, 7, 8, 9, 10, 11, 12, 13, 14, 15] (by rfl)) hl38) ?_
 ·clear hl38 hF h
  intro s a w o h hF
  obtain ⟨x15, x16⟩ := s
  change A3.b1 a_1 a_2 a_3 a_4 a_5 a_6 r4 x15 x16 = some o at hF
  unfold A3.b1 at hF
  change Ar c [.slot 0 (Am p_0), .slot 2 (An Ai.ck a_2), .slot 3 (An (dC 32) a_3), .slot 5 (Ab .u64 a_5), .slot 6 (Ab .i64 a_6), .slot 8 (Au (b1 0) 0), .slot 11 (Au (b1 1) 0), .slot 14 (Au (b1 2) 0), .slot 16 (Au (b5 2) 0), .slot 24 (Ab .i64 (a_2.length : Int)), .slot 25 (Ab .i64 x15), .res (AO p_0 x16), .res (lb (b1 0) 43 (Ah.ck a_1)), .res (lb (b1 1) 41 (Ae.ck a_4)), .res (lb (b1 2) 43 [one (Ab .u32 (0 : Int)), one (As [])]), .res (lb (b5 2) 93 (AD.ck r4))] a w at h
  refine Ao mixed hn hG h [0, 1, 2, 3, 4, 5, 6, 7, 8, 9, 10, 500, 11, 12, 13, 14, 15] (ov [10, 9] (Ak Bl q0 q1) .nil) fun _ a w h => ?_
  refine wp_seq ?_
  refine DL h hF 11 [0, 1, 2, 3, 4, 5, 6, 7, 8, 9, 10, 12, 13, 14, 15, 16] [0, 1, 2, 3, 4, 5, 6, 7, 8, 9, 10, 12, 13, 14, 15, 16] (fun hb28 hF h => ?_) (fun hb28 hF h => ?_)
  ·refine wp_skip ?_
   show Code.wp prog _ _ a w
   refine wp_seq ?_
   refine wp_block ?_
   refine Ao mixed hn hG h [0, 1, 2, 3, 4, 5, 6, 7, 8, 500, 9, 10, 11, 12, 13, 14, 15] (ov [10] (Aa q0) <| ov [500] (Ad q0) .nil) fun _ a w h => ?_
   obtain ⟨hv29, hF⟩ := Ay hF
   obtain ⟨hv30, hF⟩ := Ay hF
   refine Ao mixed hn hG h [0, 1, 2, 3, 4, 5, 6, 7, 8, 500, 10, 11, 12, 13, 14, 15, 16] (ov [8] (Aj (p := (b5 2)) (n := 1) 0 2 underlying93 rfl sizeOf24 (by decide) q0 rfl) <| ov [500, 16] (AB ((AD.ck r4).take 2) ((AD.ck r4).drop 3) 1 isAgg24 q0 rfl rfl) <| ov [1] (Aa q0) <| ov [500] (A4 underlying26 q0) <| ov [500] (AW underlying3 underlying24 q0) <| ov [503, 500] (Ak (GG hv29) q0 q1) <| ov [500] (AW underlying24 underlying3 q0) <| ov [9] (Aa q0) <| ov [501, 500] (Ak AY q0 q1) <| ov [1] (Aa q0) <| ov [500] (A4 underlying26 q0) <| ov [502, 500] (Ak (GG hv30) q0 q1) <| ov [500] (Ad q0) .nil) fun _ a w h => ?_
   obtain ⟨r31, hr31, hF⟩ := bind_some hF
   refine Ao mixed hn hG h [0, 1, 2, 3, 4, 5, 6, 7, 8, 9, 501, 500, 10, 11, 13, 14, 15, 16, 505] (ov [0] (Aa q0) <| ov [1] (Aa q0) <| ov [2] (Aa q0) <| ov [6, 14] (AA 1 isAgg41 sizeOf41 q0) <| ov [3] (Aa q0) <| ov [9] (Aa q0) <| oc [505, 504, 503, 502, 501, 500] [12] call38 (Hw hr31) ⟨q0, q1, q2, q3, (opt 4 rfl), (opt 5 rfl), trivial⟩ <| ov [501] (Aa q0) <| ov [500] (AQ q0 rfl) <| ov [501] (AQ q0 rfl) <| ov [501] (Ad q0) <| ov [501] (Ad q0) .nil) fun _ a w h => ?_
   refine wp_seq ?_
   refine wp_block ?_
   refine Ao mixed hn hG h [0, 1, 2, 3, 4, 5, 6, 7, 8, 9, 10, 12, 13, 500, 14, 15, 16, 17, 18] (ov [11] (Aa q0) <| ov [500] (ID (Hq _) q0) <| ov [500] (Ad q0) .nil) fun _ a w h => ?_
   refine DL h hF 13 [0, 1, 2, 3, 4, 5, 6, 7, 8, 11, 12, 14, 15, 16, 17, 18] [2, 4, 5, 7, 8, 9, 10, 14, 16, 17, 18] (fun hb32 hF h => ?_) (fun hb32 hF h => ?_)
   ·refine wp_exit ?_
    show Code.wp prog _ _ a w
    refine CY mixed hn hG h [0, 1, 2, 3, 4, 5, 6, 7, 8, 9, 500, 11, 12, 13, 14, 15] (ov [10] (Ak AY q0 qi) <| od [500] 10 (Aa q0) .nil) fun _ a w h => ?_
    obtain rfl := Option.some.inj hF
    exact ⟨rfl, h.sub [0, 1, 2, 3, 4, 5, 6, 7, 8, 9, 10, 15, 11, 12, 13, 14] (by rfl)⟩
   ·refine Ao mixed hn hG h [0, 1, 2, 3, 4, 5, 6, 500, 7, 8, 9, 10] (ov [1] (Aa q0) <| ov [500] (Ak C3 q0 qi) <| ov [500] (Ad q0) .nil) fun _ a w h => ?_
    refine DL h hF 7 [2, 3, 8, 9, 11] [0, 1, 2, 3, 4, 5, 6, 8, 9, 10, 11] (fun hb33 hF h => ?_) (fun hb33 hF h => ?_)
    ·refine Ao mixed hn hG h [1, 500, 501, 4] (ov [0, 2] (AA 1 isAgg43 sizeOf43 q0) <| ou [1, 500] 3 (Aq sizeOf43 q0 q1 (Al _)) <| ov [] (Ad (DZ (ec _))) .nil) fun _ a w h => ?_
     refine wp_ret ?_
     obtain rfl := Option.some.inj hF
     exact ⟨E2, rfl, Es h (rs := [.cell 14 43, .tmp 15]) (Vs := [(AG (Ah.ck a_1)), (An KI [])]) results10 (by decide) ⟨(Bs 0 2 rfl rfl isAgg43 sizeOf43 rfl), (Jm 1 rfl), trivial⟩ [3] [(AO p_0 r31.2.2)] rfl rfl rfl⟩
    ·refine wp_skip ?_
     show Code.wp prog _ _ a w
     obtain ⟨hv34, hF⟩ := Ay hF
     refine Ao mixed hn hG h [1, 2, 3, 4, 6, 7, 8, 500, 10] (ov [5] (Aa q0) <| ov [500] (AW underlying3 underlying24 q0) <| ov [500] (Ak AY q0 qi) <| ov [0] (Aa q0) <| ov [5] (Aa q0) <| ov [501, 500] (AL underlying27 sizeOf33 (Bk 32) q0 q1 hv34) <| ov [500] (BM [Af 32 (a_3.getD ((IntKind.wrap .i64 ((IntKind.wrap .i64 (r4.Cl.tmod (IntKind.wrap .u64 (a_2.length : Int)))) + x15)).tmod (a_2.length : Int)).toNat default)] [] isAgg33 sizeOf33 q0 rfl) <| ov [4] (Aj (p := (b5 2)) (n := 1) 0 67 underlying93 rfl sizeOf24 (by decide) q0 rfl) <| ov [500, 9] (AB ((AD.ck r4).take 5) [] 1 isAgg24 q0 rfl rfl) <| ov [500] (Kt q0 qi) <| ov [500] (Ak AY q0 qi) <| ov [4] (Aj (p := (b5 2)) (n := 1) 0 2 underlying93 rfl sizeOf24 (by decide) q0 rfl) <| ou [500, 509] 9 (B7 ((AD.ck r4).take 2) [one (Ab .u64 r4.Cl)] ((AD.ck r4).drop 3) [one (Ab .u64 (IntKind.wrap .u64 ((IntKind.wrap .u64 ((IntKind.wrap .i64 ((IntKind.wrap .i64 (r4.Cl.tmod (IntKind.wrap .u64 (a_2.length : Int)))) + x15)).tmod (a_2.length : Int))) + 1)))] sizeOf24 q0 q1 (Ap (AK _ _)) rfl rfl rfl) <| ov [4] (Aj (p := (b5 2)) (n := 32) 0 3 underlying93 rfl sizeOf33 (by decide) q0 rfl) <| ou [500, 507] 501 (B7 [one (Ab .u8 r4.DF), one (Ab .u32 r4.BE), one (Ab .u64 (IntKind.wrap .u64 ((IntKind.wrap .u64 ((IntKind.wrap .i64 ((IntKind.wrap .i64 (r4.Cl.tmod (IntKind.wrap .u64 (a_2.length : Int)))) + x15)).tmod (a_2.length : Int))) + 1)))] [Af 32 r4.ED] ((AD.ck r4).drop 4) [Af 32 (a_3.getD ((IntKind.wrap .i64 ((IntKind.wrap .i64 (r4.Cl.tmod (IntKind.wrap .u64 (a_2.length : Int)))) + x15)).tmod (a_2.length : Int)).toNat default)] sizeOf33 q0 q1 (Al _) rfl rfl rfl) <| ov [4] (Aj (p := (b5 2)) (n := 1) 0 67 underlying93 rfl sizeOf24 (by decide) q0 rfl) <| ou [500, 505] 501 (B7 [one (Ab .u8 r4.DF), one (Ab .u32 r4.BE), one (Ab .u64 (IntKind.wrap .u64 ((IntKind.wrap .u64 ((IntKind.wrap .i64 ((IntKind.wrap .i64 (r4.Cl.tmod (IntKind.wrap .u64 (a_2.length : Int)))) + x15)).tmod (a_2.length : Int))) + 1))), Af 32 (a_3.getD ((IntKind.wrap .i64 ((IntKind.wrap .i64 (r4.Cl.tmod (IntKind.wrap .u64 (a_2.length : Int)))) + x15)).tmod (a_2.length : Int)).toNat default), Af 32 r4.Dq] [one (Ab .u64 r4.CJ)] [] [one (Ab .u64 (IntKind.wrap .u64 ((if (999999 : Int) < r4.CJ then (999999 : Int) else r4.CJ) + 1)))] sizeOf24 q0 q1 (Ap (AK _ _)) rfl rfl rfl) .nil) fun _ a w h => ?_
     obtain ⟨r35, hr35, hF⟩ := bind_some hF
     refine Ao mixed hn hG h [0, 1, 2, 4, 500, 6, 8] (ov [3, 7] (AA 1 isAgg93 sizeOf93 q0) <| oc [500] [] call39 (G0 hr35) ⟨q0, trivial⟩ <| ov [1] (Aj (p := (b1 0)) (n := 1) 0 1 underlying43 rfl sizeOf9 (by decide) q0 rfl) <| ou [500, 501] 5 (B7 [one (Ab .u32 a_1.BE)] [one (As a_1.Iq)] [] [one (As r35)] sizeOf9 q0 q1 (Ap (Du _)) rfl rfl rfl) .nil) fun _ a w h => ?_
     refine wp_seq ?_
     refine Ao mixed hn hG h [1, 2, 3, 500, 4, 5, 6] (ov [0] (Aa q0) <| ov [500] (Ak C3 q0 qi) .nil) fun _ a w h => ?_
     refine DL h hF 3 [0, 1, 4, 5, 6] [0, 1, 2, 4, 5, 6] (fun hb36 hF h => ?_) (fun hb36 hF h => ?_)
     ·refine Ao mixed hn hG h [1, 500, 501, 4] (ov [0, 2] (AA 1 isAgg43 sizeOf43 q0) <| ou [1, 500] 3 (Aq sizeOf43 q0 q1 (Al _)) <| ov [] (Ad (DZ (ec _))) .nil) fun _ a w h => ?_
      refine wp_ret ?_
      obtain rfl := Option.some.inj hF
      exact ⟨E2, rfl, Es h (rs := [.cell 14 43, .tmp 15]) (Vs := [(AG [one (Ab .u32 a_1.BE), one (As r35)]), (An KI [])]) results10 (by decide) ⟨(Bs 0 2 rfl rfl isAgg43 sizeOf43 rfl), (Jm 1 rfl), trivial⟩ [3] [(AO p_0 r31.2.2)] rfl rfl rfl⟩
     ·refine wp_skip ?_
      show Code.wp prog _ _ a w
      refine Ao mixed hn hG h [1, 500, 501, 5] (ov [0, 3] (AA 1 isAgg43 sizeOf43 q0) <| ov [2] (Aa q0) <| ov [500] (Dn (xs := [.tmp 78]) (ys := [r31.1]) _ rfl underlying45 sizeOf20 zeroValue20 rfl rfl (by decide) (by decide) ⟨⟨_, q0, (Ap (P8 _))⟩, trivial⟩ Lj) <| ou [1, 502] 4 (Aq sizeOf43 q0 q1 (Al _)) <| ov [501] (Ad q0) .nil) fun _ a w h => ?_
      refine wp_ret ?_
      obtain rfl := Option.some.inj hF
      exact ⟨E2, rfl, Es h (rs := [.cell 14 43, .tmp 15]) (Vs := [(AG [one (Ab .u32 a_1.BE), one (As r35)]), (An KI [r31.1])]) results10 (by decide) ⟨(Bs 0 2 rfl rfl isAgg43 sizeOf43 rfl), (Bc 1 rfl), trivial⟩ [3] [(AO p_0 r31.2.2)] rfl rfl rfl⟩
  ·refine wp_exit ?_
   obtain rfl := Option.some.inj hF
   exact ⟨BQ _, rfl, h.sub [5, 7, 11, 12, 14] (by rfl)⟩
 ·clear hl38
  intro e a w hq
  cases cr37 with
  | ret r39 =>
   obtain ⟨rfl, hq⟩ := hq
   obtain rfl := Option.some.inj hF
   exact ⟨.inl rfl, hq⟩
  | next s40 =>
   obtain ⟨y41, y42⟩ := s40
   obtain ⟨rfl, h⟩ := hq
   change Ar c [.slot 8 (Au (b1 0) 0), .slot 14 (Au (b1 2) 0), .res (AO p_0 y42), .res (lb (b1 0) 43 (Ah.ck a_1)), .res (lb (b1 2) 43 [one (Ab .u32 (0 : Int)), one (As [])])] a w at h
   refine Be ?_
   show Code.wp prog _ _ a w
   refine Ao mixed hn hG h [1, 500, 2, 501] (ov [0, 3] (AA 1 isAgg43 sizeOf43 q0) <| ou [1, 500] 4 (Aq sizeOf43 q0 q1 (Al _)) <| ov [] (Ad (DZ (ec _))) .nil) fun _ a w h => ?_
   refine wp_ret ?_
   obtain rfl := Option.some.inj hF
   exact ⟨.inl rfl, Es h (rs := [.cell 14 43, .tmp 15]) (Vs := [(AG (Ah.ck a_1)), (An KI [])]) results10 (by decide) ⟨(Bs 0 3 rfl rfl isAgg43 sizeOf43 rfl), (Jm 1 rfl), trivial⟩ [2] [(AO p_0 y42)] rfl rfl rfl⟩

def C8.j1 (x12 : Bool) : Option Bool := some x12
def C8 : Option Bool := ((El 1).bind fun r1 => ((A3 none r1 [] [] (Ae.mk (0 : Int) (0 : Int) (List.replicate 32 0) [] (0 : Int) (List.replicate 32 0) [] [] false false) 0 (-1 : Int)).bind fun r2 => ((Fg none (Ai.mk 1 (0 : Int) 2 [97] [98] [])).bind fun r4 => ((Gm r4.2 [r4.1]).bind fun r6 => ((El 1).bind fun r8 => ((A3 r2.2.2 r8 [(Ai.mk 1 (0 : Int) 2 [97] [98] [])] [r4.1] (Ae.mk 1 2 (List.replicate 32 0) [] (0 : Int) (List.replicate 32 0) [(Av.mk r6.1 (0 : Int))] [] false false) 0 (-1 : Int)).bind fun r9 => (if (decide ((r2.2.1.length : Int) = (0 : Int))) = true then (if (decide ((r9.2.1.length : Int) = (1 : Int))) = true then ((Dh r9.1).bind fun r11 => C8.j1 (decide (r11.Cl = (1 : Int)))) else C8.j1 false) else C8.j1 false)))))))
theorem Jv {r : Bool} (hF : C8 = some r) : Az prog KG 5 [] [] (fun _ => []) (AE r) := by
 refine Az.intro 47 func5 rfl ntmps5 (Nat.le_of_ble_eq_true rfl) ?_
 intro c a w hG hn h
 unfold C8 at hF
 change Ar c [] a w at h
 refine Ao mixed hn hG h [] (ov [] (Ad qb) .nil) fun _ a w h => ?_
 replace h := h.snoc Hf
 replace h := h.sub [0] (by rfl)
 change Ar c [.res (AO (.pointer none) none)] a w at h
 obtain ⟨r1, hr1, hF⟩ := bind_some hF
 obtain ⟨r2, hr2, hF⟩ := bind_some hF
 refine Ao mixed hn hG h [500, 507] (oc [] [] call8 (Fh hr1) ⟨qi, trivial⟩ <| ov [] (Dc [] rfl Qr Qy rfl) <| oc [501, 500] [0] call10 (Ev hr2) ⟨(DZ (ec _)), q0, Mm, Mm, q1, qi, qi, trivial⟩ <| ov [501] (Aa q0) <| ov [500] (AQ q0 rfl) <| ov [501] (AQ q0 rfl) <| ob [] (AJ zeroValue43 Qx) <| og [501, 503] [500] [.res 6 100000 (fun v1_ _ => (lb (v1_) 43 (Ah.ck r2.1)))] (AV.plain (Aq sizeOf43 q0 q1 (Al _)) rfl) <| ov [503] (Ad q0) .nil) fun _ a w h => ?_
 refine Ao mixed hn hG h [0, 502, 1, 500] (ov [] (Dc [(0, .const (.int .u32 1)), (2, .const (.int .u32 2)), (3, .const (.string ⟨#[97]⟩)), (4, .const (.string ⟨#[98]⟩))] rfl Q3 z31 ⟨[], [one (Ab .u32 (0 : Int))], [one (Ab .u32 (0 : Int)), one (Ab .u32 (0 : Int)), one (As []), one (As []), one (As [])], [one (Ab .u32 1)], _, rfl, rfl, rfl, qi, (Ap (AK _ _)), ⟨[one (Ab .u32 1), one (Ab .u32 (0 : Int))], [one (Ab .u32 (0 : Int))], [one (As []), one (As []), one (As [])], [one (Ab .u32 2)], _, rfl, rfl, rfl, qi, (Ap (AK _ _)), ⟨[one (Ab .u32 1), one (Ab .u32 (0 : Int)), one (Ab .u32 2)], [one (As [])], [one (As []), one (As [])], [one (As [97])], _, rfl, rfl, rfl, (DZ (sc _ (by decide))), (Ap (Du _)), ⟨[one (Ab .u32 1), one (Ab .u32 (0 : Int)), one (Ab .u32 2), one (As [97])], [one (As [])], [one (As [])], [one (As [98])], _, rfl, rfl, rfl, (DZ (sc _ (by decide))), (Ap (Du _)), rfl⟩⟩⟩⟩) <| ob [] (AJ zeroValue31 z31) <| og [501, 502] [500] [.res 1 100000 (fun v1_ _ => (lb (v1_) 31 [one (Ab .u32 1), one (Ab .u32 (0 : Int)), one (Ab .u32 2), one (As [97]), one (As [98]), one (As [])]))] (AV.plain (Aq sizeOf31 q0 q1 (Al _)) rfl) .nil) fun b3 a w h => ?_
 replace h := h.snoc JG
 replace h := h.sub [0, 1, 2, 3, 4] (by rfl)
 change Ar c [.slot 2 (An KI r2.2.1), .slot 3 (Au (b3 1) 0), .res (AO (.pointer none) r2.2.2), .res (lb (b3 1) 31 [one (Ab .u32 1), one (Ab .u32 (0 : Int)), one (Ab .u32 2), one (As [97]), one (As [98]), one (As [])]), .res (A5 (Value.pointer none) none)] a w at h
 obtain ⟨r4, hr4, hF⟩ := bind_some hF
 refine Ao mixed hn hG h [0, 1, 502, 2, 3, 503, 500] (ov [1, 3] (AA 1 isAgg31 sizeOf31 q0) <| oc [500] [4] call6 (Hk hr4) ⟨(DZ (ec _)), q0, trivial⟩ <| ob [] (AJ zeroValue33 GN) <| og [501, 503] [500] [.res 2 100000 (fun v1_ _ => (lb (v1_) 33 [Af 32 r4.1]))] (AV.plain (Aq sizeOf33 q0 q1 (Al _)) rfl) .nil) fun b5 a w h => ?_
 obtain ⟨r6, hr6, hF⟩ := bind_some hF
 refine Ao mixed hn hG h [0, 1, 2, 502, 3, 4, 6, 506, 500] (ov [2, 6] (AA 1 isAgg33 sizeOf33 q0) <| ov [500] (Dn (xs := [.tmp 17]) (ys := [r4.1]) _ rfl underlying27 sizeOf33 zeroValue33 rfl rfl (by decide) (by decide) ⟨⟨_, q0, (Al _)⟩, trivial⟩ (Bk 32)) <| oc [500] [5] call7 (IA hr6) ⟨(DZ (ec _)), q0, trivial⟩ <| ov [501] (Dc [(0, .tmp 19)] rfl Q2 z37 ⟨[], [Af 32 (List.replicate 32 0)], [one (Ab .u64 (0 : Int))], [Af 32 r6.1], _, rfl, rfl, rfl, q0, (Al _), rfl⟩) <| ov [500] (Dn (xs := [.tmp 20]) (ys := [(Av.mk r6.1 (0 : Int))]) _ rfl underlying38 sizeOf37 zeroValue37 rfl rfl (by decide) (by decide) ⟨⟨_, q0, (Al _)⟩, trivial⟩ Av.lens) <| ov [500] (Dc [(0, .const (.int .u32 1)), (1, .const (.int .u32 2)), (6, .tmp 21)] rfl Qr Qy ⟨[], [one (Ab .u32 (0 : Int))], [one (Ab .u32 (0 : Int)), Af 32 (List.replicate 32 0), one (An (dC 32) []), one (Ab .u64 (0 : Int)), Af 32 (List.replicate 32 0), one (An Av.ck []), one (An Ag.ck []), one (AE false), one (AE false)], [one (Ab .u32 1)], _, rfl, rfl, rfl, qi, (Ap (AK _ _)), ⟨[one (Ab .u32 1)], [one (Ab .u32 (0 : Int))], [Af 32 (List.replicate 32 0), one (An (dC 32) []), one (Ab .u64 (0 : Int)), Af 32 (List.replicate 32 0), one (An Av.ck []), one (An Ag.ck []), one (AE false), one (AE false)], [one (Ab .u32 2)], _, rfl, rfl, rfl, qi, (Ap (AK _ _)), ⟨[one (Ab .u32 1), one (Ab .u32 2), Af 32 (List.replicate 32 0), one (An (dC 32) []), one (Ab .u64 (0 : Int)), Af 32 (List.replicate 32 0)], [one (An Av.ck [])], [one (An Ag.ck []), one (AE false), one (AE false)], [one (An Av.ck [(Av.mk r6.1 (0 : Int))])], _, rfl, rfl, rfl, q0, (Ap (Ku _ _)), rfl⟩⟩⟩) <| ob [] (AJ zeroValue41 Qy) <| og [501, 502] [500] [.res 6 100000 (fun v1_ _ => (lb (v1_) 41 [one (Ab .u32 1), one (Ab .u32 2), Af 32 (List.replicate 32 0), one (An (dC 32) []), one (Ab .u64 (0 : Int)), Af 32 (List.replicate 32 0), one (An Av.ck [(Av.mk r6.1 (0 : Int))]), one (An Ag.ck []), one (AE false), one (AE false)]))] (AV.plain (Aq sizeOf41 q0 q1 (Al _)) rfl) .nil) fun b7 a w h => ?_
 obtain ⟨r8, hr8, hF⟩ := bind_some hF
 obtain ⟨r9, hr9, hF⟩ := bind_some hF
 refine Ao mixed hn hG h [0, 503, 500, 7, 507, 501] (oc [] [] call8 (Fh hr8) ⟨qi, trivial⟩ <| ov [1, 5] (AA 1 isAgg31 sizeOf31 q0) <| ov [500] (Dn (xs := [.tmp 25]) (ys := [(Ai.mk 1 (0 : Int) 2 [97] [98] [])]) _ rfl underlying26 sizeOf31 zeroValue31 rfl rfl (by decide) (by decide) ⟨⟨_, q0, (Al _)⟩, trivial⟩ Ai.lens) <| ov [2, 6] (AA 1 isAgg33 sizeOf33 q0) <| ov [500] (Dn (xs := [.tmp 27]) (ys := [r4.1]) _ rfl underlying27 sizeOf33 zeroValue33 rfl rfl (by decide) (by decide) ⟨⟨_, q0, (Al _)⟩, trivial⟩ (Bk 32)) <| ov [3, 8] (AA 1 isAgg41 sizeOf41 q0) <| oc [505, 503, 501, 500] [4] call10 (Ev hr9) ⟨(DZ (ec _)), q0, q1, q2, q3, qi, qi, trivial⟩ <| ov [501] (Aa q0) <| ov [500] (AQ q0 rfl) <| ov [501] (AQ q0 rfl) <| ob [] (AJ zeroValue43 Qx) <| og [501, 503] [500] [.res 10 100000 (fun v1_ _ => (lb (v1_) 43 (Ah.ck r9.1)))] (AV.plain (Aq sizeOf43 q0 q1 (Al _)) rfl) <| ov [503] (Ad q0) .nil) fun b10 a w h => ?_
 refine wp_seq ?_
 refine wp_cut (fun a w => ∃ (x12 : Bool), C8.j1 x12 = some r ∧ Ar c [.slot 0 (AE x12), .res (A5 (Value.pointer none) r6.2), .res (AO (.pointer none) r9.2.2)] a w) ?_ ?_
 ·rcases Bool.eq_false_or_eq_true (decide ((r2.2.1.length : Int) = (0 : Int))) with hb13 | hb13
  ·replace hF := EM hb13 hF
   rcases Bool.eq_false_or_eq_true (decide ((r9.2.1.length : Int) = (1 : Int))) with hb14 | hb14
   ·replace hF := EM hb14 hF
    obtain ⟨r11, hr11, hF⟩ := bind_some hF
    refine CY mixed hn hG h [500, 3, 4] (ov [0] (Aa q0) <| ov [500] (A4 underlying45 q0) <| ov [500] (Ak C3 q0 qi) <| ov [500] (Aa q0) <| oe [500, 2] [] (AV.AT hb13 rfl rfl rfl (Aa q0)) <| oe [501, 500] [] (AV.AT hb13 rfl rfl rfl (A4 underlying45 q0)) <| oe [502, 500] [] (AV.AT hb13 rfl rfl rfl (Ak C3 q0 qi)) <| ov [503, 500] (Bu hb13 q0 q1) <| ov [500] (Aa q0) <| oe [500, 1, 5] [] (AV.AT hb14 rfl rfl rfl (AA 1 isAgg43 sizeOf43 q0)) <| oe [501, 500] [] (AV.AT hb14 rfl rfl rfl (HN call32 (Ga hr11) ⟨q0, trivial⟩)) <| oe [502, 500] [] (AV.AT hb14 rfl rfl rfl (Na ((AD.ck r11).take 2) ((AD.ck r11).drop 3) underlying93 rfl isAgg24 q0 rfl)) <| oe [503, 500] [] (AV.AT hb14 rfl rfl rfl (Ak C3 q0 qi)) <| ov [504, 500] (Bu hb14 q0 q1) <| ov [500] (Ad q0) .nil) fun _ a w h => ?_
    exact ⟨decide (r11.Cl = (1 : Int)), hF, h.sub [0, 1, 2] (by rfl)⟩
   ·replace hF := EO hb14 hF
    refine CY mixed hn hG h [500, 3, 4] (ov [0] (Aa q0) <| ov [500] (A4 underlying45 q0) <| ov [500] (Ak C3 q0 qi) <| ov [500] (Aa q0) <| oe [500, 2] [] (AV.AT hb13 rfl rfl rfl (Aa q0)) <| oe [501, 500] [] (AV.AT hb13 rfl rfl rfl (A4 underlying45 q0)) <| oe [502, 500] [] (AV.AT hb13 rfl rfl rfl (Ak C3 q0 qi)) <| ov [503, 500] (Bu hb13 q0 q1) <| ov [500] (Aa q0) <| oe [500] [] (AV.AZ (want := true) hb14 rfl rfl rfl rfl) <| oe [501] [] (AV.AZ (want := true) hb14 rfl rfl rfl rfl) <| oe [502] [] (AV.AZ (want := true) hb14 rfl rfl rfl rfl) <| oe [503] [] (AV.AZ (want := true) hb14 rfl rfl rfl rfl) <| ov [504] (Bq hb14 q0 qb) <| ov [500] (Ad q0) .nil) fun _ a w h => ?_
    exact ⟨false, hF, h.sub [0, 1, 2] (by rfl)⟩
  ·replace hF := EO hb13 hF
   refine CY mixed hn hG h [500, 3, 4] (ov [0] (Aa q0) <| ov [500] (A4 underlying45 q0) <| ov [500] (Ak C3 q0 qi) <| ov [500] (Aa q0) <| oe [500] [] (AV.AZ (want := true) hb13 rfl rfl rfl rfl) <| oe [501] [] (AV.AZ (want := true) hb13 rfl rfl rfl rfl) <| oe [502] [] (AV.AZ (want := true) hb13 rfl rfl rfl rfl) <| ov [503] (Bq hb13 q0 qb) <| ov [500] (Aa q0) <| oe [500] [] (AV.AZ (want := true) rfl rfl rfl rfl rfl) <| oe [501] [] (AV.AZ (want := true) rfl rfl rfl rfl rfl) <| oe [502] [] (AV.AZ (want := true) rfl rfl rfl rfl rfl) <| oe [503] [] (AV.AZ (want := true) rfl rfl rfl rfl rfl) <| ov [504] (Bq rfl q0 qb) <| ov [500] (Ad q0) .nil) fun _ a w h => ?_
   exact ⟨false, hF, h.sub [0, 1, 2] (by rfl)⟩
 ·clear h hF
  rintro a w ⟨x12, hF, h⟩
  unfold C8.j1 at hF
  show Code.wp prog _ _ a w
  refine wp_ret ?_
  obtain rfl := Option.some.inj hF
  exact ⟨.inl rfl, BG h results5 (Bc 0 rfl) [] [] rfl rfl rfl⟩

def CF (a_0 : Ae) : Option Int := (if a_0.BU = true then some 30 else (if a_0.Ds = true then some 34 else some 0))
theorem GI {a_0 : Ae} {r : Int} (hF : CF a_0 = some r) : Az prog KG 56 [(AG (Ae.ck a_0))] [] (fun _ => []) (Ab .i64 r) := by
 refine Az.intro 9 func56 rfl ntmps56 (Nat.le_of_ble_eq_true rfl) ?_
 intro c a w hG hn h
 unfold CF at hF
 change Ar c [.slot 0 (AG (Ae.ck a_0))] a w at h
 refine Ao mixed hn hG h [502, 501] (ob [0] (BF q0 (Al _)) <| ov [] (Ad qi) .nil) fun b1 a w h => ?_
 refine wp_seq ?_
 refine wp_block ?_
 refine Ao mixed hn hG h [0, 500, 1] (ov [0] (Aj (p := (b1 0)) (n := 1) 0 70 underlying41 rfl sizeOf4 (by decide) q0 rfl) <| ov [500, 1] (AB ((Ae.ck a_0).take 8) [one (AE a_0.Ds)] 1 isAgg4 q0 rfl rfl) <| ov [500] (Ad q0) .nil) fun _ a w h => ?_
 refine DL h hF 1 [] [0, 2] (fun hb2 hF h => ?_) (fun hb2 hF h => ?_)
 ·refine Ao mixed hn hG h [500] (ov [] (Ad qi) .nil) fun _ a w h => ?_
  refine wp_ret ?_
  obtain rfl := Option.some.inj hF
  exact ⟨.inl rfl, BG h results56 (Bc 0 rfl) [] [] rfl rfl rfl⟩
 ·refine Ao mixed hn hG h [500] (ov [0] (Aj (p := (b1 0)) (n := 1) 0 71 underlying41 rfl sizeOf4 (by decide) q0 rfl) <| ov [500, 1] (AB ((Ae.ck a_0).take 9) [] 1 isAgg4 q0 rfl rfl) <| ov [500] (Ad q0) .nil) fun _ a w h => ?_
  refine DL h hF 0 [] [] (fun hb3 hF h => ?_) (fun hb3 hF h => ?_)
  ·refine Ao mixed hn hG h [500] (ov [] (Ad qi) .nil) fun _ a w h => ?_
   refine wp_ret ?_
   obtain rfl := Option.some.inj hF
   exact ⟨.inl rfl, BG h results56 (Bc 0 rfl) [] [] rfl rfl rfl⟩
  ·refine wp_skip ?_
   show Code.wp prog _ _ a w
   refine Ao mixed hn hG h [500] (ov [] (Ad qi) .nil) fun _ a w h => ?_
   refine wp_ret ?_
   obtain rfl := Option.some.inj hF
   exact ⟨.inl rfl, BG h results56 (Bc 0 rfl) [] [] rfl rfl rfl⟩

def By.j1 (x11 : Int) (x31 : List UInt8) (x32 : Option AP) : Option (CR ((List UInt8) × (Option AP)) (Int × (Option AP) × (List UInt8))) := some (.cont (IntKind.wrap .i64 (x11 + 1), x32, x31))
def By.b1 (a_2 : Int) (a_3 : List (List UInt8)) (x11 : Int) (x12 : Option AP) (x13 : List UInt8) : Option (CR ((List UInt8) × (Option AP)) (Int × (Option AP) × (List UInt8))) := (if (decide (x11 < (((a_3.take (if (32 : Int) < (a_3.length : Int) then (32 : Int) else (a_3.length : Int)).toNat).drop (0 : Int).toNat).length : Int))) = true then (if (0 : Int) ≤ x11 ∧ x11 < ((a_3.take (if (32 : Int) < (a_3.length : Int) then (32 : Int) else (a_3.length : Int)).toNat).drop (0 : Int).toNat).length then (if (0 : Int) ≤ x11 then (if (decide ((bits .and .u32 (shr .u32 a_2 x11) 1) = (1 : Int))) = true then ((Ed x12 (((a_3.take (if (32 : Int) < (a_3.length : Int) then (32 : Int) else (a_3.length : Int)).toNat).drop (0 : Int).toNat).getD x11.toNat default) x13).bind fun r34 => By.j1 x11 r34.1 r34.2) else ((Ed x12 x13 (((a_3.take (if (32 : Int) < (a_3.length : Int) then (32 : Int) else (a_3.length : Int)).toNat).drop (0 : Int).toNat).getD x11.toNat default)).bind fun r35 => By.j1 x11 r35.1 r35.2)) else none) else none) else some (.brk (x11, x12, x13)))
def By (L_0 : Option AP) (a_1 : List UInt8) (a_2 : Int) (a_3 : List (List UInt8)) : Option ((List UInt8) × (Option AP)) := (if (0 : Int) ≤ 0 ∧ (0 : Int) ≤ (if (32 : Int) < (a_3.length : Int) then (32 : Int) else (a_3.length : Int)) ∧ (if (32 : Int) < (a_3.length : Int) then (32 : Int) else (a_3.length : Int)) ≤ a_3.length then ((Bf (fun s : Int × (Option AP) × (List UInt8) => By.b1 a_2 a_3 s.1 s.2.1 s.2.2) (((((a_3.take (if (32 : Int) < (a_3.length : Int) then (32 : Int) else (a_3.length : Int)).toNat).drop (0 : Int).toNat).length : Int) - 0 : Int).toNat + 2) (0, L_0, a_1)).bind fun cr => match cr with | .ret r => some r | .next (y40, y41, y42) => some (y42, y41)) else none)
theorem IS {p_0 : Value} {L_0 : Option AP} {a_1 : List UInt8} {a_2 : Int} {a_3 : List (List UInt8)} {r : (List UInt8) × (Option AP)} (hF : By L_0 a_1 a_2 a_3 = some r) : Az prog KG 57 [(Am p_0), (AG [Af 32 a_1]), (Ab .u32 a_2), (An (dC 32) a_3)] [(AO p_0 L_0)] (fun _ => [AO p_0 r.2]) (AG [Af 32 r.1]) := by
 refine Az.intro 37 func57 rfl ntmps57 (Nat.le_of_ble_eq_true rfl) ?_
 intro c a w hG hn h
 unfold By at hF
 change Ar c [.slot 0 (Am p_0), .slot 1 (AG [Af 32 a_1]), .slot 2 (Ab .u32 a_2), .slot 3 (An (dC 32) a_3), .res (AO p_0 L_0)] a w at h
 refine Ao mixed hn hG h [0, 2, 3, 503, 501, 4, 502, 500] (ob [1] (BF q0 (Al _)) <| ob [] (AJ zeroValue33 GN) .nil) fun b1 a w h => ?_
 refine wp_seq ?_
 obtain ⟨hv3, hF⟩ := Ay hF
 refine Ao mixed hn hG h [0, 1, 3, 4, 502, 501, 500, 5, 6, 7] (ov [2] (Aa q0) <| ov [2] (Aa q0) <| ov [500] (A4 underlying27 q0) <| ov [500] (Kt q0 qi) <| ov [503, 500] (Ea (a := 0) (b := (if (32 : Int) < (a_3.length : Int) then (32 : Int) else (a_3.length : Int))) underlying27 sizeOf33 (Bk 32) q0 rfl ⟨_, q1⟩ hv3) <| ov [500] (A4 underlying27 q0) <| ov [] (Aa qi) .nil) fun _ a w h => ?_
 refine wp_block ?_
 obtain ⟨cr36, hl37, hF⟩ := bind_some hF
 refine wp_mono (Bw (R := (List UInt8) × (Option AP)) (S := Int × (Option AP) × (List UInt8)) (fun s a w => Ar c [.slot 0 (Am p_0), .slot 2 (Ab .u32 a_2), .slot 5 (Au (b1 0) 0), .slot 8 (Au (b1 1) 0), .slot 15 (An (dC 32) ((a_3.take (if (32 : Int) < (a_3.length : Int) then (32 : Int) else (a_3.length : Int)).toNat).drop (0 : Int).toNat)), .slot 16 (Ab .i64 (((a_3.take (if (32 : Int) < (a_3.length : Int) then (32 : Int) else (a_3.length : Int)).toNat).drop (0 : Int).toNat).length : Int)), .slot 17 (Ab .i64 s.1), .res (AO p_0 s.2.1), .res (lb (b1 0) 33 [Af 32 s.2.2]), .res (lb (b1 1) 33 [Af 32 (List.replicate 32 0)])] a w) (fun res e a w => match res with | .next s => e = .exit 0 ∧ Ar c [.slot 5 (Au (b1 0) 0), .slot 8 (Au (b1 1) 0), .res (AO p_0 s.2.1), .res (lb (b1 0) 33 [Af 32 s.2.2]), .res (lb (b1 1) 33 [Af 32 (List.replicate 32 0)])] a w | .ret r => e = .ret ∧ CO prog f57 c (AG [Af 32 r.1]) (fun _ => [AO p_0 r.2]) a w) ?_ _ (0, L_0, a_1) _ _ _ (h.sub [0, 1, 2, 3, 4, 5, 6, 7, 8, 9] (by rfl)) hl37) ?_
 ·clear hl37 hF h
  intro s a w o h hF
  obtain ⟨x11, x12, x13⟩ := s
  change By.b1 a_2 a_3 x11 x12 x13 = some o at hF
  unfold By.b1 at hF
  change Ar c [.slot 0 (Am p_0), .slot 2 (Ab .u32 a_2), .slot 5 (Au (b1 0) 0), .slot 8 (Au (b1 1) 0), .slot 15 (An (dC 32) ((a_3.take (if (32 : Int) < (a_3.length : Int) then (32 : Int) else (a_3.length : Int)).toNat).drop (0 : Int).toNat)), .slot 16 (Ab .i64 (((a_3.take (if (32 : Int) < (a_3.length : Int) then (32 : Int) else (a_3.length : Int)).toNat).drop (0 : Int).toNat).length : Int)), .slot 17 (Ab .i64 x11), .res (AO p_0 x12), .res (lb (b1 0) 33 [Af 32 x13]), .res (lb (b1 1) 33 [Af 32 (List.replicate 32 0)])] a w at h
  refine Ao mixed hn hG h [0, 1, 2, 3, 4, 5, 6, 500, 7, 8, 9] (ov [6, 5] (Ak Bl q0 q1) .nil) fun _ a w h => ?_
  refine wp_seq ?_
  refine DL h hF 7 [0, 1, 2, 3, 4, 5, 6, 8, 9, 10] [0, 1, 2, 3, 4, 5, 6, 8, 9, 10] (fun hb25 hF h => ?_) (fun hb25 hF h => ?_)
  ·refine wp_skip ?_
   show Code.wp prog _ _ a w
   refine wp_seq ?_
   refine wp_block ?_
   obtain ⟨hv26, hF⟩ := Ay hF
   refine Ao mixed hn hG h [0, 1, 2, 3, 501, 503, 4, 5, 6, 7, 8, 9, 500] (ov [6] (Aa q0) <| ov [4, 6] (AL underlying27 sizeOf33 (Bk 32) q0 q1 hv26) <| ov [500] (BM [Af 32 (((a_3.take (if (32 : Int) < (a_3.length : Int) then (32 : Int) else (a_3.length : Int)).toNat).drop (0 : Int).toNat).getD x11.toNat default)] [] isAgg33 sizeOf33 q0 rfl) <| ob [] (AJ zeroValue33 GN) <| ov [504] (Ad q0) <| og [502, 503] [501] [.res 3 100000 (fun v1_ _ => (lb (v1_) 33 [Af 32 (((a_3.take (if (32 : Int) < (a_3.length : Int) then (32 : Int) else (a_3.length : Int)).toNat).drop (0 : Int).toNat).getD x11.toNat default)]))] (AV.plain (Aq sizeOf33 q0 q1 (Al _)) rfl) .nil) fun b27 a w h => ?_
   obtain ⟨hv28, hF⟩ := Ay hF
   refine Ao mixed hn hG h [0, 1, 2, 3, 5, 6, 7, 8, 500, 9, 10, 11, 12] (ov [1] (Aa q0) <| ov [4] (Aa q0) <| ov [501, 500] (Ak (HZ hv28) q0 q1) <| ov [500] (Ak ER q0 qi) <| ov [500] (Ak C3 q0 qi) .nil) fun _ a w h => ?_
   refine wp_cut (fun a w => ∃ (x31 : List UInt8), ∃ (x32 : Option AP), By.j1 x11 x31 x32 = some o ∧ Ar c [.slot 0 (Am p_0), .slot 2 (Ab .u32 a_2), .slot 5 (Au (b1 0) 0), .slot 8 (Au (b1 1) 0), .slot 15 (An (dC 32) ((a_3.take (if (32 : Int) < (a_3.length : Int) then (32 : Int) else (a_3.length : Int)).toNat).drop (0 : Int).toNat)), .slot 16 (Ab .i64 (((a_3.take (if (32 : Int) < (a_3.length : Int) then (32 : Int) else (a_3.length : Int)).toNat).drop (0 : Int).toNat).length : Int)), .slot 17 (Ab .i64 x11), .res (lb (b1 0) 33 [Af 32 x31]), .res (lb (b1 1) 33 [Af 32 (List.replicate 32 0)]), .res (AO p_0 x32)] a w) ?_ ?_
   ·refine DL h hF 8 [0, 1, 2, 3, 4, 5, 6, 7, 9, 10, 11, 12] [0, 1, 2, 3, 4, 5, 6, 7, 9, 10, 11, 12] (fun hb33 hF h => ?_) (fun hb33 hF h => ?_)
    ·obtain ⟨r34, hr34, hF⟩ := bind_some hF
     refine CY mixed hn hG h [0, 1, 2, 3, 5, 6, 7, 500, 10, 501] (ov [0] (Aa q0) <| ov [4, 11] (AA 1 isAgg33 sizeOf33 q0) <| ov [2, 9] (AA 1 isAgg33 sizeOf33 q0) <| oc [502, 501, 500] [8] call87 (E6 hr34) ⟨q0, q1, q2, trivial⟩ <| ou [2, 501] 9 (Aq sizeOf33 q0 q1 (Al _)) .nil) fun _ a w h => ?_
     exact ⟨r34.1, r34.2, hF, h.sub [0, 1, 2, 3, 4, 5, 6, 7, 8, 9] (by rfl)⟩
    ·obtain ⟨r35, hr35, hF⟩ := bind_some hF
     refine CY mixed hn hG h [0, 1, 2, 3, 5, 6, 7, 500, 10, 501] (ov [0] (Aa q0) <| ov [2, 9] (AA 1 isAgg33 sizeOf33 q0) <| ov [4, 11] (AA 1 isAgg33 sizeOf33 q0) <| oc [502, 501, 500] [8] call87 (E6 hr35) ⟨q0, q1, q2, trivial⟩ <| ou [2, 501] 9 (Aq sizeOf33 q0 q1 (Al _)) .nil) fun _ a w h => ?_
     exact ⟨r35.1, r35.2, hF, h.sub [0, 1, 2, 3, 4, 5, 6, 7, 8, 9] (by rfl)⟩
   ·clear h hF
    rintro a w ⟨x31, x32, hF, h⟩
    unfold By.j1 at hF
    show Code.wp prog _ _ a w
    refine CY mixed hn hG h [0, 1, 2, 3, 4, 5, 500, 7, 8, 9] (ov [6] (Ak AY q0 qi) <| od [500] 6 (Aa q0) .nil) fun _ a w h => ?_
    obtain rfl := Option.some.inj hF
    exact ⟨rfl, h.sub [0, 1, 2, 3, 4, 5, 6, 9, 7, 8] (by rfl)⟩
  ·refine wp_exit ?_
   obtain rfl := Option.some.inj hF
   exact ⟨BQ _, rfl, h.sub [2, 3, 7, 8, 9] (by rfl)⟩
 ·clear hl37
  intro e a w hq
  cases cr36 with
  | ret r38 =>
   obtain ⟨rfl, hq⟩ := hq
   obtain rfl := Option.some.inj hF
   exact ⟨.inl rfl, hq⟩
  | next s39 =>
   obtain ⟨y40, y41, y42⟩ := s39
   obtain ⟨rfl, h⟩ := hq
   change Ar c [.slot 5 (Au (b1 0) 0), .slot 8 (Au (b1 1) 0), .res (AO p_0 y41), .res (lb (b1 0) 33 [Af 32 y42]), .res (lb (b1 1) 33 [Af 32 (List.replicate 32 0)])] a w at h
   refine Be ?_
   show Code.wp prog _ _ a w
   refine Ao mixed hn hG h [1, 2, 500] (ov [0, 3] (AA 1 isAgg33 sizeOf33 q0) <| ou [1, 500] 4 (Aq sizeOf33 q0 q1 (Al _)) .nil) fun _ a w h => ?_
   refine wp_ret ?_
   obtain rfl := Option.some.inj hF
   exact ⟨.inl rfl, BG h results57 (Bs 0 2 rfl rfl isAgg33 sizeOf33 rfl) [1] [(AO p_0 y41)] rfl rfl rfl⟩

def BW (a_0 : List (Ag)) : Option (List (Ag)) := (if a_0.length * 72 ≤ 140737488355328 then some a_0 else none)
theorem JI {a_0 r : List (Ag)} (hF : BW a_0 = some r) : Az prog KG 59 [(An Ag.ck a_0)] [] (fun _ => []) (An Ag.ck r) := by
 unfold BW at hF
 obtain ⟨hv1, hF⟩ := Ay hF
 obtain rfl := Option.some.inj hF
 refine Az.intro 8 func59 rfl ntmps59 (Nat.le_of_ble_eq_true rfl) ?_
 intro c a w hG hn h
 change Ar c [.slot 0 (An Ag.ck a_0)] a w at h
 refine wp_seq ?_
 refine CL (n := 8) [.slot 2 100000 100000 (fun _ _ => (Am (.slice none 0 0)))] [0] [⟨[], [], [1], [], some 2⟩] [0] mixed hn hG h (by kernel_rfl) ?_ ?_
 ·exact ⟨⟨rfl, fun β => (AV.plain (Ad (DZ (ec _))) rfl)⟩, trivial⟩
 clear h
 intro β a w h
 change Ar c [.slot 0 (An Ag.ck a_0)] a w at h
 clear β
 show Code.wp prog _ _ a w
 refine wp_seq ?_
 refine wp_seq ?_
 refine CL (n := 8) [.slot 3 100000 100000 (fun _ _ => (An Ag.ck a_0)), .slot 4 100000 100000 (fun _ _ => (Gf a_0))] [0, 1] [⟨[0], [], [1], [], some 3⟩, ⟨[1], [], [2], [0], some 4⟩] [0, 2] mixed hn hG h (by kernel_rfl) ?_ ?_
 ·exact ⟨⟨rfl, fun β => (AV.plain (Aa (opt 0 rfl)) rfl)⟩, ⟨rfl, fun β => (AV.plain (Ak (Hc underlying39) (opt 0 rfl) (DZ (ec _))) rfl)⟩, trivial⟩
 clear h
 intro β a w h
 change Ar c [.slot 0 (An Ag.ck a_0), .slot 4 (Gf a_0)] a w at h
 clear β
 show Code.wp prog _ _ a w
 obtain ⟨b0, hb0, h⟩ := h.OT 1 rfl
 change Ar c [.slot 0 (An Ag.ck a_0), .slot 4 (AE b0)] a w at h
 refine D6 h 1 rfl (fun hb => ?_) (fun hb => ?_)
 ·obtain rfl := hb0 hb
  replace h := h.sub [] (by rfl)
  change Ar c [] a w at h
  refine wp_seq ?_
  refine CL (n := 8) [.slot 2 100000 100000 (fun _ _ => (Am (.slice none 0 0)))] [0] [⟨[], [], [0], [], some 2⟩] [0] mixed hn hG h (by kernel_rfl) ?_ ?_
  ·exact ⟨⟨rfl, fun β => (AV.plain (Ad (DZ (ec _))) rfl)⟩, trivial⟩
  clear h
  intro β a w h
  change Ar c [.slot 2 (Am (.slice none 0 0))] a w at h
  clear β
  show Code.wp prog _ _ a w
  refine wp_ret ?_
  exact ⟨.inl rfl, BG h results59 (Jm 0 rfl) [] [] rfl rfl rfl⟩
 ·replace h := h.sub [0] (by rfl)
  change Ar c [.slot 0 (An Ag.ck a_0)] a w at h
  refine wp_skip ?_
  show Code.wp prog _ _ a w
  refine wp_seq ?_
  refine CL (n := 8) [.slot 5 100000 100000 (fun _ _ => Mu), .slot 6 100000 100000 (fun _ _ => (An Ag.ck a_0)), .slot 7 100000 100000 (fun _ _ => (An Ag.ck a_0)), .slot 2 100000 100000 (fun _ _ => (An Ag.ck a_0))] [0, 1, 2, 3] [⟨[], [], [1], [], some 5⟩, ⟨[0], [], [2], [0], some 6⟩, ⟨[1, 2], [], [3], [0, 1], some 7⟩, ⟨[3], [], [4], [0, 1, 2], some 2⟩] [4] mixed hn hG h (by kernel_rfl) ?_ ?_
  ·exact ⟨⟨rfl, fun β => (AV.plain (Mj underlying39 sizeOf110 zeroValue110) rfl)⟩, ⟨rfl, fun β => (AV.plain (Aa (opt 0 rfl)) rfl)⟩, ⟨rfl, fun β => (AV.plain (Hl (i := t110) underlying39 type110 rfl Ag.lens (by decide) rfl (opt 0 rfl) (opt 1 rfl) hv1) rfl)⟩, ⟨rfl, fun β => (AV.plain (Ad (opt 0 rfl)) rfl)⟩, trivial⟩
  clear h
  intro β a w h
  change Ar c [.slot 2 (An Ag.ck a_0)] a w at h
  clear β
  show Code.wp prog _ _ a w
  refine wp_ret ?_
  exact ⟨.inl rfl, BG h results59 (Bc 0 rfl) [] [] rfl rfl rfl⟩
theorem Ez {a_0 r : List (Ag)} (hF : BW a_0 = some r) : Az prog KG 59 [(An Ag.ck a_0)] [] (fun v => [own v 110 65 Ag.ck r]) Mz := by
 unfold BW at hF
 obtain ⟨hv1, hF⟩ := Ay hF
 obtain rfl := Option.some.inj hF
 refine Az.intro 8 func59 rfl ntmps59 (Nat.le_of_ble_eq_true rfl) ?_
 intro c a w hG hn h
 change Ar c [.slot 0 (An Ag.ck a_0)] a w at h
 have hm : a_0.length ≤ CG := h.Pk 0 rfl (fun _ _ q => q.1)
 refine wp_seq ?_
 refine CL (n := 8) [.slot 2 100000 100000 (fun _ _ => (Am (.slice none 0 0)))] [0] [⟨[], [], [1], [], some 2⟩] [0] mixed hn hG h (by kernel_rfl) ?_ ?_
 ·exact ⟨⟨rfl, fun β => (AV.plain (Ad (DZ (ec _))) rfl)⟩, trivial⟩
 clear h
 intro β a w h
 change Ar c [.slot 0 (An Ag.ck a_0)] a w at h
 clear β
 show Code.wp prog _ _ a w
 refine wp_seq ?_
 refine wp_seq ?_
 refine CL (n := 8) [.slot 3 100000 100000 (fun _ _ => (An Ag.ck a_0)), .slot 4 100000 100000 (fun _ _ => (Gf a_0))] [0, 1] [⟨[0], [], [1], [], some 3⟩, ⟨[1], [], [2], [0], some 4⟩] [0, 2] mixed hn hG h (by kernel_rfl) ?_ ?_
 ·exact ⟨⟨rfl, fun β => (AV.plain (Aa (opt 0 rfl)) rfl)⟩, ⟨rfl, fun β => (AV.plain (Ak (Hc underlying39) (opt 0 rfl) (DZ (ec _))) rfl)⟩, trivial⟩
 clear h
 intro β a w h
 change Ar c [.slot 0 (An Ag.ck a_0), .slot 4 (Gf a_0)] a w at h
 clear β
 show Code.wp prog _ _ a w
 obtain ⟨b0, hb0, h⟩ := h.OT 1 rfl
 change Ar c [.slot 0 (An Ag.ck a_0), .slot 4 (AE b0)] a w at h
 refine D6 h 1 rfl (fun hb => ?_) (fun hb => ?_)
 ·obtain rfl := hb0 hb
  replace h := h.sub [] (by rfl)
  change Ar c [] a w at h
  refine wp_seq ?_
  refine CL (n := 8) [.slot 2 100000 100000 (fun _ _ => (Am (.slice none 0 0)))] [0] [⟨[], [], [0], [], some 2⟩] [0] mixed hn hG h (by kernel_rfl) ?_ ?_
  ·exact ⟨⟨rfl, fun β => (AV.plain (Ad (DZ (ec _))) rfl)⟩, trivial⟩
  clear h
  intro β a w h
  change Ar c [.slot 2 (Am (.slice none 0 0))] a w at h
  clear β
  replace h := h.NR 110 65 Ag.ck
  show Code.wp prog _ _ a w
  refine wp_ret ?_
  exact ⟨.inl rfl, K4 (p := .slice none 0 0) h results59 (Bc 0 rfl) [1] _ rfl rfl rfl⟩
 ·replace h := h.sub [0] (by rfl)
  change Ar c [.slot 0 (An Ag.ck a_0)] a w at h
  refine wp_skip ?_
  show Code.wp prog _ _ a w
  refine wp_seq ?_
  refine CL (n := 8) [.slot 5 0 100000 (fun v _ => (Am v)), .res 0 100000 (fun v _ => (own v 110 65 Ag.ck ([] : List (Ag)))), .slot 6 100000 100000 (fun _ _ => (An Ag.ck a_0)), .slot 7 2 100000 (fun v _ => (Am v)), .res 2 100000 (fun v _ => (own v 110 65 Ag.ck (([] : List (Ag)) ++ a_0))), .slot 2 2 100000 (fun v _ => (Am v))] [0, 0, 1, 2, 2, 3] [⟨[], [], [1, 2], [], some 5⟩, ⟨[0], [], [3], [0], some 6⟩, ⟨[1, 3], [2], [4, 5], [0, 1], some 7⟩, ⟨[4], [], [6], [0, 1, 2], some 2⟩] [6, 5] mixed hn hG h (by kernel_rfl) ?_ ?_
  ·exact ⟨⟨rfl, fun β => (AV.plain (K9 underlying39 sizeOf110 zeroValue110) rfl)⟩, ⟨rfl, fun β => (AV.plain (Aa (opt 0 rfl)) rfl)⟩, ⟨rfl, fun β => (AV.plain (GB (i := t110) underlying39 type110 rfl Ag.lens (by decide) rfl (opt 0 rfl) (opt 1 rfl) ⟨by simpa using hm, by rw [List.length_nil, Nat.zero_add]; exact hv1⟩) rfl)⟩, ⟨rfl, fun β => (AV.plain (Ad (V := Am (β 2)) (opt 0 rfl)) rfl)⟩, trivial⟩
  clear h
  intro β a w h
  change Ar c [.slot 2 (Am (β 2)), .res (own (β 2) 110 65 Ag.ck a_0)] a w at h
  generalize β 2 = p at h
  clear β
  show Code.wp prog _ _ a w
  refine wp_ret ?_
  exact ⟨.inl rfl, K4 (p := p) h results59 (Bc 0 rfl) [1] _ rfl rfl rfl⟩

def Bb.j3 (r7 : (List UInt8) × (Option AP)) (x23 : Ae) : Option (Ae × Int × (Option AP)) := some (x23, 0, r7.2)
def Bb.j2 (a_1 : Ae) (a_3 : List UInt8) (r7 : (List UInt8) × (Option AP)) (r11 : Int) (x16 : Bool) : Option (Ae × Int × (Option AP)) := (if x16 = true then some (a_1, 6, r7.2) else ((BW a_1.AH).bind fun r18 => (if (decide ((0 : Int) ≤ r11)) = true then (if (0 : Int) ≤ r11 ∧ r11 < r18.length then Bb.j3 r7 (Ae.mk a_1.BZ a_1.CA a_1.Ch a_1.B3 a_1.CE a_1.BI a_1.BY (r18.set r11.toNat (Ag.mk a_3 1 r7.1)) a_1.BU a_1.Ds) else none) else (if r18.length + [(Ag.mk a_3 1 r7.1)].length ≤ CG ∧ (r18.length + [(Ag.mk a_3 1 r7.1)].length) * 72 ≤ 140737488355328 then Bb.j3 r7 (Ae.mk a_1.BZ a_1.CA a_1.Ch a_1.B3 a_1.CE a_1.BI a_1.BY (r18 ++ [(Ag.mk a_3 1 r7.1)]) a_1.BU a_1.Ds) else none))))
def Bb.j1 (a_1 : Ae) (a_3 : List UInt8) (r7 : (List UInt8) × (Option AP)) (r11 : Int) (x14 : Bool) : Option (Ae × Int × (Option AP)) := (if x14 = true then some (a_1, 37, r7.2) else (if (decide (r11 < (0 : Int))) = true then Bb.j2 a_1 a_3 r7 r11 (decide ((4096 : Int) ≤ (a_1.AH.length : Int))) else Bb.j2 a_1 a_3 r7 r11 false))
def Bb (L_0 : Option AP) (a_1 : Ae) (a_2 : Int) (a_3 : List UInt8) (a_4 : Int) (a_5 : List (List UInt8)) : Option (Ae × Int × (Option AP)) := ((CF a_1).bind fun r4 => (if (!decide (r4 = (0 : Int))) = true then some (a_1, r4, L_0) else (if (!decide ((a_5.length : Int) = (32 : Int))) = true then some (a_1, 35, L_0) else ((By L_0 a_3 a_4 a_5).bind fun r7 => ((CX a_1 r7.1 a_2).bind fun r9 => (if (!decide (r9 = (0 : Int))) = true then some (a_1, r9, r7.2) else ((DT a_1 a_3).bind fun r11 => (if (decide ((0 : Int) ≤ r11)) = true then (if (0 : Int) ≤ r11 ∧ r11 < a_1.AH.length then Bb.j1 a_1 a_3 r7 r11 (decide (((a_1.AH.getD r11.toNat default).BX) = (2 : Int))) else none) else Bb.j1 a_1 a_3 r7 r11 false))))))))
theorem Ia {p_0 : Value} {L_0 : Option AP} {a_1 : Ae} {a_2 : Int} {a_3 : List UInt8} {a_4 : Int} {a_5 : List (List UInt8)} {r : Ae × Int × (Option AP)} (hF : Bb L_0 a_1 a_2 a_3 a_4 a_5 = some r) : Az prog KG 23 [(Am p_0), (AG (Ae.ck a_1)), (Ab .u64 a_2), (AG [Af 32 a_3]), (Ab .u32 a_4), (An (dC 32) a_5)] [(AO p_0 L_0)] (fun _ => [AO p_0 r.2.2]) (CV [(AG (Ae.ck r.1)), (Ab .i64 r.2.1)]) := by
 refine Az.intro 89 func23 rfl ntmps23 (Nat.le_of_ble_eq_true rfl) ?_
 intro c a w hG hn h
 unfold Bb at hF
 change Ar c [.slot 0 (Am p_0), .slot 1 (AG (Ae.ck a_1)), .slot 2 (Ab .u64 a_2), .slot 3 (AG [Af 32 a_3]), .slot 4 (Ab .u32 a_4), .slot 5 (An (dC 32) a_5), .res (AO p_0 L_0)] a w at h
 refine Ao mixed hn hG h [0, 2, 4, 5, 506, 504, 502, 6, 505, 503, 501] (ob [1] (BF q0 (Al _)) <| ob [3] (BF q0 (Al _)) <| ob [] (AJ zeroValue41 Qy) <| ov [] (Ad qi) .nil) fun b1 a w h => ?_
 refine wp_seq ?_
 obtain ⟨r4, hr4, hF⟩ := bind_some hF
 refine Ao mixed hn hG h [0, 1, 2, 3, 4, 5, 6, 500, 7, 8, 9, 10] (ov [4, 8] (AA 1 isAgg41 sizeOf41 q0) <| oc [500] [] call56 (GI hr4) ⟨q0, trivial⟩ <| ov [500] (Ad q0) .nil) fun _ a w h => ?_
 refine Ao mixed hn hG h [0, 1, 2, 3, 4, 5, 6, 7, 500, 8, 9, 10, 11] (ov [7] (Aa q0) <| ov [500] (Ak C2 q0 qi) .nil) fun _ a w h => ?_
 refine DL h hF 8 [4, 6, 7, 9, 10, 12] [0, 1, 2, 3, 4, 5, 6, 9, 10, 11, 12] (fun hb5 hF h => ?_) (fun hb5 hF h => ?_)
 ·refine Ao mixed hn hG h [1, 500, 3, 501] (ov [0, 4] (AA 1 isAgg41 sizeOf41 q0) <| ov [2] (Aa q0) <| ou [1, 501] 5 (Aq sizeOf41 q0 q1 (Al _)) <| ov [501] (Ad q0) .nil) fun _ a w h => ?_
  refine wp_ret ?_
  obtain rfl := Option.some.inj hF
  exact ⟨.inl rfl, Es h (rs := [.cell 12 41, .tmp 13]) (Vs := [(AG (Ae.ck a_1)), (Ab .i64 r4)]) results23 (by decide) ⟨(Bs 0 3 rfl rfl isAgg41 sizeOf41 rfl), (Bc 1 rfl), trivial⟩ [2] [(AO p_0 L_0)] rfl rfl rfl⟩
 ·refine wp_skip ?_
  show Code.wp prog _ _ a w
  refine wp_seq ?_
  refine Ao mixed hn hG h [0, 1, 2, 3, 4, 5, 6, 500, 7, 8, 9, 10] (ov [3] (Aa q0) <| ov [500] (A4 underlying27 q0) <| ov [500] (Ak C2 q0 qi) .nil) fun _ a w h => ?_
  refine DL h hF 7 [4, 6, 8, 9, 11] [0, 1, 2, 3, 4, 5, 6, 8, 9, 10, 11] (fun hb6 hF h => ?_) (fun hb6 hF h => ?_)
  ·refine Ao mixed hn hG h [1, 500, 2, 501] (ov [0, 3] (AA 1 isAgg41 sizeOf41 q0) <| ou [1, 500] 4 (Aq sizeOf41 q0 q1 (Al _)) <| ov [] (Ad qi) .nil) fun _ a w h => ?_
   refine wp_ret ?_
   obtain rfl := Option.some.inj hF
   exact ⟨.inl rfl, Es h (rs := [.cell 12 41, .tmp 13]) (Vs := [(AG (Ae.ck a_1)), (Ab .i64 35)]) results23 (by decide) ⟨(Bs 0 3 rfl rfl isAgg41 sizeOf41 rfl), (Bc 1 rfl), trivial⟩ [2] [(AO p_0 L_0)] rfl rfl rfl⟩
  ·refine wp_skip ?_
   show Code.wp prog _ _ a w
   obtain ⟨r7, hr7, hF⟩ := bind_some hF
   refine Ao mixed hn hG h [1, 4, 5, 6, 502, 8, 9, 10, 503, 500] (ov [0] (Aa q0) <| ov [5, 9] (AA 1 isAgg33 sizeOf33 q0) <| ov [2] (Aa q0) <| ov [3] (Aa q0) <| oc [503, 502, 501, 500] [7] call57 (IS hr7) ⟨q0, q1, q2, q3, trivial⟩ <| ob [] (AJ zeroValue33 GN) <| og [501, 503] [500] [.res 5 100000 (fun v1_ _ => (lb (v1_) 33 [Af 32 r7.1]))] (AV.plain (Aq sizeOf33 q0 q1 (Al _)) rfl) .nil) fun b8 a w h => ?_
   refine wp_seq ?_
   obtain ⟨r9, hr9, hF⟩ := bind_some hF
   refine Ao mixed hn hG h [1, 2, 3, 4, 500, 5, 6, 7, 8, 9] (ov [1, 5] (AA 1 isAgg41 sizeOf41 q0) <| ov [4, 9] (AA 1 isAgg33 sizeOf33 q0) <| ov [0] (Aa q0) <| oc [502, 501, 500] [] call58 (Eu hr9) ⟨q0, q1, q2, trivial⟩ <| ov [500] (Ad q0) .nil) fun _ a w h => ?_
   refine Ao mixed hn hG h [0, 1, 2, 3, 4, 500, 5, 6, 7, 8, 9] (ov [4] (Aa q0) <| ov [500] (Ak C2 q0 qi) .nil) fun _ a w h => ?_
   refine DL h hF 5 [0, 2, 4, 6, 8, 9] [0, 1, 2, 3, 6, 7, 8, 9, 10] (fun hb10 hF h => ?_) (fun hb10 hF h => ?_)
   ·refine Ao mixed hn hG h [1, 500, 501, 5] (ov [0, 3] (AA 1 isAgg41 sizeOf41 q0) <| ov [2] (Aa q0) <| ou [1, 501] 4 (Aq sizeOf41 q0 q1 (Al _)) <| ov [501] (Ad q0) .nil) fun _ a w h => ?_
    refine wp_ret ?_
    obtain rfl := Option.some.inj hF
    exact ⟨.inl rfl, Es h (rs := [.cell 12 41, .tmp 13]) (Vs := [(AG (Ae.ck a_1)), (Ab .i64 r9)]) results23 (by decide) ⟨(Bs 0 2 rfl rfl isAgg41 sizeOf41 rfl), (Bc 1 rfl), trivial⟩ [3] [(AO p_0 r7.2)] rfl rfl rfl⟩
   ·refine wp_skip ?_
    show Code.wp prog _ _ a w
    obtain ⟨r11, hr11, hF⟩ := bind_some hF
    refine Ao mixed hn hG h [0, 1, 2, 3, 500, 4, 5, 6, 7, 8] (ov [0, 4] (AA 1 isAgg41 sizeOf41 q0) <| ov [1, 5] (AA 1 isAgg33 sizeOf33 q0) <| oc [501, 500] [] call41 (Ff hr11) ⟨q0, q1, trivial⟩ <| ov [500] (Ad q0) .nil) fun _ a w h => ?_
    refine Ao mixed hn hG h [0, 2, 4, 502, 5, 7, 8, 500] (ov [1, 6] (AA 1 isAgg33 sizeOf33 q0) <| ov [3, 9] (AA 1 isAgg33 sizeOf33 q0) <| ov [501, 500] (Dc [(0, .tmp 45), (1, .const (.int .i64 1)), (2, .tmp 46)] rfl Q9 QH ⟨[], [Af 32 (List.replicate 32 0)], [one (Ab .i64 (0 : Int)), Af 32 (List.replicate 32 0)], [Af 32 a_3], _, rfl, rfl, rfl, q0, (Al _), ⟨[Af 32 a_3], [one (Ab .i64 (0 : Int))], [Af 32 (List.replicate 32 0)], [one (Ab .i64 1)], _, rfl, rfl, rfl, qi, (Ap (AK _ _)), ⟨[Af 32 a_3, one (Ab .i64 1)], [Af 32 (List.replicate 32 0)], [], [Af 32 r7.1], _, rfl, rfl, rfl, q1, (Al _), rfl⟩⟩⟩) <| ob [] (AJ zeroValue110 QH) <| og [501, 502] [500] [.res 3 100000 (fun v1_ _ => (lb (v1_) 110 [Af 32 a_3, one (Ab .i64 1), Af 32 r7.1]))] (AV.plain (Aq sizeOf110 q0 q1 (Al _)) rfl) .nil) fun b12 a w h => ?_
    refine wp_seq ?_
    refine wp_block ?_
    refine wp_seq ?_
    refine wp_cut (fun a w => ∃ (x14 : Bool), Bb.j1 a_1 a_3 r7 r11 x14 = some r ∧ Ar c [.slot 7 (Au (b1 0) 0), .slot 12 (Au (b1 2) 0), .slot 17 (Ab .i64 r11), .slot 18 (Au (b12 3) 0), .slot 48 (AE x14), .res (lb (b1 0) 41 (Ae.ck a_1)), .res (lb (b1 2) 41 [one (Ab .u32 (0 : Int)), one (Ab .u32 (0 : Int)), Af 32 (List.replicate 32 0), one (An (dC 32) []), one (Ab .u64 (0 : Int)), Af 32 (List.replicate 32 0), one (An Av.ck []), one (An Ag.ck []), one (AE false), one (AE false)]), .res (AO p_0 r7.2), .res (lb (b12 3) 110 [Af 32 a_3, one (Ab .i64 1), Af 32 r7.1])] a w) ?_ ?_
    ·rcases Bool.eq_false_or_eq_true (decide ((0 : Int) ≤ r11)) with hb29 | hb29
     ·replace hF := EM hb29 hF
      obtain ⟨hv13, hF⟩ := Ay hF
      refine CY mixed hn hG h [0, 1, 2, 3, 500, 4, 5, 6, 7] (ov [2] (Aa q0) <| ov [500] (Ak DJ q0 qi) <| ov [500] (Aa q0) <| oe [500, 0] [] (AV.AT hb29 rfl rfl rfl (Aj (p := (b1 0)) (n := 1) 0 69 underlying41 rfl sizeOf39 (by decide) q0 rfl)) <| oe [501, 500, 4] [] (AV.AT hb29 rfl rfl rfl (AB ((Ae.ck a_1).take 7) ((Ae.ck a_1).drop 8) 1 isAgg39 q0 rfl rfl)) <| oe [502, 2] [] (AV.AT hb29 rfl rfl rfl (Aa q0)) <| oe [503, 501, 500] [] (AV.AT hb29 rfl rfl rfl (AL underlying39 sizeOf110 Ag.lens q0 q1 hv13)) <| oe [504, 500] [] (AV.AT hb29 rfl rfl rfl (Ct (n := 1) [Af 32 ((a_1.AH.getD r11.toNat default).BP)] _ underlying110 rfl sizeOf3 (by decide) q0 rfl)) <| oe [505, 500] [] (AV.AT hb29 rfl rfl rfl (BH [Af 32 ((a_1.AH.getD r11.toNat default).Cw)] isAgg3 q0)) <| oe [506, 500] [] (AV.AT hb29 rfl rfl rfl (Ak C3 q0 qi)) <| ov [507, 500] (Bu hb29 q0 q1) <| ov [500] (Ad q0) .nil) fun _ a w h => ?_
      exact ⟨decide (((a_1.AH.getD r11.toNat default).BX) = (2 : Int)), hF, h.sub [0, 1, 2, 3, 4, 5, 6, 7, 8] (by rfl)⟩
     ·replace hF := EO hb29 hF
      refine CY mixed hn hG h [0, 1, 2, 3, 500, 4, 5, 6, 7] (ov [2] (Aa q0) <| ov [500] (Ak DJ q0 qi) <| ov [500] (Aa q0) <| oe [500] [] (AV.AZ (want := true) hb29 rfl rfl rfl rfl) <| oe [501] [] (AV.AZ (want := true) hb29 rfl rfl rfl rfl) <| oe [502] [] (AV.AZ (want := true) hb29 rfl rfl rfl rfl) <| oe [503] [] (AV.AZ (want := true) hb29 rfl rfl rfl rfl) <| oe [504] [] (AV.AZ (want := true) hb29 rfl rfl rfl rfl) <| oe [505] [] (AV.AZ (want := true) hb29 rfl rfl rfl rfl) <| oe [506] [] (AV.AZ (want := true) hb29 rfl rfl rfl rfl) <| ov [507] (Bq hb29 q0 qb) <| ov [500] (Ad q0) .nil) fun _ a w h => ?_
      exact ⟨false, hF, h.sub [0, 1, 2, 3, 4, 5, 6, 7, 8] (by rfl)⟩
    ·clear h hF
     rintro a w ⟨x14, hF, h⟩
     unfold Bb.j1 at hF
     show Code.wp prog _ _ a w
     refine DL h hF 4 [0, 1, 5, 6, 7] [0, 1, 2, 3, 5, 6, 7, 8] (fun hb15 hF h => ?_) (fun hb15 hF h => ?_)
     ·refine Ao mixed hn hG h [1, 500, 501, 4] (ov [0, 2] (AA 1 isAgg41 sizeOf41 q0) <| ou [1, 500] 3 (Aq sizeOf41 q0 q1 (Al _)) <| ov [] (Ad qi) .nil) fun _ a w h => ?_
      refine wp_ret ?_
      obtain rfl := Option.some.inj hF
      exact ⟨.inl rfl, Es h (rs := [.cell 12 41, .tmp 13]) (Vs := [(AG (Ae.ck a_1)), (Ab .i64 37)]) results23 (by decide) ⟨(Bs 0 2 rfl rfl isAgg41 sizeOf41 rfl), (Bc 1 rfl), trivial⟩ [3] [(AO p_0 r7.2)] rfl rfl rfl⟩
     ·refine wp_seq ?_
      refine wp_cut (fun a w => ∃ (x16 : Bool), Bb.j2 a_1 a_3 r7 r11 x16 = some r ∧ Ar c [.slot 7 (Au (b1 0) 0), .slot 12 (Au (b1 2) 0), .slot 17 (Ab .i64 r11), .slot 18 (Au (b12 3) 0), .slot 61 (AE x16), .res (lb (b1 0) 41 (Ae.ck a_1)), .res (lb (b1 2) 41 [one (Ab .u32 (0 : Int)), one (Ab .u32 (0 : Int)), Af 32 (List.replicate 32 0), one (An (dC 32) []), one (Ab .u64 (0 : Int)), Af 32 (List.replicate 32 0), one (An Av.ck []), one (An Ag.ck []), one (AE false), one (AE false)]), .res (AO p_0 r7.2), .res (lb (b12 3) 110 [Af 32 a_3, one (Ab .i64 1), Af 32 r7.1])] a w) ?_ ?_
      ·rcases Bool.eq_false_or_eq_true (decide (r11 < (0 : Int))) with hb28 | hb28
       ·replace hF := EM hb28 hF
        refine CY mixed hn hG h [0, 1, 2, 3, 500, 4, 5, 6, 7] (ov [2] (Aa q0) <| ov [500] (Ak Bl q0 qi) <| ov [500] (Aa q0) <| oe [500, 0] [] (AV.AT hb28 rfl rfl rfl (Aj (p := (b1 0)) (n := 1) 0 69 underlying41 rfl sizeOf39 (by decide) q0 rfl)) <| oe [501, 500, 4] [] (AV.AT hb28 rfl rfl rfl (AB ((Ae.ck a_1).take 7) ((Ae.ck a_1).drop 8) 1 isAgg39 q0 rfl rfl)) <| oe [502, 500] [] (AV.AT hb28 rfl rfl rfl (A4 underlying39 q0)) <| oe [503, 500] [] (AV.AT hb28 rfl rfl rfl (Ak DJ q0 qi)) <| ov [504, 500] (Bu hb28 q0 q1) <| ov [500] (Ad q0) .nil) fun _ a w h => ?_
        exact ⟨decide ((4096 : Int) ≤ (a_1.AH.length : Int)), hF, h.sub [0, 1, 2, 3, 4, 5, 6, 7, 8] (by rfl)⟩
       ·replace hF := EO hb28 hF
        refine CY mixed hn hG h [0, 1, 2, 3, 500, 4, 5, 6, 7] (ov [2] (Aa q0) <| ov [500] (Ak Bl q0 qi) <| ov [500] (Aa q0) <| oe [500] [] (AV.AZ (want := true) hb28 rfl rfl rfl rfl) <| oe [501] [] (AV.AZ (want := true) hb28 rfl rfl rfl rfl) <| oe [502] [] (AV.AZ (want := true) hb28 rfl rfl rfl rfl) <| oe [503] [] (AV.AZ (want := true) hb28 rfl rfl rfl rfl) <| ov [504] (Bq hb28 q0 qb) <| ov [500] (Ad q0) .nil) fun _ a w h => ?_
        exact ⟨false, hF, h.sub [0, 1, 2, 3, 4, 5, 6, 7, 8] (by rfl)⟩
      ·clear h hF
       rintro a w ⟨x16, hF, h⟩
       unfold Bb.j2 at hF
       show Code.wp prog _ _ a w
       refine DL h hF 4 [0, 1, 5, 6, 7] [0, 1, 2, 3, 5, 6, 7, 8] (fun hb17 hF h => ?_) (fun hb17 hF h => ?_)
       ·refine Ao mixed hn hG h [1, 500, 501, 4] (ov [0, 2] (AA 1 isAgg41 sizeOf41 q0) <| ou [1, 500] 3 (Aq sizeOf41 q0 q1 (Al _)) <| ov [] (Ad qi) .nil) fun _ a w h => ?_
        refine wp_ret ?_
        obtain rfl := Option.some.inj hF
        exact ⟨.inl rfl, Es h (rs := [.cell 12 41, .tmp 13]) (Vs := [(AG (Ae.ck a_1)), (Ab .i64 6)]) results23 (by decide) ⟨(Bs 0 2 rfl rfl isAgg41 sizeOf41 rfl), (Bc 1 rfl), trivial⟩ [3] [(AO p_0 r7.2)] rfl rfl rfl⟩
       ·refine wp_skip ?_
        show Code.wp prog _ _ a w
        obtain ⟨r18, hr18, hF⟩ := bind_some hF
        refine Ao mixed hn hG h [0, 1, 2, 3, 500, 5, 6, 7, 502] (ov [0] (Aj (p := (b1 0)) (n := 1) 0 69 underlying41 rfl sizeOf39 (by decide) q0 rfl) <| ov [500, 4] (AB ((Ae.ck a_1).take 7) ((Ae.ck a_1).drop 8) 1 isAgg39 q0 rfl rfl) <| og [500] [] [.slot 73 2 100000 (fun v1_ _ => (Am v1_)), .res 2 100000 (fun v1_ _ => (own (v1_) 110 65 Ag.ck r18))] (AV.plain (Jo call59 (Ez hr18) ⟨q0, trivial⟩) rfl) <| ov [0] (Aj (p := (b1 0)) (n := 1) 0 69 underlying41 rfl sizeOf39 (by decide) q0 rfl) <| og [500, 502, 501] [4] [.res 2 100000 (fun v1_ _ => (lb (b1 0) 41 [one (Ab .u32 a_1.BZ), one (Ab .u32 a_1.CA), Af 32 a_1.Ch, one (An (dC 32) a_1.B3), one (Ab .u64 a_1.CE), Af 32 a_1.BI, one (An Av.ck a_1.BY), one (Am (v1_)), one (AE a_1.BU), one (AE a_1.Ds)]))] (fun {β} => (AV.plain (B7 ((Ae.ck a_1).take 7) [one (An Ag.ck a_1.AH)] ((Ae.ck a_1).drop 8) [one (Am ((β 2)))] sizeOf39 q0 (IB 1 2 rfl rfl Kr) (Gc _) rfl rfl rfl) rfl)) .nil) fun b19 a w h => ?_
        refine wp_seq ?_
        refine Ao mixed hn hG h [0, 1, 2, 3, 500, 4, 5, 6, 7, 8] (ov [2] (Aa q0) <| ov [500] (Ak DJ q0 qi) .nil) fun _ a w h => ?_
        refine wp_cut (fun a w => ∃ (x23 : Ae), Bb.j3 r7 x23 = some r ∧ Ar c [.slot 7 (Au (b1 0) 0), .slot 12 (Au (b1 2) 0), .res (lb (b1 0) 41 (Ae.ck x23)), .res (lb (b1 2) 41 [one (Ab .u32 (0 : Int)), one (Ab .u32 (0 : Int)), Af 32 (List.replicate 32 0), one (An (dC 32) []), one (Ab .u64 (0 : Int)), Af 32 (List.replicate 32 0), one (An Av.ck []), one (An Ag.ck []), one (AE false), one (AE false)]), .res (AO p_0 r7.2)] a w) ?_ ?_
        ·refine DL h hF 4 [0, 1, 2, 3, 5, 6, 7, 8, 9] [0, 1, 3, 5, 6, 7, 8, 9] (fun hb24 hF h => ?_) (fun hb24 hF h => ?_)
         ·obtain ⟨hv25, hF⟩ := Ay hF
          refine CY mixed hn hG h [0, 1, 4, 5, 6, 500] (ov [0] (Aj (p := (b1 0)) (n := 1) 0 69 underlying41 rfl sizeOf39 (by decide) q0 rfl) <| ov [500, 4] (AB ((Ae.ck a_1).take 7) ((Ae.ck a_1).drop 8) 1 isAgg39 q0 rfl rfl) <| ov [2] (Aa q0) <| ov [3, 7] (AA 1 isAgg110 sizeOf110 q0) <| ov [502, 8, 501] (Gp 0 1 underlying39 sizeOf110 rfl rfl q2 hv25) <| ou [500, 501] 8 (HM (i := r11) (c := Ag.ck) (z := (Ag.mk a_3 1 r7.1)) Ag.lens [] (Ag.ck (r18.getD r11.toNat default)) [] [Af 32 a_3, one (Ab .i64 1), Af 32 r7.1] sizeOf110 q0 q1 (Al _) rfl rfl rfl rfl rfl hv25) .nil) fun _ a w h => ?_
          replace h := h.Kq 5 rfl
          change Ar c [.slot 7 (Au (b1 0) 0), .slot 12 (Au (b1 2) 0), .res (lb (b1 0) 41 [one (Ab .u32 a_1.BZ), one (Ab .u32 a_1.CA), Af 32 a_1.Ch, one (An (dC 32) a_1.B3), one (Ab .u64 a_1.CE), Af 32 a_1.BI, one (An Av.ck a_1.BY), one (Am (b19 2)), one (AE a_1.BU), one (AE a_1.Ds)]), .res (lb (b1 2) 41 [one (Ab .u32 (0 : Int)), one (Ab .u32 (0 : Int)), Af 32 (List.replicate 32 0), one (An (dC 32) []), one (Ab .u64 (0 : Int)), Af 32 (List.replicate 32 0), one (An Av.ck []), one (An Ag.ck []), one (AE false), one (AE false)]), .res (AO p_0 r7.2), .res (acc (b19 2) 110 65 Ag.ck (r18.set r11.toNat (Ag.mk a_3 1 r7.1)))] a w at h
          replace h := h.EY 2 5 rfl rfl (by decide)
          replace h := h.conv 2 rfl (settle (pre := ((Ae.ck a_1).take 7)) (post := ((Ae.ck a_1).drop 8)))
          replace h := h.sep 2 rfl
          replace h := h.sub [0, 1, 2, 3, 4] (by rfl)
          change Ar c [.slot 7 (Au (b1 0) 0), .slot 12 (Au (b1 2) 0), .res (lb (b1 0) 41 [one (Ab .u32 a_1.BZ), one (Ab .u32 a_1.CA), Af 32 a_1.Ch, one (An (dC 32) a_1.B3), one (Ab .u64 a_1.CE), Af 32 a_1.BI, one (An Av.ck a_1.BY), one (An Ag.ck (r18.set r11.toNat (Ag.mk a_3 1 r7.1))), one (AE a_1.BU), one (AE a_1.Ds)]), .res (lb (b1 2) 41 [one (Ab .u32 (0 : Int)), one (Ab .u32 (0 : Int)), Af 32 (List.replicate 32 0), one (An (dC 32) []), one (Ab .u64 (0 : Int)), Af 32 (List.replicate 32 0), one (An Av.ck []), one (An Ag.ck []), one (AE false), one (AE false)]), .res (AO p_0 r7.2)] a w at h
          exact ⟨(Ae.mk a_1.BZ a_1.CA a_1.Ch a_1.B3 a_1.CE a_1.BI a_1.BY (r18.set r11.toNat (Ag.mk a_3 1 r7.1)) a_1.BU a_1.Ds), hF, h.sub [0, 1, 2, 3, 4] (by rfl)⟩
         ·obtain ⟨hv26, hF⟩ := Ay hF
          refine CY mixed hn hG h [0, 1, 500, 4, 5, 502] (ov [0] (Aj (p := (b1 0)) (n := 1) 0 69 underlying41 rfl sizeOf39 (by decide) q0 rfl) <| ov [500, 3] (AB ((Ae.ck a_1).take 7) ((Ae.ck a_1).drop 8) 1 isAgg39 q0 rfl rfl) <| ov [2, 6] (AA 1 isAgg110 sizeOf110 q0) <| ov [500] (Dn (xs := [.tmp 84]) (ys := [(Ag.mk a_3 1 r7.1)]) _ rfl underlying39 sizeOf110 zeroValue110 rfl rfl (by decide) (by decide) ⟨⟨_, q0, (Al _)⟩, trivial⟩ Ag.lens) <| og [502, 500] [7] [.slot 86 4 100000 (fun v1_ _ => (Am v1_)), .res 4 100000 (fun v1_ _ => (own (v1_) 110 65 Ag.ck (r18 ++ [(Ag.mk a_3 1 r7.1)])))] (AV.plain (GB (i := t110) underlying39 type110 rfl Ag.lens (by decide) rfl q0 q1 hv26) rfl) <| ov [0] (Aj (p := (b1 0)) (n := 1) 0 69 underlying41 rfl sizeOf39 (by decide) q0 rfl) <| og [500, 502, 501] [3] [.res 4 100000 (fun v1_ _ => (lb (b1 0) 41 [one (Ab .u32 a_1.BZ), one (Ab .u32 a_1.CA), Af 32 a_1.Ch, one (An (dC 32) a_1.B3), one (Ab .u64 a_1.CE), Af 32 a_1.BI, one (An Av.ck a_1.BY), one (Am (v1_)), one (AE a_1.BU), one (AE a_1.Ds)]))] (fun {β} => (AV.plain (B7 ((Ae.ck a_1).take 7) [one (Am (b19 2))] ((Ae.ck a_1).drop 8) [one (Am ((β 4)))] sizeOf39 q0 (IB 1 2 rfl rfl Kr) (Gc _) rfl rfl rfl) rfl)) .nil) fun b27 a w h => ?_
          replace h := h.Kq 5 rfl
          change Ar c [.slot 7 (Au (b1 0) 0), .slot 12 (Au (b1 2) 0), .res (lb (b1 0) 41 [one (Ab .u32 a_1.BZ), one (Ab .u32 a_1.CA), Af 32 a_1.Ch, one (An (dC 32) a_1.B3), one (Ab .u64 a_1.CE), Af 32 a_1.BI, one (An Av.ck a_1.BY), one (Am (b27 4)), one (AE a_1.BU), one (AE a_1.Ds)]), .res (lb (b1 2) 41 [one (Ab .u32 (0 : Int)), one (Ab .u32 (0 : Int)), Af 32 (List.replicate 32 0), one (An (dC 32) []), one (Ab .u64 (0 : Int)), Af 32 (List.replicate 32 0), one (An Av.ck []), one (An Ag.ck []), one (AE false), one (AE false)]), .res (AO p_0 r7.2), .res (acc (b27 4) 110 65 Ag.ck (r18 ++ [(Ag.mk a_3 1 r7.1)]))] a w at h
          replace h := h.EY 2 5 rfl rfl (by decide)
          replace h := h.conv 2 rfl (settle (pre := ((Ae.ck a_1).take 7)) (post := ((Ae.ck a_1).drop 8)))
          replace h := h.sep 2 rfl
          replace h := h.sub [0, 1, 2, 3, 4] (by rfl)
          change Ar c [.slot 7 (Au (b1 0) 0), .slot 12 (Au (b1 2) 0), .res (lb (b1 0) 41 [one (Ab .u32 a_1.BZ), one (Ab .u32 a_1.CA), Af 32 a_1.Ch, one (An (dC 32) a_1.B3), one (Ab .u64 a_1.CE), Af 32 a_1.BI, one (An Av.ck a_1.BY), one (An Ag.ck (r18 ++ [(Ag.mk a_3 1 r7.1)])), one (AE a_1.BU), one (AE a_1.Ds)]), .res (lb (b1 2) 41 [one (Ab .u32 (0 : Int)), one (Ab .u32 (0 : Int)), Af 32 (List.replicate 32 0), one (An (dC 32) []), one (Ab .u64 (0 : Int)), Af 32 (List.replicate 32 0), one (An Av.ck []), one (An Ag.ck []), one (AE false), one (AE false)]), .res (AO p_0 r7.2)] a w at h
          exact ⟨(Ae.mk a_1.BZ a_1.CA a_1.Ch a_1.B3 a_1.CE a_1.BI a_1.BY (r18 ++ [(Ag.mk a_3 1 r7.1)]) a_1.BU a_1.Ds), hF, h.sub [0, 1, 2, 3, 4] (by rfl)⟩
        ·clear h hF
         rintro a w ⟨x23, hF, h⟩
         unfold Bb.j3 at hF
         show Code.wp prog _ _ a w
         refine Ao mixed hn hG h [1, 500, 501, 4] (ov [0, 2] (AA 1 isAgg41 sizeOf41 q0) <| ou [1, 500] 3 (Aq sizeOf41 q0 q1 (Al _)) <| ov [] (Ad qi) .nil) fun _ a w h => ?_
         refine wp_ret ?_
         obtain rfl := Option.some.inj hF
         exact ⟨.inl rfl, Es h (rs := [.cell 12 41, .tmp 13]) (Vs := [(AG (Ae.ck x23)), (Ab .i64 0)]) results23 (by decide) ⟨(Bs 0 2 rfl rfl isAgg41 sizeOf41 rfl), (Bc 1 rfl), trivial⟩ [3] [(AO p_0 r7.2)] rfl rfl rfl⟩
end Go.Proofs.YteboiefnflipjaaGreatDoor
