/- The functions' Lean twins and contracts, printed by this session's own program: part 3. -/
import Derived.Test.YtamnmljgcmbliaaDoorG2
namespace Go.Proofs.YtamnmljgcmbliaaDoor
open Go Go.RowKit Go.Proofs
set_option maxRecDepth 100000
set_option maxHeartbeats 4000000
set_option linter.unusedVariables false
def ref05_Word.b2 (a_1 : List UInt8) (a_2 : Int) (x54 : Int) (x90 : Int) (x91 : Option O_RLog) (x92 : List (UInt8)) : Option (Flow ((List UInt8) × (Option O_RLog)) (Int × (Option O_RLog) × (List (UInt8)))) := (if (decide (x90 < (2 : Int))) = true then ((ref05_Secret x91 a_1 a_2 x54 x90).bind fun r105 => ((ref05_Public r105.2 r105.1).bind fun r106 => ((ref03_Bytes r106.1).bind fun r107 => (if x92.length + r107.length ≤ mxl ∧ (x92.length + r107.length) * 1 ≤ 140737488355328 then some (.cont (IntKind.wrap .i64 (x90 + 1), r106.2, x92 ++ r107)) else none)))) else some (.brk (x90, x91, x92)))
def ref05_Word.b1 (a_1 : List UInt8) (a_2 : Int) (x54 : Int) (x55 : Option O_RLog) (x56 : List (UInt8)) : Option (Flow ((List UInt8) × (Option O_RLog)) (Int × (Option O_RLog) × (List (UInt8)))) := (if (decide (x54 < (32 : Int))) = true then ((loopN (fun s : Int × (Option O_RLog) × (List (UInt8)) => ref05_Word.b2 a_1 a_2 x54 s.1 s.2.1 s.2.2) ((2 - 0 : Int).toNat + 2) (0, x55, x56)).bind fun cr => match cr with | .ret r => some (.ret r) | .next (y114, y115, y116) => some (.cont (IntKind.wrap .i64 (x54 + 1), y115, y116))) else some (.brk (x54, x55, x56)))
def ref05_Word (L_0 : Option O_RLog) (a_1 : List UInt8) (a_2 : Int) : Option ((List UInt8) × (Option O_RLog)) := ((loopN (fun s : Int × (Option O_RLog) × (List (UInt8)) => ref05_Word.b1 a_1 a_2 s.1 s.2.1 s.2.2) ((32 - 0 : Int).toNat + 2) (0, L_0, [])).bind fun cr => match cr with | .ret r => some r | .next (y121, y122, y123) => ((ref04_Log_Of y122 3 [y123]).bind fun r124 => some (r124.1, r124.2)))
theorem ref05_Word_ok {p_0 : Value} {L_0 : Option O_RLog} {a_1 : List UInt8} {a_2 : Int} {r : (List UInt8) × (Option O_RLog)} (hF : ref05_Word L_0 a_1 a_2 = some r) : CallOk Tryd.prog KG 55 [(eqVP p_0), (aggVP [bytesCk 32 a_1]), (intVP .i64 a_2)] [(RLog_e p_0 L_0)] (fun _ => [RLog_e p_0 r.2]) (aggVP [bytesCk 32 r.1]) := by
  refine CallOk.intro 34 Tryd.func55 rfl Tryd.ntmps55 (Nat.le_of_ble_eq_true rfl) ?_
  intro c a w hG hn h
  unfold ref05_Word at hF
  change SatL c [.slot 0 (eqVP p_0), .slot 1 (aggVP [bytesCk 32 a_1]), .slot 2 (intVP .i64 a_2), .res (RLog_e p_0 L_0)] a w at h
  refine regS mixed hn hG h [0, 2, 503, 501, 3, 502, 500] (ob [1] (op_box q0 (cells_agg _)) <| ob [] (op_alloc Tryd.zeroValue23 z23) .nil) fun b1 a w h => ?_
  refine regS mixed hn hG h [0, 1, 2, 3, 500, 4, 5, 6] (ov [] (op_assign (opc (ec _))) .nil) fun _ a w h => ?_
  refine wp_seq ?_
  refine regS mixed hn hG h [0, 1, 2, 3, 4, 500, 5, 6, 7] (ov [] (op_assign qi) .nil) fun _ a w h => ?_
  refine wp_block ?_
  obtain ⟨q32, h⟩ : ∃ q32 : Value, SatL c [.slot 0 (eqVP p_0), .slot 2 (intVP .i64 a_2), .slot 4 (lpVP (b1 0) 0), .slot 6 (lpVP (b1 1) 0), .slot 7 (eqVP q32), .slot 8 (intVP .i64 0), .res (RLog_e p_0 L_0), .res (lb (b1 0) 23 [bytesCk 32 a_1]), .res (lb (b1 1) 23 [bytesCk 32 (List.replicate 32 0)]), .res (acc q32 5 1 bC [])] a w := ⟨.slice none 0 0, (h.nilacc 5 1 bC).sub [0, 1, 2, 3, 4, 5, 6, 7, 8, 9] (by rfl)⟩
  obtain ⟨cr117, hl118, hF⟩ := bind_some hF
  refine wp_mono (wp_loopN (R := (List UInt8) × (Option O_RLog)) (S := Int × (Option O_RLog) × (List (UInt8))) (fun s a w => ∃ q57 : Value, SatL c [.slot 0 (eqVP p_0), .slot 2 (intVP .i64 a_2), .slot 4 (lpVP (b1 0) 0), .slot 6 (lpVP (b1 1) 0), .slot 7 (eqVP q57), .slot 8 (intVP .i64 s.1), .res (RLog_e p_0 s.2.1), .res (lb (b1 0) 23 [bytesCk 32 a_1]), .res (lb (b1 1) 23 [bytesCk 32 (List.replicate 32 0)]), .res (acc q57 5 1 bC s.2.2)] a w) (fun res e a w => match res with | .next s => e = .exit 0 ∧ ∃ q57 : Value, SatL c [.slot 0 (eqVP p_0), .slot 6 (lpVP (b1 1) 0), .slot 7 (eqVP q57), .res (RLog_e p_0 s.2.1), .res (lb (b1 1) 23 [bytesCk 32 (List.replicate 32 0)]), .res (acc q57 5 1 bC s.2.2)] a w | .ret r => e = .ret ∧ RetOk Tryd.prog Tryd.f55 c (aggVP [bytesCk 32 r.1]) (fun _ => [RLog_e p_0 r.2]) a w) ?_ _ (0, L_0, []) _ _ _ ⟨q32, (h.sub [0, 1, 2, 3, 4, 5, 6, 7, 8, 9] (by rfl))⟩ hl118) ?_
  · clear hl118 hF h
    intro s a w o h hF
    obtain ⟨x54, x55, x56⟩ := s
    obtain ⟨q57, h⟩ := h
    change ref05_Word.b1 a_1 a_2 x54 x55 x56 = some o at hF
    unfold ref05_Word.b1 at hF
    change SatL c [.slot 0 (eqVP p_0), .slot 2 (intVP .i64 a_2), .slot 4 (lpVP (b1 0) 0), .slot 6 (lpVP (b1 1) 0), .slot 7 (eqVP q57), .slot 8 (intVP .i64 x54), .res (RLog_e p_0 x55), .res (lb (b1 0) 23 [bytesCk 32 a_1]), .res (lb (b1 1) 23 [bytesCk 32 (List.replicate 32 0)]), .res (acc q57 5 1 bC x56)] a w at h
    refine wp_seq ?_
    refine regS mixed hn hG h [0, 1, 2, 3, 4, 5, 500, 6, 7, 8, 9] (ov [5] (op_move q0) <| ov [500] (op_bin bin_lss q0 qi) .nil) fun _ a w h => ?_
    refine cnd h hF 6 [0, 1, 2, 3, 4, 5, 7, 8, 9, 10] [0, 1, 2, 3, 4, 5, 7, 8, 9, 10] (fun hb83 hF h => ?_) (fun hb83 hF h => ?_)
    · refine wp_skip ?_
      show Code.wp Tryd.prog _ _ a w
      refine wp_seq ?_
      refine wp_block ?_
      refine regS mixed hn hG h [0, 1, 2, 3, 4, 5, 500, 6, 7, 8, 9] (ov [] (op_assign qi) .nil) fun _ a w h => ?_
      refine wp_block ?_
      obtain ⟨cr110, hl111, hF⟩ := bind_some hF
      refine wp_mono (wp_loopN (R := (List UInt8) × (Option O_RLog)) (S := Int × (Option O_RLog) × (List (UInt8))) (fun s a w => ∃ q93 : Value, SatL c [.slot 0 (eqVP p_0), .slot 2 (intVP .i64 a_2), .slot 4 (lpVP (b1 0) 0), .slot 6 (lpVP (b1 1) 0), .slot 7 (eqVP q93), .slot 8 (intVP .i64 x54), .slot 9 (intVP .i64 s.1), .res (RLog_e p_0 s.2.1), .res (lb (b1 0) 23 [bytesCk 32 a_1]), .res (lb (b1 1) 23 [bytesCk 32 (List.replicate 32 0)]), .res (acc q93 5 1 bC s.2.2)] a w) (fun res e a w => match res with | .next s => e = .exit 2 ∧ ∃ q93 : Value, SatL c [.slot 0 (eqVP p_0), .slot 2 (intVP .i64 a_2), .slot 4 (lpVP (b1 0) 0), .slot 6 (lpVP (b1 1) 0), .slot 7 (eqVP q93), .slot 8 (intVP .i64 x54), .res (RLog_e p_0 s.2.1), .res (lb (b1 0) 23 [bytesCk 32 a_1]), .res (lb (b1 1) 23 [bytesCk 32 (List.replicate 32 0)]), .res (acc q93 5 1 bC s.2.2)] a w | .ret r => e = .ret ∧ RetOk Tryd.prog Tryd.f55 c (aggVP [bytesCk 32 r.1]) (fun _ => [RLog_e p_0 r.2]) a w) ?_ _ (0, x55, x56) _ _ _ ⟨q57, (h.sub [0, 1, 2, 3, 4, 5, 6, 7, 8, 9, 10] (by rfl))⟩ hl111) ?_
      · clear hl111 hF h
        intro s a w o h hF
        obtain ⟨x90, x91, x92⟩ := s
        obtain ⟨q93, h⟩ := h
        change ref05_Word.b2 a_1 a_2 x54 x90 x91 x92 = some o at hF
        unfold ref05_Word.b2 at hF
        change SatL c [.slot 0 (eqVP p_0), .slot 2 (intVP .i64 a_2), .slot 4 (lpVP (b1 0) 0), .slot 6 (lpVP (b1 1) 0), .slot 7 (eqVP q93), .slot 8 (intVP .i64 x54), .slot 9 (intVP .i64 x90), .res (RLog_e p_0 x91), .res (lb (b1 0) 23 [bytesCk 32 a_1]), .res (lb (b1 1) 23 [bytesCk 32 (List.replicate 32 0)]), .res (acc q93 5 1 bC x92)] a w at h
        refine wp_seq ?_
        refine regS mixed hn hG h [0, 1, 2, 3, 4, 5, 6, 500, 7, 8, 9, 10] (ov [6] (op_move q0) <| ov [500] (op_bin bin_lss q0 qi) .nil) fun _ a w h => ?_
        refine cnd h hF 7 [0, 1, 2, 3, 4, 5, 6, 8, 9, 10, 11] [0, 1, 2, 3, 4, 5, 6, 8, 9, 10, 11] (fun hb104 hF h => ?_) (fun hb104 hF h => ?_)
        · refine wp_skip ?_
          show Code.wp Tryd.prog _ _ a w
          refine wp_seq ?_
          refine wp_block ?_
          obtain ⟨r105, hr105, hF⟩ := bind_some hF
          obtain ⟨r106, hr106, hF⟩ := bind_some hF
          obtain ⟨r107, hr107, hF⟩ := bind_some hF
          obtain ⟨hv108, hF⟩ := ite_some hF
          refine reg mixed hn hG h [0, 1, 2, 3, 500, 5, 6, 8, 9, 504, 501] (ov [4] (op_move q0) <| ov [0] (op_move q0) <| ov [0] (op_move q0) <| ov [2, 8] (op_load_w 1 Tryd.isAgg23 Tryd.sizeOf23 q0) <| ov [1] (op_move q0) <| ov [5] (op_move q0) <| ov [6] (op_move q0) <| oc [504, 503, 502, 501, 500] [7] Tryd.call74 (ref05_Secret_ok hr105) ⟨q0, q1, q2, q3, (opt 4 rfl), trivial⟩ <| oc [507, 501] [500] Tryd.call73 (ref05_Public_ok hr106) ⟨q0, q1, trivial⟩ <| oc [501] [] Tryd.call61 (ref03_Bytes_ok hr107) ⟨q0, trivial⟩ <| og [511, 500] [10] [.slot 28 10 100000 (fun v1_ _ => (eqVP v1_)), .res 10 100000 (fun v1_ _ => (acc (v1_) 5 1 bC (x92 ++ r107)))] (GOk.plain (op_append_str Tryd.underlying129 Tryd.underlying9 Tryd.type5 rfl rfl rfl rfl q0 q1 hv108) rfl) <| og [501] [4] [.slot 7 10 100000 (fun v1_ _ => (eqVP v1_))] (fun {β} => (GOk.drop _ (GOk.plain (op_assign (V := (eqVP (β 10))) q0) rfl))) .nil) fun b109 a w h => ?_
          show Code.wp Tryd.prog _ _ a w
          refine reg mixed hn hG h [0, 1, 2, 3, 4, 5, 500, 7, 8, 9, 10] (ov [6] (op_move q0) <| ov [500] (op_bin bin_add q0 qi) <| od [500] 6 (op_assign q0) .nil) fun _ a w h => ?_
          obtain rfl := Option.some.inj hF
          exact ⟨rfl, (b109 10), h.sub [0, 1, 2, 3, 4, 5, 6, 9, 7, 8, 10] (by rfl)⟩
        · refine wp_exit ?_
          obtain rfl := Option.some.inj hF
          exact ⟨exit_ne _, rfl, q93, h.sub [0, 1, 2, 3, 4, 5, 7, 8, 9, 10] (by rfl)⟩
      · clear hl111
        intro e a w hq
        cases cr110 with
        | ret r112 =>
          obtain ⟨rfl, hq⟩ := hq
          obtain rfl := Option.some.inj hF
          exact ⟨ret_ne, rfl, hq⟩
        | next s113 =>
          obtain ⟨y114, y115, y116⟩ := s113
          obtain ⟨rfl, q93, h⟩ := hq
          change SatL c [.slot 0 (eqVP p_0), .slot 2 (intVP .i64 a_2), .slot 4 (lpVP (b1 0) 0), .slot 6 (lpVP (b1 1) 0), .slot 7 (eqVP q93), .slot 8 (intVP .i64 x54), .res (RLog_e p_0 y115), .res (lb (b1 0) 23 [bytesCk 32 a_1]), .res (lb (b1 1) 23 [bytesCk 32 (List.replicate 32 0)]), .res (acc q93 5 1 bC y116)] a w at h
          refine inBlock_at ?_
          show Code.wp Tryd.prog _ _ a w
          refine reg mixed hn hG h [0, 1, 2, 3, 4, 500, 6, 7, 8, 9] (ov [5] (op_move q0) <| ov [500] (op_bin bin_add q0 qi) <| od [500] 5 (op_assign q0) .nil) fun _ a w h => ?_
          obtain rfl := Option.some.inj hF
          exact ⟨rfl, q93, h.sub [0, 1, 2, 3, 4, 5, 6, 7, 8, 9] (by rfl)⟩
    · refine wp_exit ?_
      obtain rfl := Option.some.inj hF
      exact ⟨exit_ne _, rfl, q57, h.sub [0, 3, 4, 6, 8, 9] (by rfl)⟩
  · clear hl118
    intro e a w hq
    cases cr117 with
    | ret r119 =>
      obtain ⟨rfl, hq⟩ := hq
      obtain rfl := Option.some.inj hF
      exact ⟨.inl rfl, hq⟩
    | next s120 =>
      obtain ⟨y121, y122, y123⟩ := s120
      obtain ⟨rfl, q57, h⟩ := hq
      change SatL c [.slot 0 (eqVP p_0), .slot 6 (lpVP (b1 1) 0), .slot 7 (eqVP q57), .res (RLog_e p_0 y122), .res (lb (b1 1) 23 [bytesCk 32 (List.replicate 32 0)]), .res (acc q57 5 1 bC y123)] a w at h
      refine inBlock_at ?_
      show Code.wp Tryd.prog _ _ a w
      obtain ⟨r124, hr124, hF⟩ := bind_some hF
      refine regS mixed hn hG h [1, 500, 501] (ov [0] (op_move q0) <| ov [2] (op_move q0) <| ov [500, 5] (op_conv_sl_str Tryd.underlying129 Tryd.underlying5 Tryd.underlying9 (opacc 0 1 rfl rfl)) <| ov [500] (op_lit (xs := [.tmp 31]) (ys := [y123]) _ rfl Tryd.underlying101 Tryd.sizeOf9 Tryd.zeroValue9 rfl rfl (by decide) (by decide) ⟨⟨_, q0, (cells_one (one_str _))⟩, trivial⟩ lens_strC) <| oc [503, 500] [3] Tryd.call59 (ref04_Log_Of_ok hr124) ⟨q0, qi, q1, trivial⟩ <| ou [1, 501] 4 (op_store_w Tryd.sizeOf23 q0 q1 (cells_agg _)) .nil) fun _ a w h => ?_
      refine wp_ret ?_
      obtain rfl := Option.some.inj hF
      exact ⟨.inl rfl, ret1 h Tryd.results55 (r_cell 0 1 rfl rfl Tryd.isAgg23 Tryd.sizeOf23 rfl) [2] [(RLog_e p_0 r124.2)] rfl rfl rfl⟩

def ref06_New.b1 (a_1 : List UInt8) (x9 : Int) (x10 : Option O_RLog) (x11 : Option S_ref06_Signer) : Option (Flow (S_ref06_Signer × (Option O_RLog)) (Int × (Option O_RLog) × (Option S_ref06_Signer))) := (if (decide (x9 < (16 : Int))) = true then ((x11).bind fun s23 => ((ref05_Word x10 a_1 x9).bind fun r26 => (if s23.f_Leaves.length + [r26.1].length ≤ mxl ∧ (s23.f_Leaves.length + [r26.1].length) * 32 ≤ 140737488355328 then some (.cont (IntKind.wrap .i64 (x9 + 1), r26.2, (some ⟨s23.f_Seed, s23.f_Next, s23.f_Leaves ++ [r26.1]⟩))) else none))) else some (.brk (x9, x10, x11)))
def ref06_New (L_0 : Option O_RLog) (a_1 : List UInt8) : Option (S_ref06_Signer × (Option O_RLog)) := ((loopN (fun s : Int × (Option O_RLog) × (Option S_ref06_Signer) => ref06_New.b1 a_1 s.1 s.2.1 s.2.2) ((16 - 0 : Int).toNat + 2) (0, L_0, (some ⟨a_1, (0 : Int), []⟩))).bind fun cr => match cr with | .ret r => some r | .next (y33, y34, y35) => ((y35).bind fun s36 => some (s36, y34)))
theorem ref06_New_ok {p_0 : Value} {L_0 : Option O_RLog} {a_1 : List UInt8} {r : S_ref06_Signer × (Option O_RLog)} (hF : ref06_New L_0 a_1 = some r) : CallOk Tryd.prog KG 20 [(eqVP p_0), (aggVP [bytesCk 32 a_1])] [(RLog_e p_0 L_0)] (fun _ => [RLog_e p_0 r.2]) (aggVP [bytesCk 32 r.1.f_Seed, one (intVP .i64 r.1.f_Next), one (slVP (dC 32) r.1.f_Leaves)]) := by
  refine CallOk.intro 23 Tryd.func20 rfl Tryd.ntmps20 (Nat.le_of_ble_eq_true rfl) ?_
  intro c a w hG hn h
  unfold ref06_New at hF
  change SatL c [.slot 0 (eqVP p_0), .slot 1 (aggVP [bytesCk 32 a_1]), .res (RLog_e p_0 L_0)] a w at h
  refine regS mixed hn hG h [0, 503, 501, 2, 502, 500] (ob [1] (op_box q0 (cells_agg _)) <| ob [] (op_alloc Tryd.zeroValue36 zo36) .nil) fun b1 a w h => ?_
  refine regS mixed hn hG h [0, 1, 2, 501, 3, 4, 5, 500] (ob [] (op_alloc Tryd.zeroValue36 zo36) .nil) fun b3 a w h => ?_
  refine regS mixed hn hG h [0, 1, 2, 3, 4, 5, 6, 500] (ov [1, 5] (op_load_w 1 Tryd.isAgg23 Tryd.sizeOf23 q0) <| ov [3] (op_fieldAddr_lbm (p := (b3 0)) (n := 32) 0 0 Tryd.underlying36 rfl Tryd.sizeOf23 (by decide) q0 rfl) <| ou [500, 501] 7 (op_store_lb [] [bytesCk 32 (List.replicate 32 0)] [one (intVP .i64 (0 : Int)), one (eqVP (.slice none 0 0))] [bytesCk 32 a_1] Tryd.sizeOf23 q0 q1 (cells_agg _) rfl rfl rfl) .nil) fun _ a w h => ?_
  refine wp_seq ?_
  refine regS mixed hn hG h [0, 1, 2, 3, 500, 4, 5, 6, 7] (ov [] (op_assign qi) .nil) fun _ a w h => ?_
  refine wp_block ?_
  replace h := h.nilacc 23 32 (dC 32)
  replace h := h.unsep 8 9 rfl rfl (by decide)
  replace h := h.conv 8 rfl (R' := RSgn_e (b3 0) (some ⟨a_1, (0 : Int), []⟩)) (RSgn_packo (v2 := (.slice none 0 0)) (o := (some ⟨a_1, (0 : Int), []⟩)))
  replace h := h.slotc 3 rfl (fun _ _ h => lp_eqv h)
  replace h := h.sub [0, 1, 2, 3, 4, 5, 6, 7, 8] (by rfl)
  change SatL c [.slot 0 (eqVP p_0), .slot 3 (lpVP (b1 0) 0), .slot 4 (lpVP (b1 1) 0), .slot 5 (eqVP (b3 0)), .slot 6 (intVP .i64 0), .res (RLog_e p_0 L_0), .res (lb (b1 0) 23 [bytesCk 32 a_1]), .res (lb (b1 1) 36 [bytesCk 32 (List.replicate 32 0), one (intVP .i64 (0 : Int)), one (eqVP (.slice none 0 0))]), .res (RSgn_e (b3 0) (some ⟨a_1, (0 : Int), []⟩))] a w at h
  obtain ⟨cr29, hl30, hF⟩ := bind_some hF
  refine wp_mono (wp_loopN (R := S_ref06_Signer × (Option O_RLog)) (S := Int × (Option O_RLog) × (Option S_ref06_Signer)) (fun s a w => SatL c [.slot 0 (eqVP p_0), .slot 3 (lpVP (b1 0) 0), .slot 4 (lpVP (b1 1) 0), .slot 5 (eqVP (b3 0)), .slot 6 (intVP .i64 s.1), .res (RLog_e p_0 s.2.1), .res (lb (b1 0) 23 [bytesCk 32 a_1]), .res (lb (b1 1) 36 [bytesCk 32 (List.replicate 32 0), one (intVP .i64 (0 : Int)), one (eqVP (.slice none 0 0))]), .res (RSgn_e (b3 0) s.2.2)] a w) (fun res e a w => match res with | .next s => e = .exit 0 ∧ SatL c [.slot 4 (lpVP (b1 1) 0), .slot 5 (eqVP (b3 0)), .res (RLog_e p_0 s.2.1), .res (lb (b1 1) 36 [bytesCk 32 (List.replicate 32 0), one (intVP .i64 (0 : Int)), one (eqVP (.slice none 0 0))]), .res (RSgn_e (b3 0) s.2.2)] a w | .ret r => e = .ret ∧ RetOk Tryd.prog Tryd.f20 c (aggVP [bytesCk 32 r.1.f_Seed, one (intVP .i64 r.1.f_Next), one (slVP (dC 32) r.1.f_Leaves)]) (fun _ => [RLog_e p_0 r.2]) a w) ?_ _ (0, L_0, (some ⟨a_1, (0 : Int), []⟩)) _ _ _ (h.sub [0, 1, 2, 3, 4, 5, 6, 7, 8] (by rfl)) hl30) ?_
  · clear hl30 hF h
    intro s a w o h hF
    obtain ⟨x9, x10, x11⟩ := s
    change ref06_New.b1 a_1 x9 x10 x11 = some o at hF
    unfold ref06_New.b1 at hF
    change SatL c [.slot 0 (eqVP p_0), .slot 3 (lpVP (b1 0) 0), .slot 4 (lpVP (b1 1) 0), .slot 5 (eqVP (b3 0)), .slot 6 (intVP .i64 x9), .res (RLog_e p_0 x10), .res (lb (b1 0) 23 [bytesCk 32 a_1]), .res (lb (b1 1) 36 [bytesCk 32 (List.replicate 32 0), one (intVP .i64 (0 : Int)), one (eqVP (.slice none 0 0))]), .res (RSgn_e (b3 0) x11)] a w at h
    refine wp_seq ?_
    refine regS mixed hn hG h [0, 1, 2, 3, 4, 500, 5, 6, 7, 8] (ov [4] (op_move q0) <| ov [500] (op_bin bin_lss q0 qi) .nil) fun _ a w h => ?_
    refine cnd h hF 5 [0, 1, 2, 3, 4, 6, 7, 8, 9] [0, 1, 2, 3, 4, 6, 7, 8, 9] (fun hb22 hF h => ?_) (fun hb22 hF h => ?_)
    · refine wp_skip ?_
      show Code.wp Tryd.prog _ _ a w
      refine wp_seq ?_
      refine wp_block ?_
      obtain ⟨s23, hs24, hF⟩ := bind_some hF
      rw [hs24] at h
      obtain ⟨h25, h⟩ := h.ex 8 rfl
      have hp := h.isp 8 rfl (fun Φ f w q => RSgn_lp Φ f w q)
      replace h := h.slotc 3 rfl (V' := lpVP (b3 0) 0) (fun _ _ h => eq_lp h hp)
      replace h := h.sep (R := lb (b3 0) 36 [bytesCk 32 s23.f_Seed, one (intVP .i64 s23.f_Next), one (eqVP h25)]) (S := (acc h25 23 32 (dC 32) s23.f_Leaves)) 8 rfl
      replace h := h.sub [0, 1, 2, 3, 4, 5, 6, 7, 8, 9] (by rfl)
      change SatL c [.slot 0 (eqVP p_0), .slot 3 (lpVP (b1 0) 0), .slot 4 (lpVP (b1 1) 0), .slot 5 (lpVP (b3 0) 0), .slot 6 (intVP .i64 x9), .res (RLog_e p_0 x10), .res (lb (b1 0) 23 [bytesCk 32 a_1]), .res (lb (b1 1) 36 [bytesCk 32 (List.replicate 32 0), one (intVP .i64 (0 : Int)), one (eqVP (.slice none 0 0))]), .res (lb (b3 0) 36 [bytesCk 32 s23.f_Seed, one (intVP .i64 s23.f_Next), one (eqVP h25)]), .res (acc h25 23 32 (dC 32) s23.f_Leaves)] a w at h
      replace h := h.nilacc 23 32 (dC 32)
      replace h := h.sub [0, 1, 2, 3, 4, 5, 6, 7, 8, 9, 10] (by rfl)
      change SatL c [.slot 0 (eqVP p_0), .slot 3 (lpVP (b1 0) 0), .slot 4 (lpVP (b1 1) 0), .slot 5 (lpVP (b3 0) 0), .slot 6 (intVP .i64 x9), .res (RLog_e p_0 x10), .res (lb (b1 0) 23 [bytesCk 32 a_1]), .res (lb (b1 1) 36 [bytesCk 32 (List.replicate 32 0), one (intVP .i64 (0 : Int)), one (eqVP (.slice none 0 0))]), .res (lb (b3 0) 36 [bytesCk 32 s23.f_Seed, one (intVP .i64 s23.f_Next), one (eqVP h25)]), .res (acc h25 23 32 (dC 32) s23.f_Leaves), .res (acc (.slice none 0 0) 23 32 (dC 32) ([] : List (List UInt8)))] a w at h
      obtain ⟨r26, hr26, hF⟩ := bind_some hF
      obtain ⟨hv27, hF⟩ := ite_some hF
      refine reg mixed hn hG h [0, 1, 2, 3, 4, 6, 7, 500, 505, 502] (ov [3] (op_fieldAddr_lbm (p := (b3 0)) (n := 1) 0 33 Tryd.underlying36 rfl Tryd.sizeOf24 (by decide) q0 rfl) <| ov [500, 8] (op_load_lb1 [bytesCk 32 s23.f_Seed, one (intVP .i64 s23.f_Next)] [] 1 Tryd.isAgg24 q0 rfl rfl) <| ov [0] (op_move q0) <| ov [1, 6] (op_load_w 1 Tryd.isAgg23 Tryd.sizeOf23 q0) <| ov [4] (op_move q0) <| oc [502, 501, 500] [5] Tryd.call55 (ref05_Word_ok hr26) ⟨q0, q1, q2, trivial⟩ <| ov [501] (op_lit (xs := [.tmp 18]) (ys := [r26.1]) _ rfl Tryd.underlying24 Tryd.sizeOf23 Tryd.zeroValue23 rfl rfl (by decide) (by decide) ⟨⟨_, q0, (cells_agg _)⟩, trivial⟩ (lens_dC 32)) <| og [506, 500] [9] [.slot 20 7 100000 (fun v1_ _ => (eqVP v1_)), .res 7 100000 (fun v1_ _ => (acc (v1_) 23 32 (dC 32) (s23.f_Leaves ++ [r26.1])))] (GOk.plain (op_append (i := Tryd.t23) Tryd.underlying24 Tryd.type23 rfl (lens_dC 32) (by decide) rfl q0 q1 hv27) rfl) <| ov [3] (op_fieldAddr_lbm (p := (b3 0)) (n := 1) 0 33 Tryd.underlying36 rfl Tryd.sizeOf24 (by decide) q0 rfl) <| og [500, 502, 501] [8] [.res 7 100000 (fun v1_ _ => (lb (b3 0) 36 [bytesCk 32 s23.f_Seed, one (intVP .i64 s23.f_Next), one (eqVP (v1_))]))] (fun {β} => (GOk.plain (op_store_lb [bytesCk 32 s23.f_Seed, one (intVP .i64 s23.f_Next)] [one (eqVP h25)] [] [one (eqVP ((β 7)))] Tryd.sizeOf24 q0 (opone 1 2 rfl rfl acc_one) (cells_h _) rfl rfl rfl) rfl)) .nil) fun b28 a w h => ?_
      replace h := h.unsep 7 9 rfl rfl (by decide)
      replace h := h.conv 7 rfl (R' := RSgn_e (b3 0) (some ⟨s23.f_Seed, s23.f_Next, s23.f_Leaves ++ [r26.1]⟩)) (RSgn_packo (v2 := (b28 7)) (o := (some ⟨s23.f_Seed, s23.f_Next, s23.f_Leaves ++ [r26.1]⟩)))
      replace h := h.slotc 3 rfl (fun _ _ h => lp_eqv h)
      replace h := h.sub [0, 1, 2, 3, 4, 5, 6, 8, 7] (by rfl)
      change SatL c [.slot 0 (eqVP p_0), .slot 3 (lpVP (b1 0) 0), .slot 4 (lpVP (b1 1) 0), .slot 5 (eqVP (b3 0)), .slot 6 (intVP .i64 x9), .res (lb (b1 0) 23 [bytesCk 32 a_1]), .res (lb (b1 1) 36 [bytesCk 32 (List.replicate 32 0), one (intVP .i64 (0 : Int)), one (eqVP (.slice none 0 0))]), .res (RLog_e p_0 r26.2), .res (RSgn_e (b3 0) (some ⟨s23.f_Seed, s23.f_Next, s23.f_Leaves ++ [r26.1]⟩))] a w at h
      show Code.wp Tryd.prog _ _ a w
      refine reg mixed hn hG h [0, 1, 2, 3, 500, 5, 6, 7, 8] (ov [4] (op_move q0) <| ov [500] (op_bin bin_add q0 qi) <| od [500] 4 (op_assign q0) .nil) fun _ a w h => ?_
      obtain rfl := Option.some.inj hF
      exact ⟨rfl, h.sub [0, 1, 2, 3, 4, 7, 5, 6, 8] (by rfl)⟩
    · refine wp_exit ?_
      obtain rfl := Option.some.inj hF
      exact ⟨exit_ne _, rfl, h.sub [2, 3, 5, 7, 8] (by rfl)⟩
  · clear hl30
    intro e a w hq
    cases cr29 with
    | ret r31 =>
      obtain ⟨rfl, hq⟩ := hq
      obtain rfl := Option.some.inj hF
      exact ⟨.inl rfl, hq⟩
    | next s32 =>
      obtain ⟨y33, y34, y35⟩ := s32
      obtain ⟨rfl, h⟩ := hq
      change SatL c [.slot 4 (lpVP (b1 1) 0), .slot 5 (eqVP (b3 0)), .res (RLog_e p_0 y34), .res (lb (b1 1) 36 [bytesCk 32 (List.replicate 32 0), one (intVP .i64 (0 : Int)), one (eqVP (.slice none 0 0))]), .res (RSgn_e (b3 0) y35)] a w at h
      refine inBlock_at ?_
      show Code.wp Tryd.prog _ _ a w
      obtain ⟨s36, hs37, hF⟩ := bind_some hF
      rw [hs37] at h
      obtain ⟨h38, h⟩ := h.ex 4 rfl
      have hp := h.isp 4 rfl (fun Φ f w q => RSgn_lp Φ f w q)
      replace h := h.slotc 1 rfl (V' := lpVP (b3 0) 0) (fun _ _ h => eq_lp h hp)
      replace h := h.sep (R := lb (b3 0) 36 [bytesCk 32 s36.f_Seed, one (intVP .i64 s36.f_Next), one (eqVP h38)]) (S := (acc h38 23 32 (dC 32) s36.f_Leaves)) 4 rfl
      replace h := h.sub [0, 1, 2, 3, 4, 5] (by rfl)
      change SatL c [.slot 4 (lpVP (b1 1) 0), .slot 5 (lpVP (b3 0) 0), .res (RLog_e p_0 y34), .res (lb (b1 1) 36 [bytesCk 32 (List.replicate 32 0), one (intVP .i64 (0 : Int)), one (eqVP (.slice none 0 0))]), .res (lb (b3 0) 36 [bytesCk 32 s36.f_Seed, one (intVP .i64 s36.f_Next), one (eqVP h38)]), .res (acc h38 23 32 (dC 32) s36.f_Leaves)] a w at h
      replace h := h.unsep 4 5 rfl rfl (by decide)
      replace h := h.conv 4 rfl (settle (pre := [bytesCk 32 s36.f_Seed, one (intVP .i64 s36.f_Next)]) (post := []))
      replace h := h.sep 4 rfl
      replace h := h.sub [0, 1, 2, 3, 4] (by rfl)
      change SatL c [.slot 4 (lpVP (b1 1) 0), .slot 5 (lpVP (b3 0) 0), .res (RLog_e p_0 y34), .res (lb (b1 1) 36 [bytesCk 32 (List.replicate 32 0), one (intVP .i64 (0 : Int)), one (eqVP (.slice none 0 0))]), .res (lb (b3 0) 36 [bytesCk 32 s36.f_Seed, one (intVP .i64 s36.f_Next), one (slVP (dC 32) s36.f_Leaves)])] a w at h
      refine regS mixed hn hG h [0, 2, 500] (ov [1, 4] (op_load_w 1 Tryd.isAgg36 Tryd.sizeOf36 q0) <| ou [0, 500] 3 (op_store_w Tryd.sizeOf36 q0 q1 (cells_agg _)) .nil) fun _ a w h => ?_
      refine wp_ret ?_
      obtain rfl := Option.some.inj hF
      exact ⟨.inl rfl, ret1 h Tryd.results20 (r_cell 0 2 rfl rfl Tryd.isAgg36 Tryd.sizeOf36 rfl) [1] [(RLog_e p_0 y34)] rfl rfl rfl⟩

def ref04_Log_Two (L_0 : Option O_RLog) (a_1 : Int) (a_2 : List UInt8) (a_3 : List UInt8) : Option ((List UInt8) × (Option O_RLog)) := ((ref03_Bytes a_2).bind fun r4 => ((ref03_Bytes a_3).bind fun r5 => ((ref04_Log_Of L_0 a_1 [r4, r5]).bind fun r6 => some (r6.1, r6.2))))
theorem ref04_Log_Two_ok {p_0 : Value} {L_0 : Option O_RLog} {a_1 : Int} {a_2 : List UInt8} {a_3 : List UInt8} {r : (List UInt8) × (Option O_RLog)} (hF : ref04_Log_Two L_0 a_1 a_2 a_3 = some r) : CallOk Tryd.prog KG 75 [(eqVP p_0), (intVP .u8 a_1), (aggVP [bytesCk 32 a_2]), (aggVP [bytesCk 32 a_3])] [(RLog_e p_0 L_0)] (fun _ => [RLog_e p_0 r.2]) (aggVP [bytesCk 32 r.1]) := by
  refine CallOk.intro 17 Tryd.func75 rfl Tryd.ntmps75 (Nat.le_of_ble_eq_true rfl) ?_
  intro c a w hG hn h
  unfold ref04_Log_Two at hF
  change SatL c [.slot 0 (eqVP p_0), .slot 1 (intVP .u8 a_1), .slot 2 (aggVP [bytesCk 32 a_2]), .slot 3 (aggVP [bytesCk 32 a_3]), .res (RLog_e p_0 L_0)] a w at h
  refine regS mixed hn hG h [0, 1, 505, 503, 501, 4, 504, 502, 500] (ob [2] (op_box q0 (cells_agg _)) <| ob [3] (op_box q0 (cells_agg _)) <| ob [] (op_alloc Tryd.zeroValue23 z23) .nil) fun b1 a w h => ?_
  obtain ⟨r4, hr4, hF⟩ := bind_some hF
  obtain ⟨r5, hr5, hF⟩ := bind_some hF
  obtain ⟨r6, hr6, hF⟩ := bind_some hF
  refine regS mixed hn hG h [4, 500, 501] (ov [0] (op_move q0) <| ov [1] (op_move q0) <| ov [2, 6] (op_load_w 1 Tryd.isAgg23 Tryd.sizeOf23 q0) <| oc [500] [] Tryd.call61 (ref03_Bytes_ok hr4) ⟨q0, trivial⟩ <| ov [3, 7] (op_load_w 1 Tryd.isAgg23 Tryd.sizeOf23 q0) <| oc [500] [] Tryd.call61 (ref03_Bytes_ok hr5) ⟨q0, trivial⟩ <| ov [502, 500] (op_lit (xs := [.tmp 12, .tmp 14]) (ys := [r4, r5]) _ rfl Tryd.underlying101 Tryd.sizeOf9 Tryd.zeroValue9 rfl rfl (by decide) (by decide) ⟨⟨_, q0, (cells_one (one_str _))⟩, ⟨_, q1, (cells_one (one_str _))⟩, trivial⟩ lens_strC) <| oc [506, 505, 500] [5] Tryd.call59 (ref04_Log_Of_ok hr6) ⟨q0, q1, q2, trivial⟩ <| ou [4, 501] 8 (op_store_w Tryd.sizeOf23 q0 q1 (cells_agg _)) .nil) fun _ a w h => ?_
  refine wp_ret ?_
  obtain rfl := Option.some.inj hF
  exact ⟨.inl rfl, ret1 h Tryd.results75 (r_cell 0 1 rfl rfl Tryd.isAgg23 Tryd.sizeOf23 rfl) [2] [(RLog_e p_0 r6.2)] rfl rfl rfl⟩

def ref06_node_s (slf : (Option O_RLog) → (List (List UInt8)) → Int → Int → Option ((List UInt8) × (Option O_RLog))) (L_0 : Option O_RLog) (a_1 : List (List UInt8)) (a_2 : Int) (a_3 : Int) : Option ((List UInt8) × (Option O_RLog)) := (if (decide (a_2 = (0 : Int))) = true then (if (0 : Int) ≤ a_3 ∧ a_3 < a_1.length then some (a_1.getD a_3.toNat default, L_0) else none) else ((slf L_0 a_1 (IntKind.wrap .i64 (a_2 - 1)) (IntKind.wrap .i64 (2 * a_3))).bind fun r4 => ((slf r4.2 a_1 (IntKind.wrap .i64 (a_2 - 1)) (IntKind.wrap .i64 ((IntKind.wrap .i64 (2 * a_3)) + 1))).bind fun r6 => ((ref04_Log_Two r6.2 4 r4.1 r6.1).bind fun r8 => some (r8.1, r8.2)))))
def ref06_node_f : Nat → (Option O_RLog) → (List (List UInt8)) → Int → Int → Option ((List UInt8) × (Option O_RLog))
  | 0, _, _, _, _ => none
  | k + 1, L_0, a_1, a_2, a_3 => ref06_node_s (ref06_node_f k) L_0 a_1 a_2 a_3
def ref06_node (L_0 : Option O_RLog) (a_1 : List (List UInt8)) (a_2 : Int) (a_3 : Int) : Option ((List UInt8) × (Option O_RLog)) := ref06_node_f 100000 L_0 a_1 a_2 a_3
theorem ref06_node_s_ok {slf : (Option O_RLog) → (List (List UInt8)) → Int → Int → Option ((List UInt8) × (Option O_RLog))} (slf_ok : ∀ {p_0 : Value} {L_0 : Option O_RLog} {a_1 : List (List UInt8)} {a_2 : Int} {a_3 : Int} {r : (List UInt8) × (Option O_RLog)}, slf L_0 a_1 a_2 a_3 = some r → CallOk Tryd.prog KG 56 [(eqVP p_0), (slVP (dC 32) a_1), (intVP .i64 a_2), (intVP .i64 a_3)] [(RLog_e p_0 L_0)] (fun _ => [RLog_e p_0 r.2]) (aggVP [bytesCk 32 r.1])) {p_0 : Value} {L_0 : Option O_RLog} {a_1 : List (List UInt8)} {a_2 : Int} {a_3 : Int} {r : (List UInt8) × (Option O_RLog)} (hF : ref06_node_s slf L_0 a_1 a_2 a_3 = some r) : CallOk Tryd.prog KG 56 [(eqVP p_0), (slVP (dC 32) a_1), (intVP .i64 a_2), (intVP .i64 a_3)] [(RLog_e p_0 L_0)] (fun _ => [RLog_e p_0 r.2]) (aggVP [bytesCk 32 r.1]) := by
  refine CallOk.intro 36 Tryd.func56 rfl Tryd.ntmps56 (Nat.le_of_ble_eq_true rfl) ?_
  intro c a w hG hn h
  unfold ref06_node_s at hF
  change SatL c [.slot 0 (eqVP p_0), .slot 1 (slVP (dC 32) a_1), .slot 2 (intVP .i64 a_2), .slot 3 (intVP .i64 a_3), .res (RLog_e p_0 L_0)] a w at h
  refine regS mixed hn hG h [0, 1, 2, 3, 501, 4, 500] (ob [] (op_alloc Tryd.zeroValue23 z23) .nil) fun b1 a w h => ?_
  refine wp_seq ?_
  refine regS mixed hn hG h [0, 1, 2, 3, 4, 500, 5, 6] (ov [2] (op_move q0) <| ov [500] (op_bin bin_eql q0 qi) .nil) fun _ a w h => ?_
  refine cnd h hF 5 [1, 3, 4, 6, 7] [0, 1, 2, 3, 4, 6, 7] (fun hb2 hF h => ?_) (fun hb2 hF h => ?_)
  · obtain ⟨hv3, hF⟩ := ite_some hF
    refine regS mixed hn hG h [2, 3, 500] (ov [0] (op_move q0) <| ov [1] (op_move q0) <| ov [501, 500] (op_indexAddr_sl Tryd.underlying24 Tryd.sizeOf23 (lens_dC 32) q0 q1 hv3) <| ov [500] (op_load_pp [bytesCk 32 (a_1.getD a_3.toNat default)] [] Tryd.isAgg23 Tryd.sizeOf23 q0 rfl) <| ou [2, 500] 4 (op_store_w Tryd.sizeOf23 q0 q1 (cells_agg _)) .nil) fun _ a w h => ?_
    refine wp_ret ?_
    obtain rfl := Option.some.inj hF
    exact ⟨.inl rfl, ret1 h Tryd.results56 (r_cell 0 2 rfl rfl Tryd.isAgg23 Tryd.sizeOf23 rfl) [1] [(RLog_e p_0 L_0)] rfl rfl rfl⟩
  · refine wp_skip ?_
    show Code.wp Tryd.prog _ _ a w
    obtain ⟨r4, hr4, hF⟩ := bind_some hF
    refine regS mixed hn hG h [0, 1, 2, 3, 4, 502, 6, 503, 500] (ov [0] (op_move q0) <| ov [1] (op_move q0) <| ov [2] (op_move q0) <| ov [500] (op_bin bin_sub q0 qi) <| ov [3] (op_move q0) <| ov [500] (op_bin bin_mul qi q0) <| oc [505, 504, 502, 500] [5] Tryd.call56 (slf_ok hr4) ⟨q0, q1, q2, q3, trivial⟩ <| ob [] (op_alloc Tryd.zeroValue23 z23) <| og [501, 503] [500] [.res 7 100000 (fun v1_ _ => (lb (v1_) 23 [bytesCk 32 r4.1]))] (GOk.plain (op_store_w Tryd.sizeOf23 q0 q1 (cells_agg _)) rfl) .nil) fun b5 a w h => ?_
    obtain ⟨r6, hr6, hF⟩ := bind_some hF
    refine regS mixed hn hG h [0, 4, 5, 502, 6, 8, 503, 500] (ov [0] (op_move q0) <| ov [1] (op_move q0) <| ov [2] (op_move q0) <| ov [500] (op_bin bin_sub q0 qi) <| ov [3] (op_move q0) <| ov [500] (op_bin bin_mul qi q0) <| ov [500] (op_bin bin_add q0 qi) <| oc [506, 505, 503, 500] [7] Tryd.call56 (slf_ok hr6) ⟨q0, q1, q2, q3, trivial⟩ <| ob [] (op_alloc Tryd.zeroValue23 z23) <| og [501, 503] [500] [.res 8 100000 (fun v1_ _ => (lb (v1_) 23 [bytesCk 32 r6.1]))] (GOk.plain (op_store_w Tryd.sizeOf23 q0 q1 (cells_agg _)) rfl) .nil) fun b7 a w h => ?_
    obtain ⟨r8, hr8, hF⟩ := bind_some hF
    refine regS mixed hn hG h [1, 500, 501] (ov [0] (op_move q0) <| ov [2, 5] (op_load_w 1 Tryd.isAgg23 Tryd.sizeOf23 q0) <| ov [3, 7] (op_load_w 1 Tryd.isAgg23 Tryd.sizeOf23 q0) <| oc [502, 501, 500] [6] Tryd.call75 (ref04_Log_Two_ok hr8) ⟨q0, qi, q1, q2, trivial⟩ <| ou [1, 501] 4 (op_store_w Tryd.sizeOf23 q0 q1 (cells_agg _)) .nil) fun _ a w h => ?_
    refine wp_ret ?_
    obtain rfl := Option.some.inj hF
    exact ⟨.inl rfl, ret1 h Tryd.results56 (r_cell 0 1 rfl rfl Tryd.isAgg23 Tryd.sizeOf23 rfl) [2] [(RLog_e p_0 r8.2)] rfl rfl rfl⟩
theorem ref06_node_f_ok : ∀ (k : Nat) {p_0 : Value} {L_0 : Option O_RLog} {a_1 : List (List UInt8)} {a_2 : Int} {a_3 : Int} {r : (List UInt8) × (Option O_RLog)}, ref06_node_f k L_0 a_1 a_2 a_3 = some r → CallOk Tryd.prog KG 56 [(eqVP p_0), (slVP (dC 32) a_1), (intVP .i64 a_2), (intVP .i64 a_3)] [(RLog_e p_0 L_0)] (fun _ => [RLog_e p_0 r.2]) (aggVP [bytesCk 32 r.1])
  | 0, _, _, _, _, _, _ => fun hF => by cases hF
  | k + 1, _, _, _, _, _, _ => fun hF => ref06_node_s_ok (fun h => ref06_node_f_ok k h) hF
theorem ref06_node_ok {p_0 : Value} {L_0 : Option O_RLog} {a_1 : List (List UInt8)} {a_2 : Int} {a_3 : Int} {r : (List UInt8) × (Option O_RLog)} (hF : ref06_node L_0 a_1 a_2 a_3 = some r) : CallOk Tryd.prog KG 56 [(eqVP p_0), (slVP (dC 32) a_1), (intVP .i64 a_2), (intVP .i64 a_3)] [(RLog_e p_0 L_0)] (fun _ => [RLog_e p_0 r.2]) (aggVP [bytesCk 32 r.1]) := ref06_node_f_ok 100000 hF

def ref06_Signer_Root (a_0 : S_ref06_Signer) (L_1 : Option O_RLog) : Option ((List UInt8) × (Option O_RLog)) := (if (!decide ((a_0.f_Leaves.length : Int) = (16 : Int))) = true then some ((List.replicate 32 0), L_1) else ((ref06_node L_1 a_0.f_Leaves 4 0).bind fun r4 => some (r4.1, r4.2)))
theorem ref06_Signer_Root_ok {p_1 : Value} {a_0 : S_ref06_Signer} {L_1 : Option O_RLog} {r : (List UInt8) × (Option O_RLog)} (hF : ref06_Signer_Root a_0 L_1 = some r) : CallOk Tryd.prog KG 21 [(aggVP [bytesCk 32 a_0.f_Seed, one (intVP .i64 a_0.f_Next), one (slVP (dC 32) a_0.f_Leaves)]), (eqVP p_1)] [(RLog_e p_1 L_1)] (fun _ => [RLog_e p_1 r.2]) (aggVP [bytesCk 32 r.1]) := by
  refine CallOk.intro 14 Tryd.func21 rfl Tryd.ntmps21 (Nat.le_of_ble_eq_true rfl) ?_
  intro c a w hG hn h
  unfold ref06_Signer_Root at hF
  change SatL c [.slot 0 (aggVP [bytesCk 32 a_0.f_Seed, one (intVP .i64 a_0.f_Next), one (slVP (dC 32) a_0.f_Leaves)]), .slot 1 (eqVP p_1), .res (RLog_e p_1 L_1)] a w at h
  refine regS mixed hn hG h [1, 503, 501, 2, 502, 500] (ob [0] (op_box q0 (cells_agg _)) <| ob [] (op_alloc Tryd.zeroValue23 z23) .nil) fun b1 a w h => ?_
  refine wp_seq ?_
  refine regS mixed hn hG h [0, 1, 2, 500, 3, 4, 5] (ov [1] (op_fieldAddr_lbm (p := (b1 0)) (n := 1) 0 33 Tryd.underlying36 rfl Tryd.sizeOf24 (by decide) q0 rfl) <| ov [500, 4] (op_load_lb1 [bytesCk 32 a_0.f_Seed, one (intVP .i64 a_0.f_Next)] [] 1 Tryd.isAgg24 q0 rfl rfl) <| ov [500] (op_len_sl Tryd.underlying24 q0) <| ov [500] (op_bin bin_neq q0 qi) .nil) fun _ a w h => ?_
  refine cnd h hF 3 [2, 4, 6] [0, 1, 2, 4, 5, 6] (fun hb3 hF h => ?_) (fun hb3 hF h => ?_)
  · refine regS mixed hn hG h [0, 1, 500] (ov [] (build0 Tryd.zeroValue23 Tryd.underlying23 Tryd.sizeOf5 z23) <| ou [0, 500] 2 (op_store_w Tryd.sizeOf23 q0 q1 (cells_agg _)) .nil) fun _ a w h => ?_
    refine wp_ret ?_
    obtain rfl := Option.some.inj hF
    exact ⟨.inl rfl, ret1 h Tryd.results21 (r_cell 0 2 rfl rfl Tryd.isAgg23 Tryd.sizeOf23 rfl) [1] [(RLog_e p_1 L_1)] rfl rfl rfl⟩
  · refine wp_skip ?_
    show Code.wp Tryd.prog _ _ a w
    obtain ⟨r4, hr4, hF⟩ := bind_some hF
    refine regS mixed hn hG h [2, 500, 501] (ov [0] (op_move q0) <| ov [1] (op_fieldAddr_lbm (p := (b1 0)) (n := 1) 0 33 Tryd.underlying36 rfl Tryd.sizeOf24 (by decide) q0 rfl) <| ov [500, 4] (op_load_lb1 [bytesCk 32 a_0.f_Seed, one (intVP .i64 a_0.f_Next)] [] 1 Tryd.isAgg24 q0 rfl rfl) <| oc [502, 500] [3] Tryd.call56 (ref06_node_ok hr4) ⟨q0, q1, qi, qi, trivial⟩ <| ou [2, 501] 5 (op_store_w Tryd.sizeOf23 q0 q1 (cells_agg _)) .nil) fun _ a w h => ?_
    refine wp_ret ?_
    obtain rfl := Option.some.inj hF
    exact ⟨.inl rfl, ret1 h Tryd.results21 (r_cell 0 1 rfl rfl Tryd.isAgg23 Tryd.sizeOf23 rfl) [2] [(RLog_e p_1 r4.2)] rfl rfl rfl⟩

def ref04_Log_Clash.n : Option Bool := some false
def ref04_Log_Clash.s (s_0 : O_RLog) : Option Bool := (if s_0.f_Digests.length ≤ mxl then some (decide ((s_0.f_Digests.length : Int) < (s_0.f_Inputs.length : Int))) else none)
def ref04_Log_Clash (L_0 : Option O_RLog) : Option Bool := match L_0 with | none => ref04_Log_Clash.n | some s_0 => ref04_Log_Clash.s s_0
theorem ref04_Log_Clash_ok {p_0 : Value} {h_0_0 : Value} {h_0_1 : Value} {L_0 : Option O_RLog} {r : Bool} (hF : ref04_Log_Clash L_0 = some r) : CallOk Tryd.prog KG 23 [(eqVP p_0)] [(RLog_o p_0 h_0_0 h_0_1 L_0)] (fun _ => [(RLog_o p_0 h_0_0 h_0_1 L_0)]) (boolVP r) := by
  refine CallOk.intro 18 Tryd.func23 rfl Tryd.ntmps23 (Nat.le_of_ble_eq_true rfl) ?_
  intro c a w hG hn h
  unfold ref04_Log_Clash at hF
  change SatL c [.slot 0 (eqVP p_0), .res (RLog_o p_0 h_0_0 h_0_1 L_0)] a w at h
  cases L_0 with
  | none =>
    change ref04_Log_Clash.n = some r at hF
    unfold ref04_Log_Clash.n at hF
    obtain rfl := h.isp 1 rfl (fun _ _ _ q => q.2)
    replace h := h.slotc 0 rfl (V' := ptrVP (.pointer none) false) (fun _ _ h => ⟨h, rfl⟩)
    change SatL c [.slot 0 (ptrVP (.pointer none) false), .res (RLog_o (.pointer none) h_0_0 h_0_1 none)] a w at h
    refine regS mixed hn hG h [0, 1] (ov [] (op_assign qb) .nil) fun _ a w h => ?_
    refine regS mixed hn hG h [500, 1] (ov [0] (op_move q0) <| ov [500] (op_bin (bin_pnn Tryd.underlying42) q0 (opc (ec _))) <| ov [500] (op_move q0) <| oe [500] [] (GOk.off_v (want := true) rfl rfl rfl rfl rfl) <| oe [501] [] (GOk.off_v (want := true) rfl rfl rfl rfl rfl) <| oe [502] [] (GOk.off_v (want := true) rfl rfl rfl rfl rfl) <| oe [503] [] (GOk.off_v (want := true) rfl rfl rfl rfl rfl) <| oe [504] [] (GOk.off_v (want := true) rfl rfl rfl rfl rfl) <| oe [505] [] (GOk.off_v (want := true) rfl rfl rfl rfl rfl) <| oe [506] [] (GOk.off_v (want := true) rfl rfl rfl rfl rfl) <| oe [507] [] (GOk.off_v (want := true) rfl rfl rfl rfl rfl) <| oe [508] [] (GOk.off_v (want := true) rfl rfl rfl rfl rfl) <| oe [509] [] (GOk.off_v (want := true) rfl rfl rfl rfl rfl) <| oe [510] [] (GOk.off_v (want := true) rfl rfl rfl rfl rfl) <| ov [511] (op_pick_f rfl q0 qb) <| ov [500] (op_assign q0) .nil) fun _ a w h => ?_
    refine wp_ret ?_
    obtain rfl := Option.some.inj hF
    exact ⟨.inl rfl, ret1 h Tryd.results23 (r_tmp 0 rfl) [1] [(RLog_o (.pointer none) h_0_0 h_0_1 none)] rfl rfl rfl⟩
  | some s_0 =>
    change ref04_Log_Clash.s s_0 = some r at hF
    unfold ref04_Log_Clash.s at hF
    have hp := h.isp 1 rfl (fun Φ f w q => RLog_lp Φ f w q)
    replace h := h.slotc 0 rfl (V' := lpVP p_0 0) (fun _ _ h => eq_lp h hp)
    replace h := h.sep (R := lb p_0 103 [one (eqVP h_0_0), one (eqVP h_0_1)]) (S := (RP.sep (acc h_0_0 9 1 strC s_0.f_Inputs) (mapR h_0_1 arrK (fun l => l.length = 32) (fun u y => acc u 9 1 strC y) s_0.f_Digests))) 1 rfl
    replace h := h.sep (R := acc h_0_0 9 1 strC s_0.f_Inputs) (S := (mapR h_0_1 arrK (fun l => l.length = 32) (fun u y => acc u 9 1 strC y) s_0.f_Digests)) 2 rfl
    replace h := h.sub [0, 1, 2, 3] (by rfl)
    change SatL c [.slot 0 (lpVP p_0 0), .res (lb p_0 103 [one (eqVP h_0_0), one (eqVP h_0_1)]), .res (acc h_0_0 9 1 strC s_0.f_Inputs), .res (mapR h_0_1 arrK (fun l => l.length = 32) (fun u y => acc u 9 1 strC y) s_0.f_Digests)] a w at h
    refine regS mixed hn hG h [0, 1, 2, 3] (ov [] (op_assign qb) .nil) fun _ a w h => ?_
    obtain ⟨hv1, hF⟩ := ite_some hF
    refine regS mixed hn hG h [500, 1, 2, 3] (ov [0] (op_move q0) <| ov [500] (op_bin (bin_pnn Tryd.underlying42) (lp_ptr q0) (opc (ec _))) <| ov [500] (op_move q0) <| oe [500, 0] [] (GOk.on_eq rfl rfl rfl rfl (op_move q0)) <| oe [501, 500] [] (GOk.on_eq rfl rfl rfl rfl (op_nilCheck q0 (ptr_lp _ _))) <| oe [502, 500] [] (GOk.on_eq rfl rfl rfl rfl (op_fieldAddr_lbm (p := p_0) (n := 1) 0 1 Tryd.underlying103 rfl Tryd.sizeOf100 (by decide) q0 rfl)) <| oe [503, 500, 1] [] (GOk.on_eq rfl rfl rfl rfl (op_load_lb1 [one (eqVP h_0_0)] [] 1 Tryd.isAgg100 q0 rfl rfl)) <| oe [504, 500, 3] [] (GOk.on_eq rfl rfl rfl rfl (op_len_map 1 Tryd.underlying100 q0 rfl res_id hv1)) <| oe [505, 0] [] (GOk.on_eq rfl rfl rfl rfl (op_move q0)) <| oe [506, 500] [] (GOk.on_eq rfl rfl rfl rfl (op_nilCheck q0 (ptr_lp _ _))) <| oe [507, 500] [] (GOk.on_eq rfl rfl rfl rfl (op_fieldAddr_lbm (p := p_0) (n := 1) 0 0 Tryd.underlying103 rfl Tryd.sizeOf101 (by decide) q0 rfl)) <| oe [508, 500, 1] [] (GOk.on_eq rfl rfl rfl rfl (op_load_lb1 [] [one (eqVP h_0_1)] 1 Tryd.isAgg101 q0 rfl rfl)) <| oe [509, 500, 2] [] (GOk.on_eq rfl rfl rfl rfl (op_len_sl Tryd.underlying101 (opacc 0 1 rfl rfl))) <| oe [510, 505, 500] [] (GOk.on_eq rfl rfl rfl rfl (op_bin bin_lss q0 q1)) <| ov [511, 500] (op_pick_t rfl q0 q1) <| ov [500] (op_assign q0) .nil) fun _ a w h => ?_
    refine wp_ret ?_
    replace h := h.unsep 2 3 rfl rfl (by decide)
    replace h := h.unsep 1 2 rfl rfl (by decide)
    replace h := h.sub [0, 1] (by rfl)
    change SatL c [.slot 2 (boolVP (decide ((s_0.f_Digests.length : Int) < (s_0.f_Inputs.length : Int)))), .res (RLog_o p_0 h_0_0 h_0_1 (some s_0))] a w at h
    obtain rfl := Option.some.inj hF
    exact ⟨.inl rfl, ret1 h Tryd.results23 (r_tmp 0 rfl) [1] [(RLog_o p_0 h_0_0 h_0_1 (some s_0))] rfl rfl rfl⟩
theorem ref04_Log_Clash_oke {p_0 : Value} {L_0 : Option O_RLog} {r : Bool} (hF : ref04_Log_Clash L_0 = some r) : CallOk Tryd.prog KG 23 [(eqVP p_0)] [RLog_e p_0 L_0] (fun _ => [RLog_e p_0 L_0]) (boolVP r) := CallOk.ex fun h_0_0 => CallOk.ex fun h_0_1 => ref04_Log_Clash_ok hF
theorem ref04_Log_Clash_oku {p_0 : Value} {h_0_0 : Value} {h_0_1 : Value} {s_0 : O_RLog} {r : Bool} (hF : ref04_Log_Clash (some s_0) = some r) : CallOk Tryd.prog KG 23 [(eqVP p_0)] [lb p_0 103 [one (eqVP h_0_0), one (eqVP h_0_1)], acc h_0_0 9 1 strC s_0.f_Inputs, mapR h_0_1 arrK (fun l => l.length = 32) (fun u y => acc u 9 1 strC y) s_0.f_Digests] (fun _ => [lb p_0 103 [one (eqVP h_0_0), one (eqVP h_0_1)], acc h_0_0 9 1 strC s_0.f_Inputs, mapR h_0_1 arrK (fun l => l.length = 32) (fun u y => acc u 9 1 strC y) s_0.f_Digests]) (boolVP r) := CallOk.split2 (ref04_Log_Clash_ok hF)

def digest_Log_Two (L_0 : Option O_Log) (a_1 : Int) (a_2 : List UInt8) (a_3 : List UInt8) : Option ((List UInt8) × (Option O_Log)) := ((wire_Digest a_2).bind fun r4 => ((wire_Digest a_3).bind fun r5 => ((digest_Log_Of L_0 a_1 [r4, r5]).bind fun r6 => some (r6.1, r6.2))))
theorem digest_Log_Two_ok {p_0 : Value} {L_0 : Option O_Log} {a_1 : Int} {a_2 : List UInt8} {a_3 : List UInt8} {r : (List UInt8) × (Option O_Log)} (hF : digest_Log_Two L_0 a_1 a_2 a_3 = some r) : CallOk Tryd.prog KG 71 [(eqVP p_0), (intVP .u8 a_1), (aggVP [bytesCk 32 a_2]), (aggVP [bytesCk 32 a_3])] [(Log_e p_0 L_0)] (fun _ => [Log_e p_0 r.2]) (aggVP [bytesCk 32 r.1]) := by
  refine CallOk.intro 17 Tryd.func71 rfl Tryd.ntmps71 (Nat.le_of_ble_eq_true rfl) ?_
  intro c a w hG hn h
  unfold digest_Log_Two at hF
  change SatL c [.slot 0 (eqVP p_0), .slot 1 (intVP .u8 a_1), .slot 2 (aggVP [bytesCk 32 a_2]), .slot 3 (aggVP [bytesCk 32 a_3]), .res (Log_e p_0 L_0)] a w at h
  refine regS mixed hn hG h [0, 1, 505, 503, 501, 4, 504, 502, 500] (ob [2] (op_box q0 (cells_agg _)) <| ob [3] (op_box q0 (cells_agg _)) <| ob [] (op_alloc Tryd.zeroValue23 z23) .nil) fun b1 a w h => ?_
  obtain ⟨r4, hr4, hF⟩ := bind_some hF
  obtain ⟨r5, hr5, hF⟩ := bind_some hF
  obtain ⟨r6, hr6, hF⟩ := bind_some hF
  refine regS mixed hn hG h [4, 500, 501] (ov [0] (op_move q0) <| ov [1] (op_move q0) <| ov [2, 6] (op_load_w 1 Tryd.isAgg23 Tryd.sizeOf23 q0) <| oc [500] [] Tryd.call64 (wire_Digest_ok hr4) ⟨q0, trivial⟩ <| ov [3, 7] (op_load_w 1 Tryd.isAgg23 Tryd.sizeOf23 q0) <| oc [500] [] Tryd.call64 (wire_Digest_ok hr5) ⟨q0, trivial⟩ <| ov [502, 500] (op_lit (xs := [.tmp 12, .tmp 14]) (ys := [r4, r5]) _ rfl Tryd.underlying101 Tryd.sizeOf9 Tryd.zeroValue9 rfl rfl (by decide) (by decide) ⟨⟨_, q0, (cells_one (one_str _))⟩, ⟨_, q1, (cells_one (one_str _))⟩, trivial⟩ lens_strC) <| oc [506, 505, 500] [5] Tryd.call62 (digest_Log_Of_ok hr6) ⟨q0, q1, q2, trivial⟩ <| ou [4, 501] 8 (op_store_w Tryd.sizeOf23 q0 q1 (cells_agg _)) .nil) fun _ a w h => ?_
  refine wp_ret ?_
  obtain rfl := Option.some.inj hF
  exact ⟨.inl rfl, ret1 h Tryd.results71 (r_cell 0 1 rfl rfl Tryd.isAgg23 Tryd.sizeOf23 rfl) [2] [(Log_e p_0 r6.2)] rfl rfl rfl⟩

def keys_up.b1 (a_1 : List (List UInt8)) (x15 : Int) (x16 : Option O_Log) (x17 : List (List UInt8)) : Option (Flow ((List (List UInt8)) × (Option O_Log)) (Int × (Option O_Log) × (List (List UInt8)))) := (if (decide ((IntKind.wrap .i64 (x15 + 1)) < (a_1.length : Int))) = true then (if (0 : Int) ≤ x15 ∧ x15 < a_1.length then (if (0 : Int) ≤ IntKind.wrap .i64 (x15 + 1) ∧ IntKind.wrap .i64 (x15 + 1) < a_1.length then ((digest_Log_Two x16 4 (a_1.getD x15.toNat default) (a_1.getD (IntKind.wrap .i64 (x15 + 1)).toNat default)).bind fun r32 => (if x17.length + [r32.1].length ≤ mxl ∧ (x17.length + [r32.1].length) * 32 ≤ 140737488355328 then some (.cont (IntKind.wrap .i64 (x15 + 2), r32.2, x17 ++ [r32.1])) else none)) else none) else none) else some (.brk (x15, x16, x17)))
def keys_up (L_0 : Option O_Log) (a_1 : List (List UInt8)) : Option ((List (List UInt8)) × (Option O_Log)) := ((loopN (fun s : Int × (Option O_Log) × (List (List UInt8)) => keys_up.b1 a_1 s.1 s.2.1 s.2.2) 100000 (0, L_0, [])).bind fun cr => match cr with | .ret r => some r | .next (y39, y40, y41) => some (y41, y40))
theorem keys_up_ok {p_0 : Value} {L_0 : Option O_Log} {a_1 : List (List UInt8)} {r : (List (List UInt8)) × (Option O_Log)} (hF : keys_up L_0 a_1 = some r) : CallOk Tryd.prog KG 49 [(eqVP p_0), (slVP (dC 32) a_1)] [(Log_e p_0 L_0)] (fun _ => [Log_e p_0 r.2]) (slVP (dC 32) r.1) := by
  refine CallOk.intro 29 Tryd.func49 rfl Tryd.ntmps49 (Nat.le_of_ble_eq_true rfl) ?_
  intro c a w hG hn h
  unfold keys_up at hF
  change SatL c [.slot 0 (eqVP p_0), .slot 1 (slVP (dC 32) a_1), .res (Log_e p_0 L_0)] a w at h
  refine regS mixed hn hG h [0, 1, 2] (ov [] (op_assign (opc (ec _))) .nil) fun _ a w h => ?_
  refine regS mixed hn hG h [0, 1, 500, 2] (ov [] (op_assign (opc (ec _))) .nil) fun _ a w h => ?_
  refine wp_seq ?_
  refine regS mixed hn hG h [0, 1, 2, 500, 3] (ov [] (op_assign qi) .nil) fun _ a w h => ?_
  refine wp_block ?_
  obtain ⟨q8, h⟩ : ∃ q8 : Value, SatL c [.slot 0 (eqVP p_0), .slot 1 (slVP (dC 32) a_1), .slot 5 (eqVP q8), .slot 6 (intVP .i64 0), .res (Log_e p_0 L_0), .res (acc q8 23 32 (dC 32) [])] a w := ⟨.slice none 0 0, (h.nilacc 23 32 (dC 32)).sub [0, 1, 2, 3, 4, 5] (by rfl)⟩
  obtain ⟨cr35, hl36, hF⟩ := bind_some hF
  refine wp_mono (wp_loopN (R := (List (List UInt8)) × (Option O_Log)) (S := Int × (Option O_Log) × (List (List UInt8))) (fun s a w => ∃ q18 : Value, SatL c [.slot 0 (eqVP p_0), .slot 1 (slVP (dC 32) a_1), .slot 5 (eqVP q18), .slot 6 (intVP .i64 s.1), .res (Log_e p_0 s.2.1), .res (acc q18 23 32 (dC 32) s.2.2)] a w) (fun res e a w => match res with | .next s => e = .exit 0 ∧ ∃ q18 : Value, SatL c [.slot 5 (eqVP q18), .res (Log_e p_0 s.2.1), .res (acc q18 23 32 (dC 32) s.2.2)] a w | .ret r => e = .ret ∧ RetOk Tryd.prog Tryd.f49 c (slVP (dC 32) r.1) (fun _ => [Log_e p_0 r.2]) a w) ?_ _ (0, L_0, []) _ _ _ ⟨q8, (h.sub [0, 1, 2, 3, 4, 5] (by rfl))⟩ hl36) ?_
  · clear hl36 hF h
    intro s a w o h hF
    obtain ⟨x15, x16, x17⟩ := s
    obtain ⟨q18, h⟩ := h
    change keys_up.b1 a_1 x15 x16 x17 = some o at hF
    unfold keys_up.b1 at hF
    change SatL c [.slot 0 (eqVP p_0), .slot 1 (slVP (dC 32) a_1), .slot 5 (eqVP q18), .slot 6 (intVP .i64 x15), .res (Log_e p_0 x16), .res (acc q18 23 32 (dC 32) x17)] a w at h
    refine wp_seq ?_
    refine regS mixed hn hG h [0, 1, 2, 3, 500, 4, 5] (ov [3] (op_move q0) <| ov [500] (op_bin bin_add q0 qi) <| ov [1] (op_move q0) <| ov [500] (op_len_sl Tryd.underlying24 q0) <| ov [502, 500] (op_bin bin_lss q0 q1) .nil) fun _ a w h => ?_
    refine cnd h hF 4 [0, 1, 2, 3, 5, 6] [0, 1, 2, 3, 5, 6] (fun hb29 hF h => ?_) (fun hb29 hF h => ?_)
    · refine wp_skip ?_
      show Code.wp Tryd.prog _ _ a w
      refine wp_seq ?_
      refine wp_block ?_
      obtain ⟨hv30, hF⟩ := ite_some hF
      obtain ⟨hv31, hF⟩ := ite_some hF
      obtain ⟨r32, hr32, hF⟩ := bind_some hF
      obtain ⟨hv33, hF⟩ := ite_some hF
      refine reg mixed hn hG h [0, 1, 500, 3, 504, 501] (ov [2] (op_move q0) <| ov [0] (op_move q0) <| ov [1] (op_move q0) <| ov [3] (op_move q0) <| ov [501, 500] (op_indexAddr_sl Tryd.underlying24 Tryd.sizeOf23 (lens_dC 32) q0 q1 hv30) <| ov [500] (op_load_pp [bytesCk 32 (a_1.getD x15.toNat default)] [] Tryd.isAgg23 Tryd.sizeOf23 q0 rfl) <| ov [1] (op_move q0) <| ov [3] (op_move q0) <| ov [500] (op_bin bin_add q0 qi) <| ov [502, 500] (op_indexAddr_sl Tryd.underlying24 Tryd.sizeOf23 (lens_dC 32) q0 q1 hv31) <| ov [500] (op_load_pp [bytesCk 32 (a_1.getD (IntKind.wrap .i64 (x15 + 1)).toNat default)] [] Tryd.isAgg23 Tryd.sizeOf23 q0 rfl) <| oc [509, 505, 500] [4] Tryd.call71 (digest_Log_Two_ok hr32) ⟨q0, qi, q1, q2, trivial⟩ <| ov [501] (op_lit (xs := [.tmp 25]) (ys := [r32.1]) _ rfl Tryd.underlying24 Tryd.sizeOf23 Tryd.zeroValue23 rfl rfl (by decide) (by decide) ⟨⟨_, q0, (cells_agg _)⟩, trivial⟩ (lens_dC 32)) <| og [513, 500] [5] [.slot 27 13 100000 (fun v1_ _ => (eqVP v1_)), .res 13 100000 (fun v1_ _ => (acc (v1_) 23 32 (dC 32) (x17 ++ [r32.1])))] (GOk.plain (op_append (i := Tryd.t23) Tryd.underlying24 Tryd.type23 rfl (lens_dC 32) (by decide) rfl q0 q1 hv33) rfl) <| og [501] [2] [.slot 5 13 100000 (fun v1_ _ => (eqVP v1_))] (fun {β} => (GOk.drop _ (GOk.plain (op_assign (V := (eqVP (β 13))) q0) rfl))) .nil) fun b34 a w h => ?_
      show Code.wp Tryd.prog _ _ a w
      refine reg mixed hn hG h [0, 1, 2, 500, 4, 5] (ov [3] (op_move q0) <| ov [500] (op_bin bin_add q0 qi) <| od [500] 3 (op_assign q0) .nil) fun _ a w h => ?_
      obtain rfl := Option.some.inj hF
      exact ⟨rfl, (b34 13), h.sub [0, 1, 2, 3, 4, 5] (by rfl)⟩
    · refine wp_exit ?_
      obtain rfl := Option.some.inj hF
      exact ⟨exit_ne _, rfl, q18, h.sub [2, 4, 5] (by rfl)⟩
  · clear hl36
    intro e a w hq
    cases cr35 with
    | ret r37 =>
      obtain ⟨rfl, hq⟩ := hq
      obtain rfl := Option.some.inj hF
      exact ⟨.inl rfl, hq⟩
    | next s38 =>
      obtain ⟨y39, y40, y41⟩ := s38
      obtain ⟨rfl, q18, h⟩ := hq
      change SatL c [.slot 5 (eqVP q18), .res (Log_e p_0 y40), .res (acc q18 23 32 (dC 32) y41)] a w at h
      refine inBlock_at ?_
      show Code.wp Tryd.prog _ _ a w
      refine regS mixed hn hG h [500, 1, 2] (ov [0] (op_move q0) <| ov [500] (op_assign q0) .nil) fun _ a w h => ?_
      refine wp_ret ?_
      obtain rfl := Option.some.inj hF
      exact ⟨.inl rfl, ret1 h Tryd.results49 (r_acc 0 2 rfl rfl) [1] [(Log_e p_0 y40)] rfl rfl rfl⟩

def keys_Signer_Root.b1 (x6 : List (List UInt8)) (x7 : Option O_Log) : Option (Flow ((List UInt8) × (Option O_Log)) ((List (List UInt8)) × (Option O_Log))) := (if (decide ((1 : Int) < (x6.length : Int))) = true then ((keys_up x7 x6).bind fun r13 => some (.cont (r13.1, r13.2))) else some (.brk (x6, x7)))
def keys_Signer_Root (a_0 : S_keys_Signer) (L_1 : Option O_Log) : Option ((List UInt8) × (Option O_Log)) := (if (!decide ((a_0.f_Leaves.length : Int) = (16 : Int))) = true then some ((List.replicate 32 0), L_1) else ((loopN (fun s : (List (List UInt8)) × (Option O_Log) => keys_Signer_Root.b1 s.1 s.2) (((a_0.f_Leaves.length : Int) - 1 : Int).toNat + 2) (a_0.f_Leaves, L_1)).bind fun cr => match cr with | .ret r => some r | .next (y18, y19) => (if (0 : Int) ≤ 0 ∧ (0 : Int) < y18.length then some (y18.getD (0 : Int).toNat default, y19) else none)))
theorem keys_Signer_Root_ok {p_1 : Value} {a_0 : S_keys_Signer} {L_1 : Option O_Log} {r : (List UInt8) × (Option O_Log)} (hF : keys_Signer_Root a_0 L_1 = some r) : CallOk Tryd.prog KG 13 [(aggVP [bytesCk 32 a_0.f_Seed, one (intVP .i64 a_0.f_Next), one (slVP (dC 32) a_0.f_Leaves)]), (eqVP p_1)] [(Log_e p_1 L_1)] (fun _ => [Log_e p_1 r.2]) (aggVP [bytesCk 32 r.1]) := by
  refine CallOk.intro 22 Tryd.func13 rfl Tryd.ntmps13 (Nat.le_of_ble_eq_true rfl) ?_
  intro c a w hG hn h
  unfold keys_Signer_Root at hF
  change SatL c [.slot 0 (aggVP [bytesCk 32 a_0.f_Seed, one (intVP .i64 a_0.f_Next), one (slVP (dC 32) a_0.f_Leaves)]), .slot 1 (eqVP p_1), .res (Log_e p_1 L_1)] a w at h
  refine regS mixed hn hG h [1, 503, 501, 2, 502, 500] (ob [0] (op_box q0 (cells_agg _)) <| ob [] (op_alloc Tryd.zeroValue23 z23) .nil) fun b1 a w h => ?_
  refine wp_seq ?_
  refine regS mixed hn hG h [0, 1, 2, 500, 3, 4, 5] (ov [1] (op_fieldAddr_lbm (p := (b1 0)) (n := 1) 0 33 Tryd.underlying27 rfl Tryd.sizeOf24 (by decide) q0 rfl) <| ov [500, 4] (op_load_lb1 [bytesCk 32 a_0.f_Seed, one (intVP .i64 a_0.f_Next)] [] 1 Tryd.isAgg24 q0 rfl rfl) <| ov [500] (op_len_sl Tryd.underlying24 q0) <| ov [500] (op_bin bin_neq q0 qi) .nil) fun _ a w h => ?_
  refine cnd h hF 3 [2, 4, 6] [0, 1, 2, 4, 5, 6] (fun hb3 hF h => ?_) (fun hb3 hF h => ?_)
  · refine regS mixed hn hG h [0, 1, 500] (ov [] (build0 Tryd.zeroValue23 Tryd.underlying23 Tryd.sizeOf5 z23) <| ou [0, 500] 2 (op_store_w Tryd.sizeOf23 q0 q1 (cells_agg _)) .nil) fun _ a w h => ?_
    refine wp_ret ?_
    obtain rfl := Option.some.inj hF
    exact ⟨.inl rfl, ret1 h Tryd.results13 (r_cell 0 2 rfl rfl Tryd.isAgg23 Tryd.sizeOf23 rfl) [1] [(Log_e p_1 L_1)] rfl rfl rfl⟩
  · refine wp_skip ?_
    show Code.wp Tryd.prog _ _ a w
    refine regS mixed hn hG h [0, 2, 500, 3, 5] (ov [1] (op_fieldAddr_lbm (p := (b1 0)) (n := 1) 0 33 Tryd.underlying27 rfl Tryd.sizeOf24 (by decide) q0 rfl) <| ov [500, 4] (op_load_lb1 [bytesCk 32 a_0.f_Seed, one (intVP .i64 a_0.f_Next)] [] 1 Tryd.isAgg24 q0 rfl rfl) <| ov [500] (op_assign q0) .nil) fun _ a w h => ?_
    refine wp_seq ?_
    refine wp_block ?_
    obtain ⟨cr14, hl15, hF⟩ := bind_some hF
    refine wp_mono (wp_loopN (R := (List UInt8) × (Option O_Log)) (S := (List (List UInt8)) × (Option O_Log)) (fun s a w => SatL c [.slot 1 (eqVP p_1), .slot 4 (lpVP (b1 1) 0), .slot 5 (slVP (dC 32) s.1), .res (Log_e p_1 s.2), .res (lb (b1 1) 23 [bytesCk 32 (List.replicate 32 0)])] a w) (fun res e a w => match res with | .next s => e = .exit 0 ∧ SatL c [.slot 4 (lpVP (b1 1) 0), .slot 5 (slVP (dC 32) s.1), .res (Log_e p_1 s.2), .res (lb (b1 1) 23 [bytesCk 32 (List.replicate 32 0)])] a w | .ret r => e = .ret ∧ RetOk Tryd.prog Tryd.f13 c (aggVP [bytesCk 32 r.1]) (fun _ => [Log_e p_1 r.2]) a w) ?_ _ (a_0.f_Leaves, L_1) _ _ _ (h.sub [0, 1, 2, 3, 4] (by rfl)) hl15) ?_
    · clear hl15 hF h
      intro s a w o h hF
      obtain ⟨x6, x7⟩ := s
      change keys_Signer_Root.b1 x6 x7 = some o at hF
      unfold keys_Signer_Root.b1 at hF
      change SatL c [.slot 1 (eqVP p_1), .slot 4 (lpVP (b1 1) 0), .slot 5 (slVP (dC 32) x6), .res (Log_e p_1 x7), .res (lb (b1 1) 23 [bytesCk 32 (List.replicate 32 0)])] a w at h
      refine wp_seq ?_
      refine regS mixed hn hG h [0, 1, 2, 500, 3, 4] (ov [2] (op_move q0) <| ov [500] (op_len_sl Tryd.underlying24 q0) <| ov [500] (op_bin bin_gtr q0 qi) .nil) fun _ a w h => ?_
      refine cnd h hF 3 [0, 1, 2, 4, 5] [0, 1, 2, 4, 5] (fun hb12 hF h => ?_) (fun hb12 hF h => ?_)
      · refine wp_skip ?_
        show Code.wp Tryd.prog _ _ a w
        refine wp_block ?_
        obtain ⟨r13, hr13, hF⟩ := bind_some hF
        refine reg mixed hn hG h [0, 1, 500, 4, 501] (ov [0] (op_move q0) <| ov [2] (op_move q0) <| oc [501, 500] [3] Tryd.call49 (keys_up_ok hr13) ⟨q0, q1, trivial⟩ <| od [501] 2 (op_assign q0) .nil) fun _ a w h => ?_
        obtain rfl := Option.some.inj hF
        exact ⟨rfl, h.sub [0, 1, 2, 4, 3] (by rfl)⟩
      · refine wp_exit ?_
        obtain rfl := Option.some.inj hF
        exact ⟨exit_ne _, rfl, h.sub [1, 2, 3, 4] (by rfl)⟩
    · clear hl15
      intro e a w hq
      cases cr14 with
      | ret r16 =>
        obtain ⟨rfl, hq⟩ := hq
        obtain rfl := Option.some.inj hF
        exact ⟨.inl rfl, hq⟩
      | next s17 =>
        obtain ⟨y18, y19⟩ := s17
        obtain ⟨rfl, h⟩ := hq
        change SatL c [.slot 4 (lpVP (b1 1) 0), .slot 5 (slVP (dC 32) y18), .res (Log_e p_1 y19), .res (lb (b1 1) 23 [bytesCk 32 (List.replicate 32 0)])] a w at h
        refine inBlock_at ?_
        show Code.wp Tryd.prog _ _ a w
        obtain ⟨hv20, hF⟩ := ite_some hF
        refine regS mixed hn hG h [0, 2, 500] (ov [1] (op_move q0) <| ov [500] (op_indexAddr_sl Tryd.underlying24 Tryd.sizeOf23 (lens_dC 32) q0 qi hv20) <| ov [500] (op_load_pp [bytesCk 32 (y18.getD (0 : Int).toNat default)] [] Tryd.isAgg23 Tryd.sizeOf23 q0 rfl) <| ou [0, 500] 3 (op_store_w Tryd.sizeOf23 q0 q1 (cells_agg _)) .nil) fun _ a w h => ?_
        refine wp_ret ?_
        obtain rfl := Option.some.inj hF
        exact ⟨.inl rfl, ret1 h Tryd.results13 (r_cell 0 2 rfl rfl Tryd.isAgg23 Tryd.sizeOf23 rfl) [1] [(Log_e p_1 y19)] rfl rfl rfl⟩

def lamport_Bit.j1 (a_0 : List UInt8) (a_1 : Int) (x2 : Bool) : Option Int := (if x2 = true then some 0 else (if (0 : Int) ≤ IntKind.wrap .i64 (a_1.tdiv 8) ∧ IntKind.wrap .i64 (a_1.tdiv 8) < 32 then (if (0 : Int) ≤ IntKind.wrap .i64 (7 - (a_1.tmod 8)) then some (bits .and .i64 (IntKind.wrap .i64 (shr .u8 ((a_0.getD (IntKind.wrap .i64 (a_1.tdiv 8)).toNat 0).toNat) (IntKind.wrap .i64 (7 - (a_1.tmod 8))))) 1) else none) else none))
def lamport_Bit (a_0 : List UInt8) (a_1 : Int) : Option Int := (if (decide (a_1 < (0 : Int))) = true then lamport_Bit.j1 a_0 a_1 true else lamport_Bit.j1 a_0 a_1 (decide ((256 : Int) ≤ a_1)))
theorem lamport_Bit_ok {a_0 : List UInt8} {a_1 : Int} {r : Int} (hF : lamport_Bit a_0 a_1 = some r) : CallOk Tryd.prog KG 72 [(aggVP [bytesCk 32 a_0]), (intVP .i64 a_1)] [] (fun _ => []) (intVP .i64 r) := by
  refine CallOk.intro 21 Tryd.func72 rfl Tryd.ntmps72 (Nat.le_of_ble_eq_true rfl) ?_
  intro c a w hG hn h
  unfold lamport_Bit at hF
  change SatL c [.slot 0 (aggVP [bytesCk 32 a_0]), .slot 1 (intVP .i64 a_1)] a w at h
  refine regS mixed hn hG h [1, 502, 501] (ob [0] (op_box q0 (cells_agg _)) <| ov [] (op_assign qi) .nil) fun b1 a w h => ?_
  refine wp_seq ?_
  refine wp_seq ?_
  refine wp_cut (fun a w => ∃ (x2 : Bool), lamport_Bit.j1 a_0 a_1 x2 = some r ∧ SatL c [.slot 1 (intVP .i64 a_1), .slot 2 (lpVP (b1 0) 0), .slot 10 (boolVP x2), .res (lb (b1 0) 23 [bytesCk 32 a_0])] a w) ?_ ?_
  · rcases Bool.eq_false_or_eq_true (decide (a_1 < (0 : Int))) with hb6 | hb6
    · replace hF := tt_of hb6 hF
      refine reg mixed hn hG h [0, 1, 500, 2] (ov [0] (op_move q0) <| ov [500] (op_bin bin_lss q0 qi) <| ov [500] (op_move q0) <| oe [500] [] (GOk.off_v (want := false) hb6 rfl rfl rfl rfl) <| oe [501] [] (GOk.off_v (want := false) hb6 rfl rfl rfl rfl) <| ov [502] (op_pick_t hb6 q0 qb) .nil) fun _ a w h => ?_
      exact ⟨true, hF, h.sub [0, 1, 2, 3] (by rfl)⟩
    · replace hF := ff_of hb6 hF
      refine reg mixed hn hG h [0, 1, 500, 2] (ov [0] (op_move q0) <| ov [500] (op_bin bin_lss q0 qi) <| ov [500] (op_move q0) <| oe [500, 0] [] (GOk.on_eq hb6 rfl rfl rfl (op_move q0)) <| oe [501, 500] [] (GOk.on_eq hb6 rfl rfl rfl (op_bin bin_geq q0 qi)) <| ov [502, 500] (op_pick_f hb6 q0 q1) .nil) fun _ a w h => ?_
      exact ⟨decide ((256 : Int) ≤ a_1), hF, h.sub [0, 1, 2, 3] (by rfl)⟩
  · clear h hF
    rintro a w ⟨x2, hF, h⟩
    unfold lamport_Bit.j1 at hF
    show Code.wp Tryd.prog _ _ a w
    refine cnd h hF 2 [] [0, 1, 3] (fun hb3 hF h => ?_) (fun hb3 hF h => ?_)
    · refine regS mixed hn hG h [500] (ov [] (op_assign qi) .nil) fun _ a w h => ?_
      refine wp_ret ?_
      obtain rfl := Option.some.inj hF
      exact ⟨.inl rfl, ret1 h Tryd.results72 (r_tmp 0 rfl) [] [] rfl rfl rfl⟩
    · refine wp_skip ?_
      show Code.wp Tryd.prog _ _ a w
      obtain ⟨hv4, hF⟩ := ite_some hF
      obtain ⟨hv5, hF⟩ := ite_some hF
      refine regS mixed hn hG h [500] (ov [0] (op_move q0) <| ov [500] (op_bin (bin_quo (by decide)) q0 qi) <| ov [1, 500] (op_indexAddr_lb Tryd.underlying23 Tryd.sizeOf5 q0 q1 hv4) <| ov [500, 2] (op_load_lbB (i := IntKind.wrap .i64 (a_1.tdiv 8)) [] [] 1 Tryd.isAgg5 q0 rfl rfl hv4) <| ov [0] (op_move q0) <| ov [500] (op_bin (bin_rem (by decide)) q0 qi) <| ov [500] (op_bin bin_sub qi q0) <| ov [503, 500] (op_bin (bin_shr hv5) q0 q1) <| ov [500] (op_convert_int Tryd.underlying5 Tryd.underlying3 q0) <| ov [500] (op_bin bin_and q0 qi) <| ov [500] (op_assign q0) .nil) fun _ a w h => ?_
      refine wp_ret ?_
      obtain rfl := Option.some.inj hF
      exact ⟨.inl rfl, ret1 h Tryd.results72 (r_tmp 0 rfl) [] [] rfl rfl rfl⟩

def lamport_Sign.b1 (a_1 : List UInt8) (a_2 : Int) (a_3 : List UInt8) (x25 : Int) (x26 : Option O_Log) (x27 : List (List UInt8)) (x29 : List (List UInt8)) : Option (Flow ((List (List UInt8)) × (List (List UInt8)) × (Option O_Log)) (Int × (Option O_Log) × (List (List UInt8)) × (List (List UInt8)))) := (if (decide (x25 < (32 : Int))) = true then ((lamport_Bit a_3 x25).bind fun r47 => ((lamport_Secret x26 a_1 a_2 x25 r47).bind fun r48 => (if x27.length + [r48.1].length ≤ mxl ∧ (x27.length + [r48.1].length) * 32 ≤ 140737488355328 then ((lamport_Secret r48.2 a_1 a_2 x25 (IntKind.wrap .i64 (1 - r47))).bind fun r51 => ((lamport_Public r51.2 r51.1).bind fun r52 => (if x29.length + [r52.1].length ≤ mxl ∧ (x29.length + [r52.1].length) * 32 ≤ 140737488355328 then some (.cont (IntKind.wrap .i64 (x25 + 1), r52.2, x27 ++ [r48.1], x29 ++ [r52.1])) else none))) else none))) else some (.brk (x25, x26, x27, x29)))
def lamport_Sign (L_0 : Option O_Log) (a_1 : List UInt8) (a_2 : Int) (a_3 : List UInt8) : Option ((List (List UInt8)) × (List (List UInt8)) × (Option O_Log)) := ((loopN (fun s : Int × (Option O_Log) × (List (List UInt8)) × (List (List UInt8)) => lamport_Sign.b1 a_1 a_2 a_3 s.1 s.2.1 s.2.2.1 s.2.2.2) ((32 - 0 : Int).toNat + 2) (0, L_0, [], [])).bind fun cr => match cr with | .ret r => some r | .next (y59, y60, y61, y62) => some (y61, y62, y60))
theorem lamport_Sign_ok {p_0 : Value} {L_0 : Option O_Log} {a_1 : List UInt8} {a_2 : Int} {a_3 : List UInt8} {r : (List (List UInt8)) × (List (List UInt8)) × (Option O_Log)} (hF : lamport_Sign L_0 a_1 a_2 a_3 = some r) : CallOk Tryd.prog KG 51 [(eqVP p_0), (aggVP [bytesCk 32 a_1]), (intVP .i64 a_2), (aggVP [bytesCk 32 a_3])] [(Log_e p_0 L_0)] (fun _ => [Log_e p_0 r.2.2]) (tupVP [(slVP (dC 32) r.1), (slVP (dC 32) r.2.1)]) := by
  refine CallOk.intro 44 Tryd.func51 rfl Tryd.ntmps51 (Nat.le_of_ble_eq_true rfl) ?_
  intro c a w hG hn h
  unfold lamport_Sign at hF
  change SatL c [.slot 0 (eqVP p_0), .slot 1 (aggVP [bytesCk 32 a_1]), .slot 2 (intVP .i64 a_2), .slot 3 (aggVP [bytesCk 32 a_3]), .res (Log_e p_0 L_0)] a w at h
  refine regS mixed hn hG h [0, 2, 505, 503, 4, 504, 502] (ob [1] (op_box q0 (cells_agg _)) <| ob [3] (op_box q0 (cells_agg _)) <| ov [] (op_assign (opc (ec _))) <| ov [] (op_assign (opc (ec _))) .nil) fun b1 a w h => ?_
  refine regS mixed hn hG h [0, 1, 2, 3, 501, 500, 4, 5, 6] (ov [] (op_assign (opc (ec _))) <| ov [] (op_assign (opc (ec _))) .nil) fun _ a w h => ?_
  refine wp_seq ?_
  refine regS mixed hn hG h [0, 1, 2, 3, 4, 5, 500, 6, 7, 8] (ov [] (op_move qi) .nil) fun _ a w h => ?_
  refine wp_block ?_
  obtain ⟨q14, h⟩ : ∃ q14 : Value, SatL c [.slot 0 (eqVP p_0), .slot 2 (intVP .i64 a_2), .slot 5 (lpVP (b1 0) 0), .slot 7 (lpVP (b1 1) 0), .slot 10 (eqVP q14), .slot 11 (eqVP (.slice none 0 0)), .slot 14 (intVP .i64 0), .res (Log_e p_0 L_0), .res (lb (b1 0) 23 [bytesCk 32 a_1]), .res (lb (b1 1) 23 [bytesCk 32 a_3]), .res (acc q14 23 32 (dC 32) [])] a w := ⟨.slice none 0 0, (h.nilacc 23 32 (dC 32)).sub [0, 1, 2, 3, 4, 5, 6, 7, 8, 9, 10] (by rfl)⟩
  obtain ⟨q15, h⟩ : ∃ q15 : Value, SatL c [.slot 0 (eqVP p_0), .slot 2 (intVP .i64 a_2), .slot 5 (lpVP (b1 0) 0), .slot 7 (lpVP (b1 1) 0), .slot 10 (eqVP q14), .slot 11 (eqVP q15), .slot 14 (intVP .i64 0), .res (Log_e p_0 L_0), .res (lb (b1 0) 23 [bytesCk 32 a_1]), .res (lb (b1 1) 23 [bytesCk 32 a_3]), .res (acc q14 23 32 (dC 32) []), .res (acc q15 23 32 (dC 32) [])] a w := ⟨.slice none 0 0, (h.nilacc 23 32 (dC 32)).sub [0, 1, 2, 3, 4, 5, 6, 7, 8, 9, 10, 11] (by rfl)⟩
  obtain ⟨cr55, hl56, hF⟩ := bind_some hF
  refine wp_mono (wp_loopN (R := (List (List UInt8)) × (List (List UInt8)) × (Option O_Log)) (S := Int × (Option O_Log) × (List (List UInt8)) × (List (List UInt8))) (fun s a w => ∃ q28 : Value, ∃ q30 : Value, SatL c [.slot 0 (eqVP p_0), .slot 2 (intVP .i64 a_2), .slot 5 (lpVP (b1 0) 0), .slot 7 (lpVP (b1 1) 0), .slot 10 (eqVP q28), .slot 11 (eqVP q30), .slot 14 (intVP .i64 s.1), .res (Log_e p_0 s.2.1), .res (lb (b1 0) 23 [bytesCk 32 a_1]), .res (lb (b1 1) 23 [bytesCk 32 a_3]), .res (acc q28 23 32 (dC 32) s.2.2.1), .res (acc q30 23 32 (dC 32) s.2.2.2)] a w) (fun res e a w => match res with | .next s => e = .exit 0 ∧ ∃ q28 : Value, ∃ q30 : Value, SatL c [.slot 10 (eqVP q28), .slot 11 (eqVP q30), .res (Log_e p_0 s.2.1), .res (acc q28 23 32 (dC 32) s.2.2.1), .res (acc q30 23 32 (dC 32) s.2.2.2)] a w | .ret r => e = .ret ∧ RetOk Tryd.prog Tryd.f51 c (tupVP [(slVP (dC 32) r.1), (slVP (dC 32) r.2.1)]) (fun _ => [Log_e p_0 r.2.2]) a w) ?_ _ (0, L_0, [], []) _ _ _ ⟨q14, q15, (h.sub [0, 1, 2, 3, 4, 5, 6, 7, 8, 9, 10, 11] (by rfl))⟩ hl56) ?_
  · clear hl56 hF h
    intro s a w o h hF
    obtain ⟨x25, x26, x27, x29⟩ := s
    obtain ⟨q28, q30, h⟩ := h
    change lamport_Sign.b1 a_1 a_2 a_3 x25 x26 x27 x29 = some o at hF
    unfold lamport_Sign.b1 at hF
    change SatL c [.slot 0 (eqVP p_0), .slot 2 (intVP .i64 a_2), .slot 5 (lpVP (b1 0) 0), .slot 7 (lpVP (b1 1) 0), .slot 10 (eqVP q28), .slot 11 (eqVP q30), .slot 14 (intVP .i64 x25), .res (Log_e p_0 x26), .res (lb (b1 0) 23 [bytesCk 32 a_1]), .res (lb (b1 1) 23 [bytesCk 32 a_3]), .res (acc q28 23 32 (dC 32) x27), .res (acc q30 23 32 (dC 32) x29)] a w at h
    refine regS mixed hn hG h [0, 1, 2, 3, 4, 5, 6, 500, 7, 8, 9, 10, 11] (ov [6] (op_bin bin_lss q0 qi) .nil) fun _ a w h => ?_
    refine wp_seq ?_
    refine cnd h hF 7 [0, 1, 2, 3, 4, 5, 6, 8, 9, 10, 11, 12] [0, 1, 2, 3, 4, 5, 6, 8, 9, 10, 11, 12] (fun hb46 hF h => ?_) (fun hb46 hF h => ?_)
    · refine wp_skip ?_
      show Code.wp Tryd.prog _ _ a w
      refine wp_seq ?_
      refine wp_block ?_
      refine regS mixed hn hG h [0, 1, 2, 3, 4, 5, 500, 6, 7, 8, 9, 10, 11] (ov [6] (op_move q0) <| ov [500] (op_assign q0) .nil) fun _ a w h => ?_
      obtain ⟨r47, hr47, hF⟩ := bind_some hF
      refine regS mixed hn hG h [0, 1, 2, 3, 4, 5, 6, 500, 7, 8, 9, 10, 11, 12] (ov [3, 10] (op_load_w 1 Tryd.isAgg23 Tryd.sizeOf23 q0) <| ov [6] (op_move q0) <| oc [501, 500] [] Tryd.call72 (lamport_Bit_ok hr47) ⟨q0, q1, trivial⟩ <| ov [500] (op_assign q0) .nil) fun _ a w h => ?_
      obtain ⟨r48, hr48, hF⟩ := bind_some hF
      obtain ⟨hv49, hF⟩ := ite_some hF
      refine regS mixed hn hG h [0, 1, 2, 3, 500, 5, 6, 7, 8, 10, 11, 13, 504, 501] (ov [4] (op_move q0) <| ov [0] (op_move q0) <| ov [2, 10] (op_load_w 1 Tryd.isAgg23 Tryd.sizeOf23 q0) <| ov [1] (op_move q0) <| ov [6] (op_move q0) <| ov [7] (op_move q0) <| oc [504, 503, 502, 501, 500] [9] Tryd.call69 (lamport_Secret_ok hr48) ⟨q0, q1, q2, q3, (opt 4 rfl), trivial⟩ <| ov [501] (op_lit (xs := [.tmp 26]) (ys := [r48.1]) _ rfl Tryd.underlying24 Tryd.sizeOf23 Tryd.zeroValue23 rfl rfl (by decide) (by decide) ⟨⟨_, q0, (cells_agg _)⟩, trivial⟩ (lens_dC 32)) <| og [508, 500] [12] [.slot 28 8 100000 (fun v1_ _ => (eqVP v1_)), .res 8 100000 (fun v1_ _ => (acc (v1_) 23 32 (dC 32) (x27 ++ [r48.1])))] (GOk.plain (op_append (i := Tryd.t23) Tryd.underlying24 Tryd.type23 rfl (lens_dC 32) (by decide) rfl q0 q1 hv49) rfl) <| og [501] [4] [.slot 10 8 100000 (fun v1_ _ => (eqVP v1_))] (fun {β} => (GOk.drop _ (GOk.plain (op_assign (V := (eqVP (β 8))) q0) rfl))) .nil) fun b50 a w h => ?_
      obtain ⟨r51, hr51, hF⟩ := bind_some hF
      obtain ⟨r52, hr52, hF⟩ := bind_some hF
      obtain ⟨hv53, hF⟩ := ite_some hF
      refine reg mixed hn hG h [0, 1, 2, 3, 4, 500, 8, 9, 10, 13, 504, 501] (ov [5] (op_move q0) <| ov [0] (op_move q0) <| ov [0] (op_move q0) <| ov [2, 9] (op_load_w 1 Tryd.isAgg23 Tryd.sizeOf23 q0) <| ov [1] (op_move q0) <| ov [6] (op_move q0) <| ov [7] (op_move q0) <| ov [500] (op_bin bin_sub qi q0) <| oc [505, 504, 503, 502, 500] [12] Tryd.call69 (lamport_Secret_ok hr51) ⟨q0, q1, q2, q3, (opt 4 rfl), trivial⟩ <| oc [508, 501] [500] Tryd.call68 (lamport_Public_ok hr52) ⟨q0, q1, trivial⟩ <| ov [501] (op_lit (xs := [.tmp 38]) (ys := [r52.1]) _ rfl Tryd.underlying24 Tryd.sizeOf23 Tryd.zeroValue23 rfl rfl (by decide) (by decide) ⟨⟨_, q0, (cells_agg _)⟩, trivial⟩ (lens_dC 32)) <| og [512, 500] [11] [.slot 40 11 100000 (fun v1_ _ => (eqVP v1_)), .res 11 100000 (fun v1_ _ => (acc (v1_) 23 32 (dC 32) (x29 ++ [r52.1])))] (GOk.plain (op_append (i := Tryd.t23) Tryd.underlying24 Tryd.type23 rfl (lens_dC 32) (by decide) rfl q0 q1 hv53) rfl) <| og [501] [5] [.slot 11 11 100000 (fun v1_ _ => (eqVP v1_))] (fun {β} => (GOk.drop _ (GOk.plain (op_assign (V := (eqVP (β 11))) q0) rfl))) .nil) fun b54 a w h => ?_
      show Code.wp Tryd.prog _ _ a w
      refine reg mixed hn hG h [0, 1, 2, 3, 4, 5, 500, 7, 8, 9, 10, 11] (ov [6] (op_bin bin_add q0 qi) <| od [500] 6 (op_move q0) .nil) fun _ a w h => ?_
      obtain rfl := Option.some.inj hF
      exact ⟨rfl, (b50 8), (b54 11), h.sub [0, 1, 2, 3, 4, 5, 6, 10, 7, 8, 9, 11] (by rfl)⟩
    · refine wp_exit ?_
      obtain rfl := Option.some.inj hF
      exact ⟨exit_ne _, rfl, q28, q30, h.sub [4, 5, 7, 10, 11] (by rfl)⟩
  · clear hl56
    intro e a w hq
    cases cr55 with
    | ret r57 =>
      obtain ⟨rfl, hq⟩ := hq
      obtain rfl := Option.some.inj hF
      exact ⟨.inl rfl, hq⟩
    | next s58 =>
      obtain ⟨y59, y60, y61, y62⟩ := s58
      obtain ⟨rfl, q28, q30, h⟩ := hq
      change SatL c [.slot 10 (eqVP q28), .slot 11 (eqVP q30), .res (Log_e p_0 y60), .res (acc q28 23 32 (dC 32) y61), .res (acc q30 23 32 (dC 32) y62)] a w at h
      refine inBlock_at ?_
      show Code.wp Tryd.prog _ _ a w
      refine regS mixed hn hG h [501, 500, 2, 3, 4] (ov [0] (op_move q0) <| ov [1] (op_move q0) <| ov [501] (op_assign q0) <| ov [501] (op_assign q0) .nil) fun _ a w h => ?_
      refine wp_ret ?_
      obtain rfl := Option.some.inj hF
      exact ⟨.inl rfl, retn h (rs := [.tmp 8, .tmp 9]) (Vs := [(slVP (dC 32) y61), (slVP (dC 32) y62)]) Tryd.results51 (by decide) ⟨(r_acc 0 3 rfl rfl), (r_acc 1 4 rfl rfl), trivial⟩ [2] [(Log_e p_0 y60)] rfl rfl rfl⟩

def keys_Signer_path.b1 (x14 : Int) (x15 : List (List UInt8)) (x16 : Option O_Log) (x17 : List (List UInt8)) : Option (Flow ((List (List UInt8)) × (Option O_Log)) (Int × (List (List UInt8)) × (Option O_Log) × (List (List UInt8)))) := (if (decide ((1 : Int) < (x15.length : Int))) = true then (if (0 : Int) ≤ bits .xor .i64 x14 1 ∧ bits .xor .i64 x14 1 < x15.length then (if x17.length + [x15.getD (bits .xor .i64 x14 1).toNat default].length ≤ mxl ∧ (x17.length + [x15.getD (bits .xor .i64 x14 1).toNat default].length) * 32 ≤ 140737488355328 then ((keys_up x16 x15).bind fun r33 => some (.cont (IntKind.wrap .i64 (x14.tdiv 2), r33.1, r33.2, x17 ++ [x15.getD (bits .xor .i64 x14 1).toNat default]))) else none) else none) else some (.brk (x14, x15, x16, x17)))
def keys_Signer_path (a_0 : S_keys_Signer) (L_1 : Option O_Log) (a_2 : Int) : Option ((List (List UInt8)) × (Option O_Log)) := ((loopN (fun s : Int × (List (List UInt8)) × (Option O_Log) × (List (List UInt8)) => keys_Signer_path.b1 s.1 s.2.1 s.2.2.1 s.2.2.2) (((a_0.f_Leaves.length : Int) - 1 : Int).toNat + 2) (a_2, a_0.f_Leaves, L_1, [])).bind fun cr => match cr with | .ret r => some r | .next (y38, y39, y40, y41) => some (y41, y40))
theorem keys_Signer_path_ok {p_1 : Value} {a_0 : S_keys_Signer} {L_1 : Option O_Log} {a_2 : Int} {r : (List (List UInt8)) × (Option O_Log)} (hF : keys_Signer_path a_0 L_1 a_2 = some r) : CallOk Tryd.prog KG 52 [(aggVP [bytesCk 32 a_0.f_Seed, one (intVP .i64 a_0.f_Next), one (slVP (dC 32) a_0.f_Leaves)]), (eqVP p_1), (intVP .i64 a_2)] [(Log_e p_1 L_1)] (fun _ => [Log_e p_1 r.2]) (slVP (dC 32) r.1) := by
  refine CallOk.intro 28 Tryd.func52 rfl Tryd.ntmps52 (Nat.le_of_ble_eq_true rfl) ?_
  intro c a w hG hn h
  unfold keys_Signer_path at hF
  change SatL c [.slot 0 (aggVP [bytesCk 32 a_0.f_Seed, one (intVP .i64 a_0.f_Next), one (slVP (dC 32) a_0.f_Leaves)]), .slot 1 (eqVP p_1), .slot 2 (intVP .i64 a_2), .res (Log_e p_1 L_1)] a w at h
  refine regS mixed hn hG h [1, 2, 502, 3, 501] (ob [0] (op_box q0 (cells_agg _)) <| ov [] (op_assign (opc (ec _))) .nil) fun b1 a w h => ?_
  refine regS mixed hn hG h [0, 1, 2, 500, 3, 4] (ov [] (op_assign (opc (ec _))) .nil) fun _ a w h => ?_
  refine regS mixed hn hG h [0, 1, 3, 500, 4] (ov [2] (op_fieldAddr_lbm (p := (b1 0)) (n := 1) 0 33 Tryd.underlying27 rfl Tryd.sizeOf24 (by decide) q0 rfl) <| ov [500, 5] (op_load_lb1 [bytesCk 32 a_0.f_Seed, one (intVP .i64 a_0.f_Next)] [] 1 Tryd.isAgg24 q0 rfl rfl) <| ov [500] (op_assign q0) .nil) fun _ a w h => ?_
  refine wp_seq ?_
  refine wp_block ?_
  obtain ⟨q8, h⟩ : ∃ q8 : Value, SatL c [.slot 1 (eqVP p_1), .slot 2 (intVP .i64 a_2), .slot 7 (eqVP q8), .slot 8 (slVP (dC 32) a_0.f_Leaves), .res (Log_e p_1 L_1), .res (acc q8 23 32 (dC 32) [])] a w := ⟨.slice none 0 0, (h.nilacc 23 32 (dC 32)).sub [0, 1, 2, 3, 4, 5] (by rfl)⟩
  obtain ⟨cr34, hl35, hF⟩ := bind_some hF
  refine wp_mono (wp_loopN (R := (List (List UInt8)) × (Option O_Log)) (S := Int × (List (List UInt8)) × (Option O_Log) × (List (List UInt8))) (fun s a w => ∃ q18 : Value, SatL c [.slot 1 (eqVP p_1), .slot 2 (intVP .i64 s.1), .slot 7 (eqVP q18), .slot 8 (slVP (dC 32) s.2.1), .res (Log_e p_1 s.2.2.1), .res (acc q18 23 32 (dC 32) s.2.2.2)] a w) (fun res e a w => match res with | .next s => e = .exit 0 ∧ ∃ q18 : Value, SatL c [.slot 7 (eqVP q18), .res (Log_e p_1 s.2.2.1), .res (acc q18 23 32 (dC 32) s.2.2.2)] a w | .ret r => e = .ret ∧ RetOk Tryd.prog Tryd.f52 c (slVP (dC 32) r.1) (fun _ => [Log_e p_1 r.2]) a w) ?_ _ (a_2, a_0.f_Leaves, L_1, []) _ _ _ ⟨q8, (h.sub [0, 1, 2, 3, 4, 5] (by rfl))⟩ hl35) ?_
  · clear hl35 hF h
    intro s a w o h hF
    obtain ⟨x14, x15, x16, x17⟩ := s
    obtain ⟨q18, h⟩ := h
    change keys_Signer_path.b1 x14 x15 x16 x17 = some o at hF
    unfold keys_Signer_path.b1 at hF
    change SatL c [.slot 1 (eqVP p_1), .slot 2 (intVP .i64 x14), .slot 7 (eqVP q18), .slot 8 (slVP (dC 32) x15), .res (Log_e p_1 x16), .res (acc q18 23 32 (dC 32) x17)] a w at h
    refine wp_seq ?_
    refine regS mixed hn hG h [0, 1, 2, 3, 500, 4, 5] (ov [3] (op_move q0) <| ov [500] (op_len_sl Tryd.underlying24 q0) <| ov [500] (op_bin bin_gtr q0 qi) .nil) fun _ a w h => ?_
    refine cnd h hF 4 [0, 1, 2, 3, 5, 6] [0, 1, 2, 3, 5, 6] (fun hb29 hF h => ?_) (fun hb29 hF h => ?_)
    · refine wp_skip ?_
      show Code.wp Tryd.prog _ _ a w
      refine wp_block ?_
      obtain ⟨hv30, hF⟩ := ite_some hF
      obtain ⟨hv31, hF⟩ := ite_some hF
      refine regS mixed hn hG h [0, 1, 500, 3, 4, 501] (ov [2] (op_move q0) <| ov [3] (op_move q0) <| ov [1] (op_move q0) <| ov [500] (op_bin bin_xor q0 qi) <| ov [502, 500] (op_indexAddr_sl Tryd.underlying24 Tryd.sizeOf23 (lens_dC 32) q0 q1 hv30) <| ov [500] (op_load_pp [bytesCk 32 (x15.getD (bits .xor .i64 x14 1).toNat default)] [] Tryd.isAgg23 Tryd.sizeOf23 q0 rfl) <| ov [500] (op_lit (xs := [.tmp 19]) (ys := [x15.getD (bits .xor .i64 x14 1).toNat default]) _ rfl Tryd.underlying24 Tryd.sizeOf23 Tryd.zeroValue23 rfl rfl (by decide) (by decide) ⟨⟨_, q0, (cells_agg _)⟩, trivial⟩ (lens_dC 32)) <| og [506, 500] [5] [.slot 21 7 100000 (fun v1_ _ => (eqVP v1_)), .res 7 100000 (fun v1_ _ => (acc (v1_) 23 32 (dC 32) (x17 ++ [x15.getD (bits .xor .i64 x14 1).toNat default])))] (GOk.plain (op_append (i := Tryd.t23) Tryd.underlying24 Tryd.type23 rfl (lens_dC 32) (by decide) rfl q0 q1 hv31) rfl) <| og [501] [2] [.slot 7 7 100000 (fun v1_ _ => (eqVP v1_))] (fun {β} => (GOk.drop _ (GOk.plain (op_assign (V := (eqVP (β 7))) q0) rfl))) .nil) fun b32 a w h => ?_
      obtain ⟨r33, hr33, hF⟩ := bind_some hF
      refine reg mixed hn hG h [0, 500, 2, 501, 5, 504] (ov [0] (op_move q0) <| ov [3] (op_move q0) <| oc [501, 500] [4] Tryd.call49 (keys_up_ok hr33) ⟨q0, q1, trivial⟩ <| ov [1] (op_move q0) <| ov [500] (op_bin (bin_quo (by decide)) q0 qi) <| od [503] 3 (op_assign q0) <| od [501] 1 (op_assign q0) .nil) fun _ a w h => ?_
      obtain rfl := Option.some.inj hF
      exact ⟨rfl, (b32 7), h.sub [0, 1, 2, 3, 5, 4] (by rfl)⟩
    · refine wp_exit ?_
      obtain rfl := Option.some.inj hF
      exact ⟨exit_ne _, rfl, q18, h.sub [2, 4, 5] (by rfl)⟩
  · clear hl35
    intro e a w hq
    cases cr34 with
    | ret r36 =>
      obtain ⟨rfl, hq⟩ := hq
      obtain rfl := Option.some.inj hF
      exact ⟨.inl rfl, hq⟩
    | next s37 =>
      obtain ⟨y38, y39, y40, y41⟩ := s37
      obtain ⟨rfl, q18, h⟩ := hq
      change SatL c [.slot 7 (eqVP q18), .res (Log_e p_1 y40), .res (acc q18 23 32 (dC 32) y41)] a w at h
      refine inBlock_at ?_
      show Code.wp Tryd.prog _ _ a w
      refine regS mixed hn hG h [500, 1, 2] (ov [0] (op_move q0) <| ov [500] (op_assign q0) .nil) fun _ a w h => ?_
      refine wp_ret ?_
      obtain rfl := Option.some.inj hF
      exact ⟨.inl rfl, ret1 h Tryd.results52 (r_acc 0 2 rfl rfl) [1] [(Log_e p_1 y40)] rfl rfl rfl⟩

def keys_Signer_Again.j1 (a_0 : S_keys_Signer) (L_1 : Option O_Log) (a_2 : Int) (a_3 : List UInt8) (x4 : Bool) : Option (S_api_Sig × Int × (Option O_Log)) := (if x4 = true then some ((S_api_Sig.mk (0 : Int) [] [] []), 2, L_1) else ((lamport_Sign L_1 a_0.f_Seed a_2 a_3).bind fun r6 => ((keys_Signer_path a_0 r6.2.2 a_2).bind fun r7 => some ((S_api_Sig.mk a_2 r6.1 r6.2.1 r7.1), 0, r7.2))))
def keys_Signer_Again (a_0 : S_keys_Signer) (L_1 : Option O_Log) (a_2 : Int) (a_3 : List UInt8) : Option (S_api_Sig × Int × (Option O_Log)) := (if (!decide ((a_0.f_Leaves.length : Int) = (16 : Int))) = true then keys_Signer_Again.j1 a_0 L_1 a_2 a_3 true else (if (decide (a_2 < (0 : Int))) = true then keys_Signer_Again.j1 a_0 L_1 a_2 a_3 true else keys_Signer_Again.j1 a_0 L_1 a_2 a_3 (decide ((16 : Int) ≤ a_2))))
theorem keys_Signer_Again_ok {p_1 : Value} {a_0 : S_keys_Signer} {L_1 : Option O_Log} {a_2 : Int} {a_3 : List UInt8} {r : S_api_Sig × Int × (Option O_Log)} (hF : keys_Signer_Again a_0 L_1 a_2 a_3 = some r) : CallOk Tryd.prog KG 16 [(aggVP [bytesCk 32 a_0.f_Seed, one (intVP .i64 a_0.f_Next), one (slVP (dC 32) a_0.f_Leaves)]), (eqVP p_1), (intVP .i64 a_2), (aggVP [bytesCk 32 a_3])] [(Log_e p_1 L_1)] (fun _ => [Log_e p_1 r.2.2]) (tupVP [(aggVP [one (intVP .i64 r.1.f_Index), one (slVP (dC 32) r.1.f_Parts), one (slVP (dC 32) r.1.f_Others), one (slVP (dC 32) r.1.f_Path)]), (intVP .i64 r.2.1)]) := by
  refine CallOk.intro 42 Tryd.func16 rfl Tryd.ntmps16 (Nat.le_of_ble_eq_true rfl) ?_
  intro c a w hG hn h
  unfold keys_Signer_Again at hF
  change SatL c [.slot 0 (aggVP [bytesCk 32 a_0.f_Seed, one (intVP .i64 a_0.f_Next), one (slVP (dC 32) a_0.f_Leaves)]), .slot 1 (eqVP p_1), .slot 2 (intVP .i64 a_2), .slot 3 (aggVP [bytesCk 32 a_3]), .res (Log_e p_1 L_1)] a w at h
  refine regS mixed hn hG h [1, 2, 506, 504, 502, 4, 505, 503, 501] (ob [0] (op_box q0 (cells_agg _)) <| ob [3] (op_box q0 (cells_agg _)) <| ob [] (op_alloc Tryd.zeroValue31 z31) <| ov [] (op_assign qi) .nil) fun b1 a w h => ?_
  refine wp_seq ?_
  refine wp_seq ?_
  refine wp_cut (fun a w => ∃ (x4 : Bool), keys_Signer_Again.j1 a_0 L_1 a_2 a_3 x4 = some r ∧ SatL c [.slot 1 (eqVP p_1), .slot 2 (intVP .i64 a_2), .slot 4 (lpVP (b1 0) 0), .slot 7 (lpVP (b1 1) 0), .slot 8 (lpVP (b1 2) 0), .slot 23 (boolVP x4), .res (Log_e p_1 L_1), .res (lb (b1 0) 27 [bytesCk 32 a_0.f_Seed, one (intVP .i64 a_0.f_Next), one (slVP (dC 32) a_0.f_Leaves)]), .res (lb (b1 1) 23 [bytesCk 32 a_3]), .res (lb (b1 2) 31 [one (intVP .i64 ((S_api_Sig.mk (0 : Int) [] [] []).f_Index)), one (slVP (dC 32) ((S_api_Sig.mk (0 : Int) [] [] []).f_Parts)), one (slVP (dC 32) ((S_api_Sig.mk (0 : Int) [] [] []).f_Others)), one (slVP (dC 32) ((S_api_Sig.mk (0 : Int) [] [] []).f_Path))])] a w) ?_ ?_
  · rcases Bool.eq_false_or_eq_true (!decide ((a_0.f_Leaves.length : Int) = (16 : Int))) with hb8 | hb8
    · replace hF := tt_of hb8 hF
      refine reg mixed hn hG h [0, 1, 2, 3, 4, 500, 5, 6, 7, 8] (ov [2] (op_fieldAddr_lbm (p := (b1 0)) (n := 1) 0 33 Tryd.underlying27 rfl Tryd.sizeOf24 (by decide) q0 rfl) <| ov [500, 6] (op_load_lb1 [bytesCk 32 a_0.f_Seed, one (intVP .i64 a_0.f_Next)] [] 1 Tryd.isAgg24 q0 rfl rfl) <| ov [500] (op_len_sl Tryd.underlying24 q0) <| ov [500] (op_bin bin_neq q0 qi) <| ov [500] (op_move q0) <| oe [500] [] (GOk.off_v (want := false) hb8 rfl rfl rfl rfl) <| oe [501] [] (GOk.off_v (want := false) hb8 rfl rfl rfl rfl) <| ov [502] (op_pick_t hb8 q0 qb) <| ov [500] (op_move q0) <| oe [500] [] (GOk.off_v (want := false) rfl rfl rfl rfl rfl) <| oe [501] [] (GOk.off_v (want := false) rfl rfl rfl rfl rfl) <| ov [502] (op_pick_t rfl q0 qb) .nil) fun _ a w h => ?_
      exact ⟨true, hF, h.sub [0, 1, 2, 3, 4, 5, 6, 7, 8, 9] (by rfl)⟩
    · replace hF := ff_of hb8 hF
      rcases Bool.eq_false_or_eq_true (decide (a_2 < (0 : Int))) with hb9 | hb9
      · replace hF := tt_of hb9 hF
        refine reg mixed hn hG h [0, 1, 2, 3, 4, 500, 5, 6, 7, 8] (ov [2] (op_fieldAddr_lbm (p := (b1 0)) (n := 1) 0 33 Tryd.underlying27 rfl Tryd.sizeOf24 (by decide) q0 rfl) <| ov [500, 6] (op_load_lb1 [bytesCk 32 a_0.f_Seed, one (intVP .i64 a_0.f_Next)] [] 1 Tryd.isAgg24 q0 rfl rfl) <| ov [500] (op_len_sl Tryd.underlying24 q0) <| ov [500] (op_bin bin_neq q0 qi) <| ov [500] (op_move q0) <| oe [500, 1] [] (GOk.on_eq hb8 rfl rfl rfl (op_move q0)) <| oe [501, 500] [] (GOk.on_eq hb8 rfl rfl rfl (op_bin bin_lss q0 qi)) <| ov [502, 500] (op_pick_f hb8 q0 q1) <| ov [500] (op_move q0) <| oe [500] [] (GOk.off_v (want := false) hb9 rfl rfl rfl rfl) <| oe [501] [] (GOk.off_v (want := false) hb9 rfl rfl rfl rfl) <| ov [502] (op_pick_t hb9 q0 qb) .nil) fun _ a w h => ?_
        exact ⟨true, hF, h.sub [0, 1, 2, 3, 4, 5, 6, 7, 8, 9] (by rfl)⟩
      · replace hF := ff_of hb9 hF
        refine reg mixed hn hG h [0, 1, 2, 3, 4, 500, 5, 6, 7, 8] (ov [2] (op_fieldAddr_lbm (p := (b1 0)) (n := 1) 0 33 Tryd.underlying27 rfl Tryd.sizeOf24 (by decide) q0 rfl) <| ov [500, 6] (op_load_lb1 [bytesCk 32 a_0.f_Seed, one (intVP .i64 a_0.f_Next)] [] 1 Tryd.isAgg24 q0 rfl rfl) <| ov [500] (op_len_sl Tryd.underlying24 q0) <| ov [500] (op_bin bin_neq q0 qi) <| ov [500] (op_move q0) <| oe [500, 1] [] (GOk.on_eq hb8 rfl rfl rfl (op_move q0)) <| oe [501, 500] [] (GOk.on_eq hb8 rfl rfl rfl (op_bin bin_lss q0 qi)) <| ov [502, 500] (op_pick_f hb8 q0 q1) <| ov [500] (op_move q0) <| oe [500, 1] [] (GOk.on_eq hb9 rfl rfl rfl (op_move q0)) <| oe [501, 500] [] (GOk.on_eq hb9 rfl rfl rfl (op_bin bin_geq q0 qi)) <| ov [502, 500] (op_pick_f hb9 q0 q1) .nil) fun _ a w h => ?_
        exact ⟨decide ((16 : Int) ≤ a_2), hF, h.sub [0, 1, 2, 3, 4, 5, 6, 7, 8, 9] (by rfl)⟩
  · clear h hF
    rintro a w ⟨x4, hF, h⟩
    unfold keys_Signer_Again.j1 at hF
    show Code.wp Tryd.prog _ _ a w
    refine cnd h hF 5 [4, 6, 9] [0, 1, 2, 3, 4, 6, 7, 8, 9] (fun hb5 hF h => ?_) (fun hb5 hF h => ?_)
    · refine regS mixed hn hG h [0, 500, 1, 501] (ov [] (op_build [] rfl bu31 z31 rfl) <| ou [0, 500] 2 (op_store_w Tryd.sizeOf31 q0 q1 (cells_agg _)) <| ov [] (op_assign qi) .nil) fun _ a w h => ?_
      refine wp_ret ?_
      obtain rfl := Option.some.inj hF
      exact ⟨.inl rfl, retn h (rs := [.cell 8 31, .tmp 9]) (Vs := [(aggVP [one (intVP .i64 (0 : Int)), one (slVP (dC 32) []), one (slVP (dC 32) []), one (slVP (dC 32) [])]), (intVP .i64 2)]) Tryd.results16 (by decide) ⟨(r_cell 0 3 rfl rfl Tryd.isAgg31 Tryd.sizeOf31 rfl), (r_tmp 1 rfl), trivial⟩ [2] [(Log_e p_1 L_1)] rfl rfl rfl⟩
    · refine wp_skip ?_
      show Code.wp Tryd.prog _ _ a w
      obtain ⟨r6, hr6, hF⟩ := bind_some hF
      refine regS mixed hn hG h [0, 1, 2, 4, 501, 500, 6, 8, 505] (ov [0] (op_move q0) <| ov [2] (op_fieldAddr_lbm (p := (b1 0)) (n := 32) 0 0 Tryd.underlying27 rfl Tryd.sizeOf23 (by decide) q0 rfl) <| ov [500, 6] (op_load_lb [] [bytesCk 32 a_0.f_Seed] [one (intVP .i64 a_0.f_Next), one (slVP (dC 32) a_0.f_Leaves)] 1 Tryd.isAgg23 Tryd.sizeOf23 q0 rfl rfl rfl) <| ov [1] (op_move q0) <| ov [3, 7] (op_load_w 1 Tryd.isAgg23 Tryd.sizeOf23 q0) <| oc [504, 502, 501, 500] [5] Tryd.call51 (lamport_Sign_ok hr6) ⟨q0, q1, q2, q3, trivial⟩ <| ov [501] (op_move q0) <| ov [500] (op_extract q0 rfl) <| ov [501] (op_extract q0 rfl) <| ov [501] (op_assign q0) <| ov [501] (op_assign q0) .nil) fun _ a w h => ?_
      obtain ⟨r7, hr7, hF⟩ := bind_some hF
      refine regS mixed hn hG h [3, 500, 501, 503] (ov [1] (op_move q0) <| ov [4] (op_move q0) <| ov [5] (op_move q0) <| ov [2, 6] (op_load_w 1 Tryd.isAgg27 Tryd.sizeOf27 q0) <| ov [0] (op_move q0) <| ov [1] (op_move q0) <| oc [502, 501, 500] [8] Tryd.call52 (keys_Signer_path_ok hr7) ⟨q0, q1, q2, trivial⟩ <| ov [507, 506, 505, 501] (op_build [(0, .tmp 34), (1, .tmp 35), (2, .tmp 36), (3, .tmp 40)] rfl bu31 z31 ⟨[], [one (intVP .i64 (0 : Int))], [one (slVP (dC 32) []), one (slVP (dC 32) []), one (slVP (dC 32) [])], [one (intVP .i64 a_2)], _, rfl, rfl, rfl, q0, (cells_one (one_int _ _)), ⟨[one (intVP .i64 a_2)], [one (slVP (dC 32) [])], [one (slVP (dC 32) []), one (slVP (dC 32) [])], [one (slVP (dC 32) r6.1)], _, rfl, rfl, rfl, q1, (cells_one (one_sl _ _)), ⟨[one (intVP .i64 a_2), one (slVP (dC 32) r6.1)], [one (slVP (dC 32) [])], [one (slVP (dC 32) [])], [one (slVP (dC 32) r6.2.1)], _, rfl, rfl, rfl, q2, (cells_one (one_sl _ _)), ⟨[one (intVP .i64 a_2), one (slVP (dC 32) r6.1), one (slVP (dC 32) r6.2.1)], [one (slVP (dC 32) [])], [], [one (slVP (dC 32) r7.1)], _, rfl, rfl, rfl, q3, (cells_one (one_sl _ _)), rfl⟩⟩⟩⟩) <| ou [3, 500] 7 (op_store_w Tryd.sizeOf31 q0 q1 (cells_agg _)) <| ov [] (op_assign qi) .nil) fun _ a w h => ?_
      refine wp_ret ?_
      obtain rfl := Option.some.inj hF
      exact ⟨.inl rfl, retn h (rs := [.cell 8 31, .tmp 9]) (Vs := [(aggVP [one (intVP .i64 a_2), one (slVP (dC 32) r6.1), one (slVP (dC 32) r6.2.1), one (slVP (dC 32) r7.1)]), (intVP .i64 0)]) Tryd.results16 (by decide) ⟨(r_cell 0 2 rfl rfl Tryd.isAgg31 Tryd.sizeOf31 rfl), (r_tmp 1 rfl), trivial⟩ [3] [(Log_e p_1 r7.2)] rfl rfl rfl⟩

def slices_Clone_api_Digest (a_0 : List (List UInt8)) : Option (List (List UInt8)) := (if a_0.length * 32 ≤ 140737488355328 then some a_0 else none)
theorem slices_Clone_api_Digest_ok {a_0 r : List (List UInt8)} (hF : slices_Clone_api_Digest a_0 = some r) : CallOk Tryd.prog KG 50 [(slVP (dC 32) a_0)] [] (fun _ => []) (slVP (dC 32) r) := by
  unfold slices_Clone_api_Digest at hF
  obtain ⟨hv1, hF⟩ := ite_some hF
  obtain rfl := Option.some.inj hF
  refine CallOk.intro 8 Tryd.func50 rfl Tryd.ntmps50 (Nat.le_of_ble_eq_true rfl) ?_
  intro c a w hG hn h
  change SatL c [.slot 0 (slVP (dC 32) a_0)] a w at h
  refine wp_seq ?_
  refine region_do (n := 8) [.slot 2 100000 100000 (fun _ _ => (eqVP (.slice none 0 0)))] [0] [⟨[], [], [1], [], some 2⟩] [0] mixed hn hG h (by kernel_rfl) ?_ ?_
  · exact ⟨⟨rfl, fun β => (GOk.plain (op_assign (opc (ec _))) rfl)⟩, trivial⟩
  clear h
  intro β a w h
  change SatL c [.slot 0 (slVP (dC 32) a_0)] a w at h
  clear β
  show Code.wp Tryd.prog _ _ a w
  refine wp_seq ?_
  refine wp_seq ?_
  refine region_do (n := 8) [.slot 3 100000 100000 (fun _ _ => (slVP (dC 32) a_0)), .slot 4 100000 100000 (fun _ _ => (nilqVP a_0))] [0, 1] [⟨[0], [], [1], [], some 3⟩, ⟨[1], [], [2], [0], some 4⟩] [0, 2] mixed hn hG h (by kernel_rfl) ?_ ?_
  · exact ⟨⟨rfl, fun β => (GOk.plain (op_move (opt 0 rfl)) rfl)⟩, ⟨rfl, fun β => (GOk.plain (op_bin (bin_slnil Tryd.underlying24) (opt 0 rfl) (opc (ec _))) rfl)⟩, trivial⟩
  clear h
  intro β a w h
  change SatL c [.slot 0 (slVP (dC 32) a_0), .slot 4 (nilqVP a_0)] a w at h
  clear β
  show Code.wp Tryd.prog _ _ a w
  obtain ⟨b0, hb0, h⟩ := h.nilq 1 rfl
  change SatL c [.slot 0 (slVP (dC 32) a_0), .slot 4 (boolVP b0)] a w at h
  refine cond_L h 1 rfl (fun hb => ?_) (fun hb => ?_)
  · obtain rfl := hb0 hb
    replace h := h.sub [] (by rfl)
    change SatL c [] a w at h
    refine wp_seq ?_
    refine region_do (n := 8) [.slot 2 100000 100000 (fun _ _ => (eqVP (.slice none 0 0)))] [0] [⟨[], [], [0], [], some 2⟩] [0] mixed hn hG h (by kernel_rfl) ?_ ?_
    · exact ⟨⟨rfl, fun β => (GOk.plain (op_assign (opc (ec _))) rfl)⟩, trivial⟩
    clear h
    intro β a w h
    change SatL c [.slot 2 (eqVP (.slice none 0 0))] a w at h
    clear β
    show Code.wp Tryd.prog _ _ a w
    refine wp_ret ?_
    exact ⟨.inl rfl, ret1 h Tryd.results50 (r_nil 0 rfl) [] [] rfl rfl rfl⟩
  · replace h := h.sub [0] (by rfl)
    change SatL c [.slot 0 (slVP (dC 32) a_0)] a w at h
    refine wp_skip ?_
    show Code.wp Tryd.prog _ _ a w
    refine wp_seq ?_
    refine region_do (n := 8) [.slot 5 100000 100000 (fun _ _ => empVP), .slot 6 100000 100000 (fun _ _ => (slVP (dC 32) a_0)), .slot 7 100000 100000 (fun _ _ => (slVP (dC 32) a_0)), .slot 2 100000 100000 (fun _ _ => (slVP (dC 32) a_0))] [0, 1, 2, 3] [⟨[], [], [1], [], some 5⟩, ⟨[0], [], [2], [0], some 6⟩, ⟨[1, 2], [], [3], [0, 1], some 7⟩, ⟨[3], [], [4], [0, 1, 2], some 2⟩] [4] mixed hn hG h (by kernel_rfl) ?_ ?_
    · exact ⟨⟨rfl, fun β => (GOk.plain (op_lit0 Tryd.underlying24 Tryd.sizeOf23 Tryd.zeroValue23) rfl)⟩, ⟨rfl, fun β => (GOk.plain (op_move (opt 0 rfl)) rfl)⟩, ⟨rfl, fun β => (GOk.plain (op_append_emp (i := Tryd.t23) Tryd.underlying24 Tryd.type23 rfl (lens_dC 32) (by decide) rfl (opt 0 rfl) (opt 1 rfl) hv1) rfl)⟩, ⟨rfl, fun β => (GOk.plain (op_assign (opt 0 rfl)) rfl)⟩, trivial⟩
    clear h
    intro β a w h
    change SatL c [.slot 2 (slVP (dC 32) a_0)] a w at h
    clear β
    show Code.wp Tryd.prog _ _ a w
    refine wp_ret ?_
    exact ⟨.inl rfl, ret1 h Tryd.results50 (r_tmp 0 rfl) [] [] rfl rfl rfl⟩

def keys_Signer_Sign.j1 (a_0 : S_keys_Signer) (L_1 : Option O_Log) (a_2 : List UInt8) (x5 : Bool) : Option (S_keys_Signer × S_api_Sig × Int × (Option O_Log)) := (if x5 = true then some (a_0, (S_api_Sig.mk (0 : Int) [] [] []), 22, L_1) else ((keys_Signer_Again a_0 L_1 a_0.f_Next a_2).bind fun r7 => (if (!decide (r7.2.1 = (0 : Int))) = true then some (a_0, (S_api_Sig.mk (0 : Int) [] [] []), r7.2.1, r7.2.2) else ((slices_Clone_api_Digest a_0.f_Leaves).bind fun r10 => some ((S_keys_Signer.mk a_0.f_Seed (IntKind.wrap .i64 (a_0.f_Next + 1)) r10), r7.1, 0, r7.2.2)))))
def keys_Signer_Sign (a_0 : S_keys_Signer) (L_1 : Option O_Log) (a_2 : List UInt8) : Option (S_keys_Signer × S_api_Sig × Int × (Option O_Log)) := (if (decide (a_0.f_Next < (0 : Int))) = true then keys_Signer_Sign.j1 a_0 L_1 a_2 true else keys_Signer_Sign.j1 a_0 L_1 a_2 (decide ((16 : Int) ≤ a_0.f_Next)))
theorem keys_Signer_Sign_ok {p_1 : Value} {a_0 : S_keys_Signer} {L_1 : Option O_Log} {a_2 : List UInt8} {r : S_keys_Signer × S_api_Sig × Int × (Option O_Log)} (hF : keys_Signer_Sign a_0 L_1 a_2 = some r) : CallOk Tryd.prog KG 14 [(aggVP [bytesCk 32 a_0.f_Seed, one (intVP .i64 a_0.f_Next), one (slVP (dC 32) a_0.f_Leaves)]), (eqVP p_1), (aggVP [bytesCk 32 a_2])] [(Log_e p_1 L_1)] (fun _ => [Log_e p_1 r.2.2.2]) (tupVP [(aggVP [bytesCk 32 r.1.f_Seed, one (intVP .i64 r.1.f_Next), one (slVP (dC 32) r.1.f_Leaves)]), (aggVP [one (intVP .i64 r.2.1.f_Index), one (slVP (dC 32) r.2.1.f_Parts), one (slVP (dC 32) r.2.1.f_Others), one (slVP (dC 32) r.2.1.f_Path)]), (intVP .i64 r.2.2.1)]) := by
  refine CallOk.intro 45 Tryd.func14 rfl Tryd.ntmps14 (Nat.le_of_ble_eq_true rfl) ?_
  intro c a w hG hn h
  unfold keys_Signer_Sign at hF
  change SatL c [.slot 0 (aggVP [bytesCk 32 a_0.f_Seed, one (intVP .i64 a_0.f_Next), one (slVP (dC 32) a_0.f_Leaves)]), .slot 1 (eqVP p_1), .slot 2 (aggVP [bytesCk 32 a_2]), .res (Log_e p_1 L_1)] a w at h
  refine regS mixed hn hG h [1, 508, 506, 504, 502, 3, 507, 505, 503, 501] (ob [0] (op_box q0 (cells_agg _)) <| ob [2] (op_box q0 (cells_agg _)) <| ob [] (op_alloc Tryd.zeroValue27 z27) <| ob [] (op_alloc Tryd.zeroValue31 z31) <| ov [] (op_assign qi) .nil) fun b1 a w h => ?_
  refine wp_seq ?_
  refine wp_seq ?_
  refine wp_cut (fun a w => ∃ (x5 : Bool), keys_Signer_Sign.j1 a_0 L_1 a_2 x5 = some r ∧ SatL c [.slot 1 (eqVP p_1), .slot 3 (lpVP (b1 0) 0), .slot 5 (lpVP (b1 1) 0), .slot 6 (lpVP (b1 2) 0), .slot 7 (lpVP (b1 3) 0), .slot 18 (boolVP x5), .res (Log_e p_1 L_1), .res (lb (b1 0) 27 [bytesCk 32 a_0.f_Seed, one (intVP .i64 a_0.f_Next), one (slVP (dC 32) a_0.f_Leaves)]), .res (lb (b1 1) 23 [bytesCk 32 a_2]), .res (lb (b1 2) 27 [bytesCk 32 ((S_keys_Signer.mk (List.replicate 32 0) (0 : Int) []).f_Seed), one (intVP .i64 ((S_keys_Signer.mk (List.replicate 32 0) (0 : Int) []).f_Next)), one (slVP (dC 32) ((S_keys_Signer.mk (List.replicate 32 0) (0 : Int) []).f_Leaves))]), .res (lb (b1 3) 31 [one (intVP .i64 ((S_api_Sig.mk (0 : Int) [] [] []).f_Index)), one (slVP (dC 32) ((S_api_Sig.mk (0 : Int) [] [] []).f_Parts)), one (slVP (dC 32) ((S_api_Sig.mk (0 : Int) [] [] []).f_Others)), one (slVP (dC 32) ((S_api_Sig.mk (0 : Int) [] [] []).f_Path))])] a w) ?_ ?_
  · rcases Bool.eq_false_or_eq_true (decide (a_0.f_Next < (0 : Int))) with hb11 | hb11
    · replace hF := tt_of hb11 hF
      refine reg mixed hn hG h [0, 1, 2, 3, 4, 500, 5, 6, 7, 8, 9] (ov [1] (op_fieldAddr_lbm (p := (b1 0)) (n := 1) 0 32 Tryd.underlying27 rfl Tryd.sizeOf3 (by decide) q0 rfl) <| ov [500, 6] (op_load_lb1 [bytesCk 32 a_0.f_Seed] [one (slVP (dC 32) a_0.f_Leaves)] 1 Tryd.isAgg3 q0 rfl rfl) <| ov [500] (op_bin bin_lss q0 qi) <| ov [500] (op_move q0) <| oe [500] [] (GOk.off_v (want := false) hb11 rfl rfl rfl rfl) <| oe [501] [] (GOk.off_v (want := false) hb11 rfl rfl rfl rfl) <| oe [502] [] (GOk.off_v (want := false) hb11 rfl rfl rfl rfl) <| ov [503] (op_pick_t hb11 q0 qb) .nil) fun _ a w h => ?_
      exact ⟨true, hF, h.sub [0, 1, 2, 3, 4, 5, 6, 7, 8, 9, 10] (by rfl)⟩
    · replace hF := ff_of hb11 hF
      refine reg mixed hn hG h [0, 1, 2, 3, 4, 500, 5, 6, 7, 8, 9] (ov [1] (op_fieldAddr_lbm (p := (b1 0)) (n := 1) 0 32 Tryd.underlying27 rfl Tryd.sizeOf3 (by decide) q0 rfl) <| ov [500, 6] (op_load_lb1 [bytesCk 32 a_0.f_Seed] [one (slVP (dC 32) a_0.f_Leaves)] 1 Tryd.isAgg3 q0 rfl rfl) <| ov [500] (op_bin bin_lss q0 qi) <| ov [500] (op_move q0) <| oe [500, 1] [] (GOk.on_eq hb11 rfl rfl rfl (op_fieldAddr_lbm (p := (b1 0)) (n := 1) 0 32 Tryd.underlying27 rfl Tryd.sizeOf3 (by decide) q0 rfl)) <| oe [501, 500, 6] [] (GOk.on_eq hb11 rfl rfl rfl (op_load_lb1 [bytesCk 32 a_0.f_Seed] [one (slVP (dC 32) a_0.f_Leaves)] 1 Tryd.isAgg3 q0 rfl rfl)) <| oe [502, 500] [] (GOk.on_eq hb11 rfl rfl rfl (op_bin bin_geq q0 qi)) <| ov [503, 500] (op_pick_f hb11 q0 q1) .nil) fun _ a w h => ?_
      exact ⟨decide ((16 : Int) ≤ a_0.f_Next), hF, h.sub [0, 1, 2, 3, 4, 5, 6, 7, 8, 9, 10] (by rfl)⟩
  · clear h hF
    rintro a w ⟨x5, hF, h⟩
    unfold keys_Signer_Sign.j1 at hF
    show Code.wp Tryd.prog _ _ a w
    refine cnd h hF 5 [1, 3, 4, 6, 7, 9, 10] [0, 1, 2, 3, 4, 6, 7, 8, 9, 10] (fun hb6 hF h => ?_) (fun hb6 hF h => ?_)
    · refine regS mixed hn hG h [1, 2, 500, 3, 502, 501] (ov [0, 4] (op_load_w 1 Tryd.isAgg27 Tryd.sizeOf27 q0) <| ov [] (op_build [] rfl bu31 z31 rfl) <| ou [1, 501] 5 (op_store_w Tryd.sizeOf27 q0 q1 (cells_agg _)) <| ou [2, 501] 6 (op_store_w Tryd.sizeOf31 q0 q1 (cells_agg _)) <| ov [] (op_assign qi) .nil) fun _ a w h => ?_
      refine wp_ret ?_
      obtain rfl := Option.some.inj hF
      exact ⟨.inl rfl, retn h (rs := [.cell 6 27, .cell 7 31, .tmp 8]) (Vs := [(aggVP [bytesCk 32 a_0.f_Seed, one (intVP .i64 a_0.f_Next), one (slVP (dC 32) a_0.f_Leaves)]), (aggVP [one (intVP .i64 (0 : Int)), one (slVP (dC 32) []), one (slVP (dC 32) []), one (slVP (dC 32) [])]), (intVP .i64 22)]) Tryd.results14 (by decide) ⟨(r_cell 0 4 rfl rfl Tryd.isAgg27 Tryd.sizeOf27 rfl), (r_cell 1 5 rfl rfl Tryd.isAgg31 Tryd.sizeOf31 rfl), (r_tmp 2 rfl), trivial⟩ [3] [(Log_e p_1 L_1)] rfl rfl rfl⟩
    · refine wp_skip ?_
      show Code.wp Tryd.prog _ _ a w
      obtain ⟨r7, hr7, hF⟩ := bind_some hF
      refine regS mixed hn hG h [1, 3, 4, 503, 500, 6, 8, 9, 507, 501] (ov [1, 6] (op_load_w 1 Tryd.isAgg27 Tryd.sizeOf27 q0) <| ov [0] (op_move q0) <| ov [1] (op_fieldAddr_lbm (p := (b1 0)) (n := 1) 0 32 Tryd.underlying27 rfl Tryd.sizeOf3 (by decide) q0 rfl) <| ov [500, 6] (op_load_lb1 [bytesCk 32 a_0.f_Seed] [one (slVP (dC 32) a_0.f_Leaves)] 1 Tryd.isAgg3 q0 rfl rfl) <| ov [2, 7] (op_load_w 1 Tryd.isAgg23 Tryd.sizeOf23 q0) <| oc [504, 503, 501, 500] [5] Tryd.call16 (keys_Signer_Again_ok hr7) ⟨q0, q1, q2, q3, trivial⟩ <| ov [501] (op_move q0) <| ov [500] (op_extract q0 rfl) <| ov [501] (op_extract q0 rfl) <| ob [] (op_alloc Tryd.zeroValue31 z31) <| og [501, 503] [500] [.res 9 100000 (fun v1_ _ => (lb (v1_) 31 [one (intVP .i64 r7.1.f_Index), one (slVP (dC 32) r7.1.f_Parts), one (slVP (dC 32) r7.1.f_Others), one (slVP (dC 32) r7.1.f_Path)]))] (GOk.plain (op_store_w Tryd.sizeOf31 q0 q1 (cells_agg _)) rfl) <| ov [503] (op_assign q0) .nil) fun b8 a w h => ?_
      refine wp_seq ?_
      refine regS mixed hn hG h [0, 1, 2, 3, 4, 500, 5, 6, 7, 8, 9] (ov [4] (op_move q0) <| ov [500] (op_bin bin_neq q0 qi) .nil) fun _ a w h => ?_
      refine cnd h hF 5 [0, 1, 2, 4, 6, 7, 8, 9] [0, 1, 2, 3, 6, 7, 8, 9, 10] (fun hb9 hF h => ?_) (fun hb9 hF h => ?_)
      · refine regS mixed hn hG h [1, 2, 500, 502, 501, 7] (ov [0, 4] (op_load_w 1 Tryd.isAgg27 Tryd.sizeOf27 q0) <| ov [] (op_build [] rfl bu31 z31 rfl) <| ov [3] (op_move q0) <| ou [1, 502] 5 (op_store_w Tryd.sizeOf27 q0 q1 (cells_agg _)) <| ou [2, 502] 6 (op_store_w Tryd.sizeOf31 q0 q1 (cells_agg _)) <| ov [502] (op_assign q0) .nil) fun _ a w h => ?_
        refine wp_ret ?_
        obtain rfl := Option.some.inj hF
        exact ⟨.inl rfl, retn h (rs := [.cell 6 27, .cell 7 31, .tmp 8]) (Vs := [(aggVP [bytesCk 32 a_0.f_Seed, one (intVP .i64 a_0.f_Next), one (slVP (dC 32) a_0.f_Leaves)]), (aggVP [one (intVP .i64 (0 : Int)), one (slVP (dC 32) []), one (slVP (dC 32) []), one (slVP (dC 32) [])]), (intVP .i64 r7.2.1)]) Tryd.results14 (by decide) ⟨(r_cell 0 3 rfl rfl Tryd.isAgg27 Tryd.sizeOf27 rfl), (r_cell 1 4 rfl rfl Tryd.isAgg31 Tryd.sizeOf31 rfl), (r_tmp 2 rfl), trivial⟩ [5] [(Log_e p_1 r7.2.2)] rfl rfl rfl⟩
      · refine wp_skip ?_
        show Code.wp Tryd.prog _ _ a w
        refine regS mixed hn hG h [0, 1, 2, 3, 500, 5, 6, 7, 8] (ov [0] (op_fieldAddr_lbm (p := (b1 0)) (n := 1) 0 32 Tryd.underlying27 rfl Tryd.sizeOf3 (by decide) q0 rfl) <| ov [500, 4] (op_load_lb1 [bytesCk 32 a_0.f_Seed] [one (slVP (dC 32) a_0.f_Leaves)] 1 Tryd.isAgg3 q0 rfl rfl) <| ov [500] (op_bin bin_add q0 qi) <| ov [0] (op_fieldAddr_lbm (p := (b1 0)) (n := 1) 0 32 Tryd.underlying27 rfl Tryd.sizeOf3 (by decide) q0 rfl) <| ou [500, 501] 4 (op_store_lb [bytesCk 32 a_0.f_Seed] [one (intVP .i64 a_0.f_Next)] [one (slVP (dC 32) a_0.f_Leaves)] [one (intVP .i64 (IntKind.wrap .i64 (a_0.f_Next + 1)))] Tryd.sizeOf3 q0 q1 (cells_one (one_int _ _)) rfl rfl rfl) .nil) fun _ a w h => ?_
        obtain ⟨r10, hr10, hF⟩ := bind_some hF
        refine regS mixed hn hG h [0, 1, 2, 3, 500, 5, 6, 7, 8] (ov [0] (op_fieldAddr_lbm (p := (b1 0)) (n := 1) 0 33 Tryd.underlying27 rfl Tryd.sizeOf24 (by decide) q0 rfl) <| ov [500, 4] (op_load_lb1 [bytesCk 32 a_0.f_Seed, one (intVP .i64 (IntKind.wrap .i64 (a_0.f_Next + 1)))] [] 1 Tryd.isAgg24 q0 rfl rfl) <| oc [500] [] Tryd.call50 (slices_Clone_api_Digest_ok hr10) ⟨q0, trivial⟩ <| ov [0] (op_fieldAddr_lbm (p := (b1 0)) (n := 1) 0 33 Tryd.underlying27 rfl Tryd.sizeOf24 (by decide) q0 rfl) <| ou [500, 501] 4 (op_store_lb [bytesCk 32 a_0.f_Seed, one (intVP .i64 (IntKind.wrap .i64 (a_0.f_Next + 1)))] [one (slVP (dC 32) a_0.f_Leaves)] [] [one (slVP (dC 32) r10)] Tryd.sizeOf24 q0 q1 (cells_one (one_sl _ _)) rfl rfl rfl) .nil) fun _ a w h => ?_
        refine regS mixed hn hG h [1, 2, 500, 502, 501, 7] (ov [0, 4] (op_load_w 1 Tryd.isAgg27 Tryd.sizeOf27 q0) <| ov [3, 8] (op_load_w 1 Tryd.isAgg31 Tryd.sizeOf31 q0) <| ou [1, 501] 5 (op_store_w Tryd.sizeOf27 q0 q1 (cells_agg _)) <| ou [2, 501] 6 (op_store_w Tryd.sizeOf31 q0 q1 (cells_agg _)) <| ov [] (op_assign qi) .nil) fun _ a w h => ?_
        refine wp_ret ?_
        obtain rfl := Option.some.inj hF
        exact ⟨.inl rfl, retn h (rs := [.cell 6 27, .cell 7 31, .tmp 8]) (Vs := [(aggVP [bytesCk 32 a_0.f_Seed, one (intVP .i64 (IntKind.wrap .i64 (a_0.f_Next + 1))), one (slVP (dC 32) r10)]), (aggVP [one (intVP .i64 r7.1.f_Index), one (slVP (dC 32) r7.1.f_Parts), one (slVP (dC 32) r7.1.f_Others), one (slVP (dC 32) r7.1.f_Path)]), (intVP .i64 0)]) Tryd.results14 (by decide) ⟨(r_cell 0 3 rfl rfl Tryd.isAgg27 Tryd.sizeOf27 rfl), (r_cell 1 4 rfl rfl Tryd.isAgg31 Tryd.sizeOf31 rfl), (r_tmp 2 rfl), trivial⟩ [5] [(Log_e p_1 r7.2.2)] rfl rfl rfl⟩

def update_Claim (L_0 : Option O_Log) (a_1 : Int) (a_2 : List UInt8) (a_3 : List UInt8) : Option ((List UInt8) × (Option O_Log)) := ((wire_Word a_1).bind fun r4 => ((wire_Digest a_2).bind fun r5 => ((wire_Digest a_3).bind fun r6 => ((digest_Log_Of L_0 7 [r4, r5, r6]).bind fun r7 => some (r7.1, r7.2)))))
theorem update_Claim_ok {p_0 : Value} {L_0 : Option O_Log} {a_1 : Int} {a_2 : List UInt8} {a_3 : List UInt8} {r : (List UInt8) × (Option O_Log)} (hF : update_Claim L_0 a_1 a_2 a_3 = some r) : CallOk Tryd.prog KG 30 [(eqVP p_0), (intVP .u32 a_1), (aggVP [bytesCk 32 a_2]), (aggVP [bytesCk 32 a_3])] [(Log_e p_0 L_0)] (fun _ => [Log_e p_0 r.2]) (aggVP [bytesCk 32 r.1]) := by
  refine CallOk.intro 18 Tryd.func30 rfl Tryd.ntmps30 (Nat.le_of_ble_eq_true rfl) ?_
  intro c a w hG hn h
  unfold update_Claim at hF
  change SatL c [.slot 0 (eqVP p_0), .slot 1 (intVP .u32 a_1), .slot 2 (aggVP [bytesCk 32 a_2]), .slot 3 (aggVP [bytesCk 32 a_3]), .res (Log_e p_0 L_0)] a w at h
  refine regS mixed hn hG h [0, 1, 505, 503, 501, 4, 504, 502, 500] (ob [2] (op_box q0 (cells_agg _)) <| ob [3] (op_box q0 (cells_agg _)) <| ob [] (op_alloc Tryd.zeroValue23 z23) .nil) fun b1 a w h => ?_
  obtain ⟨r4, hr4, hF⟩ := bind_some hF
  obtain ⟨r5, hr5, hF⟩ := bind_some hF
  obtain ⟨r6, hr6, hF⟩ := bind_some hF
  obtain ⟨r7, hr7, hF⟩ := bind_some hF
  refine regS mixed hn hG h [4, 500, 501] (ov [0] (op_move q0) <| ov [1] (op_move q0) <| oc [500] [] Tryd.call63 (wire_Word_ok hr4) ⟨q0, trivial⟩ <| ov [2, 6] (op_load_w 1 Tryd.isAgg23 Tryd.sizeOf23 q0) <| oc [500] [] Tryd.call64 (wire_Digest_ok hr5) ⟨q0, trivial⟩ <| ov [3, 7] (op_load_w 1 Tryd.isAgg23 Tryd.sizeOf23 q0) <| oc [500] [] Tryd.call64 (wire_Digest_ok hr6) ⟨q0, trivial⟩ <| ov [504, 502, 500] (op_lit (xs := [.tmp 11, .tmp 13, .tmp 15]) (ys := [r4, r5, r6]) _ rfl Tryd.underlying101 Tryd.sizeOf9 Tryd.zeroValue9 rfl rfl (by decide) (by decide) ⟨⟨_, q0, (cells_one (one_str _))⟩, ⟨_, q1, (cells_one (one_str _))⟩, ⟨_, q2, (cells_one (one_str _))⟩, trivial⟩ lens_strC) <| oc [507, 500] [5] Tryd.call62 (digest_Log_Of_ok hr7) ⟨q0, qi, q1, trivial⟩ <| ou [4, 501] 8 (op_store_w Tryd.sizeOf23 q0 q1 (cells_agg _)) .nil) fun _ a w h => ?_
  refine wp_ret ?_
  obtain rfl := Option.some.inj hF
  exact ⟨.inl rfl, ret1 h Tryd.results30 (r_cell 0 1 rfl rfl Tryd.isAgg23 Tryd.sizeOf23 rfl) [2] [(Log_e p_0 r7.2)] rfl rfl rfl⟩

def update_Sign (L_0 : Option O_Log) (a_1 : S_keys_Signer) (a_2 : Int) (a_3 : List UInt8) (a_4 : List UInt8) : Option (S_keys_Signer × S_api_Update × Int × (Option O_Log)) := ((update_Claim L_0 a_2 a_3 a_4).bind fun r6 => ((keys_Signer_Sign a_1 r6.2 r6.1).bind fun r7 => (if (!decide (r7.2.2.1 = (0 : Int))) = true then some (a_1, (S_api_Update.mk (0 : Int) (List.replicate 32 0) (List.replicate 32 0) (S_api_Sig.mk (0 : Int) [] [] [])), r7.2.2.1, r7.2.2.2) else some (r7.1, (S_api_Update.mk a_2 a_3 a_4 r7.2.1), 0, r7.2.2.2))))
theorem update_Sign_ok {p_0 : Value} {L_0 : Option O_Log} {a_1 : S_keys_Signer} {a_2 : Int} {a_3 : List UInt8} {a_4 : List UInt8} {r : S_keys_Signer × S_api_Update × Int × (Option O_Log)} (hF : update_Sign L_0 a_1 a_2 a_3 a_4 = some r) : CallOk Tryd.prog KG 26 [(eqVP p_0), (aggVP [bytesCk 32 a_1.f_Seed, one (intVP .i64 a_1.f_Next), one (slVP (dC 32) a_1.f_Leaves)]), (intVP .u32 a_2), (aggVP [bytesCk 32 a_3]), (aggVP [bytesCk 32 a_4])] [(Log_e p_0 L_0)] (fun _ => [Log_e p_0 r.2.2.2]) (tupVP [(aggVP [bytesCk 32 r.1.f_Seed, one (intVP .i64 r.1.f_Next), one (slVP (dC 32) r.1.f_Leaves)]), (aggVP [one (intVP .u32 r.2.1.f_Home), bytesCk 32 r.2.1.f_Old, bytesCk 32 r.2.1.f_New, one (intVP .i64 r.2.1.f_Sig.f_Index), one (slVP (dC 32) r.2.1.f_Sig.f_Parts), one (slVP (dC 32) r.2.1.f_Sig.f_Others), one (slVP (dC 32) r.2.1.f_Sig.f_Path)]), (intVP .i64 r.2.2.1)]) := by
  refine CallOk.intro 39 Tryd.func26 rfl Tryd.ntmps26 (Nat.le_of_ble_eq_true rfl) ?_
  intro c a w hG hn h
  unfold update_Sign at hF
  change SatL c [.slot 0 (eqVP p_0), .slot 1 (aggVP [bytesCk 32 a_1.f_Seed, one (intVP .i64 a_1.f_Next), one (slVP (dC 32) a_1.f_Leaves)]), .slot 2 (intVP .u32 a_2), .slot 3 (aggVP [bytesCk 32 a_3]), .slot 4 (aggVP [bytesCk 32 a_4]), .res (Log_e p_0 L_0)] a w at h
  refine regS mixed hn hG h [0, 2, 510, 508, 506, 504, 502, 5, 509, 507, 505, 503, 501] (ob [1] (op_box q0 (cells_agg _)) <| ob [3] (op_box q0 (cells_agg _)) <| ob [4] (op_box q0 (cells_agg _)) <| ob [] (op_alloc Tryd.zeroValue27 z27) <| ob [] (op_alloc Tryd.zeroValue53 z53) <| ov [] (op_assign qi) .nil) fun b1 a w h => ?_
  obtain ⟨r6, hr6, hF⟩ := bind_some hF
  obtain ⟨r7, hr7, hF⟩ := bind_some hF
  refine regS mixed hn hG h [1, 2, 3, 4, 5, 6, 506, 504, 500, 8, 9, 10, 11, 12, 511, 502, 501] (ov [2, 8] (op_load_w 1 Tryd.isAgg27 Tryd.sizeOf27 q0) <| ov [0] (op_move q0) <| ov [0] (op_move q0) <| ov [1] (op_move q0) <| ov [3, 9] (op_load_w 1 Tryd.isAgg23 Tryd.sizeOf23 q0) <| ov [4, 10] (op_load_w 1 Tryd.isAgg23 Tryd.sizeOf23 q0) <| oc [503, 502, 501, 500] [7] Tryd.call30 (update_Claim_ok hr6) ⟨q0, q1, q2, q3, trivial⟩ <| oc [507, 506, 501] [500] Tryd.call14 (keys_Signer_Sign_ok hr7) ⟨q0, q1, q2, trivial⟩ <| ov [501] (op_move q0) <| ov [500] (op_extract q0 rfl) <| ov [501] (op_extract q0 rfl) <| ov [502] (op_extract q0 rfl) <| ob [] (op_alloc Tryd.zeroValue27 z27) <| ob [] (op_alloc Tryd.zeroValue31 z31) <| og [503, 506] [502] [.res 12 100000 (fun v1_ _ => (lb (v1_) 27 [bytesCk 32 r7.1.f_Seed, one (intVP .i64 r7.1.f_Next), one (slVP (dC 32) r7.1.f_Leaves)]))] (GOk.plain (op_store_w Tryd.sizeOf27 q0 q1 (cells_agg _)) rfl) <| og [502, 506] [501] [.res 13 100000 (fun v1_ _ => (lb (v1_) 31 [one (intVP .i64 r7.2.1.f_Index), one (slVP (dC 32) r7.2.1.f_Parts), one (slVP (dC 32) r7.2.1.f_Others), one (slVP (dC 32) r7.2.1.f_Path)]))] (GOk.plain (op_store_w Tryd.sizeOf31 q0 q1 (cells_agg _)) rfl) <| ov [506] (op_assign q0) .nil) fun b8 a w h => ?_
  refine wp_seq ?_
  refine regS mixed hn hG h [0, 1, 2, 3, 4, 5, 6, 7, 8, 500, 9, 10, 11, 12, 13, 14, 15, 16] (ov [8] (op_move q0) <| ov [500] (op_bin bin_neq q0 qi) .nil) fun _ a w h => ?_
  refine cnd h hF 9 [1, 4, 5, 8, 10, 13, 14, 15] [0, 2, 3, 4, 5, 6, 7, 11, 12, 13, 14, 15, 16, 17] (fun hb10 hF h => ?_) (fun hb10 hF h => ?_)
  · refine regS mixed hn hG h [1, 2, 500, 502, 501, 7] (ov [0, 4] (op_load_w 1 Tryd.isAgg27 Tryd.sizeOf27 q0) <| ov [] (op_build [] rfl bu53 z53 rfl) <| ov [3] (op_move q0) <| ou [1, 502] 5 (op_store_w Tryd.sizeOf27 q0 q1 (cells_agg _)) <| ou [2, 502] 6 (op_store_w Tryd.sizeOf53 q0 q1 (cells_agg _)) <| ov [502] (op_assign q0) .nil) fun _ a w h => ?_
    refine wp_ret ?_
    obtain rfl := Option.some.inj hF
    exact ⟨.inl rfl, retn h (rs := [.cell 10 27, .cell 11 53, .tmp 12]) (Vs := [(aggVP [bytesCk 32 a_1.f_Seed, one (intVP .i64 a_1.f_Next), one (slVP (dC 32) a_1.f_Leaves)]), (aggVP [one (intVP .u32 (0 : Int)), bytesCk 32 (List.replicate 32 0), bytesCk 32 (List.replicate 32 0), one (intVP .i64 ((S_api_Sig.mk (0 : Int) [] [] []).f_Index)), one (slVP (dC 32) ((S_api_Sig.mk (0 : Int) [] [] []).f_Parts)), one (slVP (dC 32) ((S_api_Sig.mk (0 : Int) [] [] []).f_Others)), one (slVP (dC 32) ((S_api_Sig.mk (0 : Int) [] [] []).f_Path))]), (intVP .i64 r7.2.2.1)]) Tryd.results26 (by decide) ⟨(r_cell 0 3 rfl rfl Tryd.isAgg27 Tryd.sizeOf27 rfl), (r_cell 1 4 rfl rfl Tryd.isAgg53 Tryd.sizeOf53 rfl), (r_tmp 2 rfl), trivial⟩ [5] [(Log_e p_0 r7.2.2.2)] rfl rfl rfl⟩
  · refine wp_skip ?_
    show Code.wp Tryd.prog _ _ a w
    refine regS mixed hn hG h [3, 4, 500, 502, 501, 11] (ov [5, 12] (op_load_w 1 Tryd.isAgg27 Tryd.sizeOf27 q0) <| ov [0] (op_move q0) <| ov [1, 7] (op_load_w 1 Tryd.isAgg23 Tryd.sizeOf23 q0) <| ov [2, 8] (op_load_w 1 Tryd.isAgg23 Tryd.sizeOf23 q0) <| ov [6, 13] (op_load_w 1 Tryd.isAgg31 Tryd.sizeOf31 q0) <| ov [503, 502, 501, 500] (op_build [(0, .tmp 34), (1, .tmp 35), (2, .tmp 36), (3, .tmp 37)] rfl bu53 z53 ⟨[], [one (intVP .u32 (0 : Int))], [bytesCk 32 (List.replicate 32 0), bytesCk 32 (List.replicate 32 0), one (intVP .i64 ((S_api_Sig.mk (0 : Int) [] [] []).f_Index)), one (slVP (dC 32) ((S_api_Sig.mk (0 : Int) [] [] []).f_Parts)), one (slVP (dC 32) ((S_api_Sig.mk (0 : Int) [] [] []).f_Others)), one (slVP (dC 32) ((S_api_Sig.mk (0 : Int) [] [] []).f_Path))], [one (intVP .u32 a_2)], _, rfl, rfl, rfl, q0, (cells_one (one_int _ _)), ⟨[one (intVP .u32 a_2)], [bytesCk 32 (List.replicate 32 0)], [bytesCk 32 (List.replicate 32 0), one (intVP .i64 ((S_api_Sig.mk (0 : Int) [] [] []).f_Index)), one (slVP (dC 32) ((S_api_Sig.mk (0 : Int) [] [] []).f_Parts)), one (slVP (dC 32) ((S_api_Sig.mk (0 : Int) [] [] []).f_Others)), one (slVP (dC 32) ((S_api_Sig.mk (0 : Int) [] [] []).f_Path))], [bytesCk 32 a_3], _, rfl, rfl, rfl, q1, (cells_agg _), ⟨[one (intVP .u32 a_2), bytesCk 32 a_3], [bytesCk 32 (List.replicate 32 0)], [one (intVP .i64 ((S_api_Sig.mk (0 : Int) [] [] []).f_Index)), one (slVP (dC 32) ((S_api_Sig.mk (0 : Int) [] [] []).f_Parts)), one (slVP (dC 32) ((S_api_Sig.mk (0 : Int) [] [] []).f_Others)), one (slVP (dC 32) ((S_api_Sig.mk (0 : Int) [] [] []).f_Path))], [bytesCk 32 a_4], _, rfl, rfl, rfl, q2, (cells_agg _), ⟨[one (intVP .u32 a_2), bytesCk 32 a_3, bytesCk 32 a_4], [one (intVP .i64 ((S_api_Sig.mk (0 : Int) [] [] []).f_Index)), one (slVP (dC 32) ((S_api_Sig.mk (0 : Int) [] [] []).f_Parts)), one (slVP (dC 32) ((S_api_Sig.mk (0 : Int) [] [] []).f_Others)), one (slVP (dC 32) ((S_api_Sig.mk (0 : Int) [] [] []).f_Path))], [], [one (intVP .i64 r7.2.1.f_Index), one (slVP (dC 32) r7.2.1.f_Parts), one (slVP (dC 32) r7.2.1.f_Others), one (slVP (dC 32) r7.2.1.f_Path)], _, rfl, rfl, rfl, q3, (cells_agg _), rfl⟩⟩⟩⟩) <| ou [3, 505] 9 (op_store_w Tryd.sizeOf27 q0 q1 (cells_agg _)) <| ou [4, 501] 10 (op_store_w Tryd.sizeOf53 q0 q1 (cells_agg _)) <| ov [] (op_assign qi) .nil) fun _ a w h => ?_
    refine wp_ret ?_
    obtain rfl := Option.some.inj hF
    exact ⟨.inl rfl, retn h (rs := [.cell 10 27, .cell 11 53, .tmp 12]) (Vs := [(aggVP [bytesCk 32 r7.1.f_Seed, one (intVP .i64 r7.1.f_Next), one (slVP (dC 32) r7.1.f_Leaves)]), (aggVP [one (intVP .u32 a_2), bytesCk 32 a_3, bytesCk 32 a_4, one (intVP .i64 r7.2.1.f_Index), one (slVP (dC 32) r7.2.1.f_Parts), one (slVP (dC 32) r7.2.1.f_Others), one (slVP (dC 32) r7.2.1.f_Path)]), (intVP .i64 0)]) Tryd.results26 (by decide) ⟨(r_cell 0 3 rfl rfl Tryd.isAgg27 Tryd.sizeOf27 rfl), (r_cell 1 4 rfl rfl Tryd.isAgg53 Tryd.sizeOf53 rfl), (r_tmp 2 rfl), trivial⟩ [5] [(Log_e p_0 r7.2.2.2)] rfl rfl rfl⟩

def lamport_Opened.b1 (a_1 : List UInt8) (a_2 : List (List UInt8)) (a_3 : List (List UInt8)) (x13 : Int) (x14 : Option O_Log) (x15 : List (List UInt8)) : Option (Flow ((List UInt8) × Bool × (Option O_Log)) (Int × (Option O_Log) × (List (List UInt8)))) := (if (decide (x13 < (32 : Int))) = true then ((lamport_Bit a_1 x13).bind fun r27 => (if (0 : Int) ≤ x13 ∧ x13 < a_2.length then ((lamport_Public x14 (a_2.getD x13.toNat default)).bind fun r29 => (if (0 : Int) ≤ IntKind.wrap .i64 ((IntKind.wrap .i64 (2 * x13)) + r27) ∧ IntKind.wrap .i64 ((IntKind.wrap .i64 (2 * x13)) + r27) < 64 then (if (0 : Int) ≤ x13 ∧ x13 < a_3.length then (if (0 : Int) ≤ IntKind.wrap .i64 ((IntKind.wrap .i64 ((IntKind.wrap .i64 (2 * x13)) + 1)) - r27) ∧ IntKind.wrap .i64 ((IntKind.wrap .i64 ((IntKind.wrap .i64 (2 * x13)) + 1)) - r27) < 64 then some (.cont (IntKind.wrap .i64 (x13 + 1), r29.2, (x15.set (IntKind.wrap .i64 ((IntKind.wrap .i64 (2 * x13)) + r27)).toNat r29.1).set (IntKind.wrap .i64 ((IntKind.wrap .i64 ((IntKind.wrap .i64 (2 * x13)) + 1)) - r27)).toNat (a_3.getD x13.toNat default))) else none) else none) else none)) else none)) else some (.brk (x13, x14, x15)))
def lamport_Opened.j1 (L_0 : Option O_Log) (a_1 : List UInt8) (a_2 : List (List UInt8)) (a_3 : List (List UInt8)) (x3 : Bool) : Option ((List UInt8) × Bool × (Option O_Log)) := (if x3 = true then some ((List.replicate 32 0), false, L_0) else ((loopN (fun s : Int × (Option O_Log) × (List (List UInt8)) => lamport_Opened.b1 a_1 a_2 a_3 s.1 s.2.1 s.2.2) ((32 - 0 : Int).toNat + 2) (0, L_0, (List.replicate 64 (List.replicate 32 0)))).bind fun cr => match cr with | .ret r => some r | .next (y37, y38, y39) => ((lamport_pair y38 y39).bind fun r40 => some (r40.1, true, r40.2))))
def lamport_Opened (L_0 : Option O_Log) (a_1 : List UInt8) (a_2 : List (List UInt8)) (a_3 : List (List UInt8)) : Option ((List UInt8) × Bool × (Option O_Log)) := (if (!decide ((a_2.length : Int) = (32 : Int))) = true then lamport_Opened.j1 L_0 a_1 a_2 a_3 true else lamport_Opened.j1 L_0 a_1 a_2 a_3 (!decide ((a_3.length : Int) = (32 : Int))))
theorem lamport_Opened_ok {p_0 : Value} {L_0 : Option O_Log} {a_1 : List UInt8} {a_2 : List (List UInt8)} {a_3 : List (List UInt8)} {r : (List UInt8) × Bool × (Option O_Log)} (hF : lamport_Opened L_0 a_1 a_2 a_3 = some r) : CallOk Tryd.prog KG 53 [(eqVP p_0), (aggVP [bytesCk 32 a_1]), (slVP (dC 32) a_2), (slVP (dC 32) a_3)] [(Log_e p_0 L_0)] (fun _ => [Log_e p_0 r.2.2]) (tupVP [(aggVP [bytesCk 32 r.1]), (boolVP r.2.1)]) := by
  refine CallOk.intro 53 Tryd.func53 rfl Tryd.ntmps53 (Nat.le_of_ble_eq_true rfl) ?_
  intro c a w hG hn h
  unfold lamport_Opened at hF
  change SatL c [.slot 0 (eqVP p_0), .slot 1 (aggVP [bytesCk 32 a_1]), .slot 2 (slVP (dC 32) a_2), .slot 3 (slVP (dC 32) a_3), .res (Log_e p_0 L_0)] a w at h
  refine regS mixed hn hG h [0, 2, 3, 504, 502, 4, 503, 501] (ob [1] (op_box q0 (cells_agg _)) <| ob [] (op_alloc Tryd.zeroValue23 z23) <| ov [] (op_assign qb) .nil) fun b1 a w h => ?_
  refine wp_seq ?_
  refine wp_seq ?_
  refine wp_cut (fun a w => ∃ (x3 : Bool), lamport_Opened.j1 L_0 a_1 a_2 a_3 x3 = some r ∧ SatL c [.slot 0 (eqVP p_0), .slot 2 (slVP (dC 32) a_2), .slot 3 (slVP (dC 32) a_3), .slot 5 (lpVP (b1 0) 0), .slot 8 (lpVP (b1 1) 0), .slot 20 (boolVP x3), .res (Log_e p_0 L_0), .res (lb (b1 0) 23 [bytesCk 32 a_1]), .res (lb (b1 1) 23 [bytesCk 32 (List.replicate 32 0)])] a w) ?_ ?_
  · rcases Bool.eq_false_or_eq_true (!decide ((a_2.length : Int) = (32 : Int))) with hb41 | hb41
    · replace hF := tt_of hb41 hF
      refine reg mixed hn hG h [0, 1, 2, 3, 4, 500, 5, 6, 7] (ov [1] (op_move q0) <| ov [500] (op_len_sl Tryd.underlying24 q0) <| ov [500] (op_bin bin_neq q0 qi) <| ov [500] (op_move q0) <| oe [500] [] (GOk.off_v (want := false) hb41 rfl rfl rfl rfl) <| oe [501] [] (GOk.off_v (want := false) hb41 rfl rfl rfl rfl) <| oe [502] [] (GOk.off_v (want := false) hb41 rfl rfl rfl rfl) <| ov [503] (op_pick_t hb41 q0 qb) .nil) fun _ a w h => ?_
      exact ⟨true, hF, h.sub [0, 1, 2, 3, 4, 5, 6, 7, 8] (by rfl)⟩
    · replace hF := ff_of hb41 hF
      refine reg mixed hn hG h [0, 1, 2, 3, 4, 500, 5, 6, 7] (ov [1] (op_move q0) <| ov [500] (op_len_sl Tryd.underlying24 q0) <| ov [500] (op_bin bin_neq q0 qi) <| ov [500] (op_move q0) <| oe [500, 2] [] (GOk.on_eq hb41 rfl rfl rfl (op_move q0)) <| oe [501, 500] [] (GOk.on_eq hb41 rfl rfl rfl (op_len_sl Tryd.underlying24 q0)) <| oe [502, 500] [] (GOk.on_eq hb41 rfl rfl rfl (op_bin bin_neq q0 qi)) <| ov [503, 500] (op_pick_f hb41 q0 q1) .nil) fun _ a w h => ?_
      exact ⟨!decide ((a_3.length : Int) = (32 : Int)), hF, h.sub [0, 1, 2, 3, 4, 5, 6, 7, 8] (by rfl)⟩
  · clear h hF
    rintro a w ⟨x3, hF, h⟩
    unfold lamport_Opened.j1 at hF
    show Code.wp Tryd.prog _ _ a w
    refine cnd h hF 5 [4, 6, 8] [0, 1, 2, 3, 4, 6, 7, 8] (fun hb4 hF h => ?_) (fun hb4 hF h => ?_)
    · refine regS mixed hn hG h [0, 500, 1, 501] (ov [] (build0 Tryd.zeroValue23 Tryd.underlying23 Tryd.sizeOf5 z23) <| ou [0, 500] 2 (op_store_w Tryd.sizeOf23 q0 q1 (cells_agg _)) <| ov [] (op_assign qb) .nil) fun _ a w h => ?_
      refine wp_ret ?_
      obtain rfl := Option.some.inj hF
      exact ⟨.inl rfl, retn h (rs := [.cell 8 23, .tmp 9]) (Vs := [(aggVP [bytesCk 32 (List.replicate 32 0)]), (boolVP false)]) Tryd.results53 (by decide) ⟨(r_cell 0 3 rfl rfl Tryd.isAgg23 Tryd.sizeOf23 rfl), (r_tmp 1 rfl), trivial⟩ [2] [(Log_e p_0 L_0)] rfl rfl rfl⟩
    · refine wp_skip ?_
      show Code.wp Tryd.prog _ _ a w
      refine regS mixed hn hG h [0, 1, 2, 3, 4, 501, 5, 6, 7, 500] (ob [] (op_alloc Tryd.zeroValue122 z122) .nil) fun b5 a w h => ?_
      refine wp_seq ?_
      refine regS mixed hn hG h [0, 1, 2, 3, 4, 5, 500, 6, 7, 8, 9] (ov [] (op_move qi) .nil) fun _ a w h => ?_
      refine wp_block ?_
      obtain ⟨cr33, hl34, hF⟩ := bind_some hF
      refine wp_mono (wp_loopN (R := (List UInt8) × Bool × (Option O_Log)) (S := Int × (Option O_Log) × (List (List UInt8))) (fun s a w => SatL c [.slot 0 (eqVP p_0), .slot 2 (slVP (dC 32) a_2), .slot 3 (slVP (dC 32) a_3), .slot 5 (lpVP (b1 0) 0), .slot 8 (lpVP (b1 1) 0), .slot 10 (lpVP (b5 0) 0), .slot 22 (intVP .i64 s.1), .res (Log_e p_0 s.2.1), .res (lb (b1 0) 23 [bytesCk 32 a_1]), .res (lb (b1 1) 23 [bytesCk 32 (List.replicate 32 0)]), .res (lb (b5 0) 122 [arrCk 64 32 (dC 32) (lens_dC 32) s.2.2])] a w) (fun res e a w => match res with | .next s => e = .exit 0 ∧ SatL c [.slot 0 (eqVP p_0), .slot 8 (lpVP (b1 1) 0), .slot 10 (lpVP (b5 0) 0), .res (Log_e p_0 s.2.1), .res (lb (b1 1) 23 [bytesCk 32 (List.replicate 32 0)]), .res (lb (b5 0) 122 [arrCk 64 32 (dC 32) (lens_dC 32) s.2.2])] a w | .ret r => e = .ret ∧ RetOk Tryd.prog Tryd.f53 c (tupVP [(aggVP [bytesCk 32 r.1]), (boolVP r.2.1)]) (fun _ => [Log_e p_0 r.2.2]) a w) ?_ _ (0, L_0, (List.replicate 64 (List.replicate 32 0))) _ _ _ (h.sub [0, 1, 2, 3, 4, 5, 6, 7, 8, 9, 10] (by rfl)) hl34) ?_
      · clear hl34 hF h
        intro s a w o h hF
        obtain ⟨x13, x14, x15⟩ := s
        change lamport_Opened.b1 a_1 a_2 a_3 x13 x14 x15 = some o at hF
        unfold lamport_Opened.b1 at hF
        change SatL c [.slot 0 (eqVP p_0), .slot 2 (slVP (dC 32) a_2), .slot 3 (slVP (dC 32) a_3), .slot 5 (lpVP (b1 0) 0), .slot 8 (lpVP (b1 1) 0), .slot 10 (lpVP (b5 0) 0), .slot 22 (intVP .i64 x13), .res (Log_e p_0 x14), .res (lb (b1 0) 23 [bytesCk 32 a_1]), .res (lb (b1 1) 23 [bytesCk 32 (List.replicate 32 0)]), .res (lb (b5 0) 122 [arrCk 64 32 (dC 32) (lens_dC 32) x15])] a w at h
        refine regS mixed hn hG h [0, 1, 2, 3, 4, 5, 6, 500, 7, 8, 9, 10] (ov [6] (op_bin bin_lss q0 qi) .nil) fun _ a w h => ?_
        refine wp_seq ?_
        refine cnd h hF 7 [0, 1, 2, 3, 4, 5, 6, 8, 9, 10, 11] [0, 1, 2, 3, 4, 5, 6, 8, 9, 10, 11] (fun hb26 hF h => ?_) (fun hb26 hF h => ?_)
        · refine wp_skip ?_
          show Code.wp Tryd.prog _ _ a w
          refine wp_seq ?_
          refine wp_block ?_
          refine regS mixed hn hG h [0, 1, 2, 3, 4, 5, 500, 6, 7, 8, 9, 10] (ov [6] (op_move q0) <| ov [500] (op_assign q0) .nil) fun _ a w h => ?_
          obtain ⟨r27, hr27, hF⟩ := bind_some hF
          refine regS mixed hn hG h [0, 1, 2, 3, 4, 5, 6, 500, 7, 8, 9, 10, 11] (ov [3, 9] (op_load_w 1 Tryd.isAgg23 Tryd.sizeOf23 q0) <| ov [6] (op_move q0) <| oc [501, 500] [] Tryd.call72 (lamport_Bit_ok hr27) ⟨q0, q1, trivial⟩ <| ov [500] (op_assign q0) .nil) fun _ a w h => ?_
          obtain ⟨hv28, hF⟩ := ite_some hF
          obtain ⟨r29, hr29, hF⟩ := bind_some hF
          obtain ⟨hv30, hF⟩ := ite_some hF
          refine regS mixed hn hG h [0, 1, 2, 3, 4, 5, 6, 7, 8, 10, 11, 500, 502] (ov [6] (op_move q0) <| ov [500] (op_bin bin_mul qi q0) <| ov [7] (op_move q0) <| ov [501, 500] (op_bin bin_add q0 q1) <| ov [0] (op_move q0) <| ov [1] (op_move q0) <| ov [6] (op_move q0) <| ov [501, 500] (op_indexAddr_sl Tryd.underlying24 Tryd.sizeOf23 (lens_dC 32) q0 q1 hv28) <| ov [500] (op_load_pp [bytesCk 32 (a_2.getD x13.toNat default)] [] Tryd.isAgg23 Tryd.sizeOf23 q0 rfl) <| oc [504, 500] [9] Tryd.call68 (lamport_Public_ok hr29) ⟨q0, q1, trivial⟩ <| ov [5, 507] (op_indexAddr_lb Tryd.underlying122 Tryd.sizeOf23 q0 q1 hv30) <| ou [500, 502] 12 (op_store_lbA (i := IntKind.wrap .i64 ((IntKind.wrap .i64 (2 * x13)) + r27)) [] [] Tryd.sizeOf23 q0 q1 rfl hv30) .nil) fun _ a w h => ?_
          obtain ⟨hv31, hF⟩ := ite_some hF
          obtain ⟨hv32, hF⟩ := ite_some hF
          refine reg mixed hn hG h [0, 1, 2, 3, 4, 5, 8, 9, 10, 500, 12] (ov [6] (op_move q0) <| ov [500] (op_bin bin_mul qi q0) <| ov [500] (op_bin bin_add q0 qi) <| ov [7] (op_move q0) <| ov [501, 500] (op_bin bin_sub q0 q1) <| ov [2] (op_move q0) <| ov [6] (op_move q0) <| ov [501, 500] (op_indexAddr_sl Tryd.underlying24 Tryd.sizeOf23 (lens_dC 32) q0 q1 hv31) <| ov [500] (op_load_pp [bytesCk 32 (a_3.getD x13.toNat default)] [] Tryd.isAgg23 Tryd.sizeOf23 q0 rfl) <| ov [5, 504] (op_indexAddr_lb Tryd.underlying122 Tryd.sizeOf23 q0 q1 hv32) <| ou [500, 501] 11 (op_store_lbA (i := IntKind.wrap .i64 ((IntKind.wrap .i64 ((IntKind.wrap .i64 (2 * x13)) + 1)) - r27)) [] [] Tryd.sizeOf23 q0 q1 rfl hv32) .nil) fun _ a w h => ?_
          show Code.wp Tryd.prog _ _ a w
          refine reg mixed hn hG h [0, 1, 2, 3, 4, 5, 500, 7, 8, 9, 10] (ov [6] (op_bin bin_add q0 qi) <| od [500] 6 (op_move q0) .nil) fun _ a w h => ?_
          obtain rfl := Option.some.inj hF
          exact ⟨rfl, h.sub [0, 1, 2, 3, 4, 5, 6, 10, 7, 8, 9] (by rfl)⟩
        · refine wp_exit ?_
          obtain rfl := Option.some.inj hF
          exact ⟨exit_ne _, rfl, h.sub [0, 4, 5, 7, 9, 10] (by rfl)⟩
      · clear hl34
        intro e a w hq
        cases cr33 with
        | ret r35 =>
          obtain ⟨rfl, hq⟩ := hq
          obtain rfl := Option.some.inj hF
          exact ⟨.inl rfl, hq⟩
        | next s36 =>
          obtain ⟨y37, y38, y39⟩ := s36
          obtain ⟨rfl, h⟩ := hq
          change SatL c [.slot 0 (eqVP p_0), .slot 8 (lpVP (b1 1) 0), .slot 10 (lpVP (b5 0) 0), .res (Log_e p_0 y38), .res (lb (b1 1) 23 [bytesCk 32 (List.replicate 32 0)]), .res (lb (b5 0) 122 [arrCk 64 32 (dC 32) (lens_dC 32) y39])] a w at h
          refine inBlock_at ?_
          show Code.wp Tryd.prog _ _ a w
          obtain ⟨r40, hr40, hF⟩ := bind_some hF
          refine regS mixed hn hG h [1, 500, 501, 502] (ov [0] (op_move q0) <| ov [2, 5] (op_load_w 1 Tryd.isAgg122 Tryd.sizeOf122 q0) <| oc [501, 500] [3] Tryd.call70 (lamport_pair_ok hr40) ⟨q0, q1, trivial⟩ <| ou [1, 501] 4 (op_store_w Tryd.sizeOf23 q0 q1 (cells_agg _)) <| ov [] (op_assign qb) .nil) fun _ a w h => ?_
          refine wp_ret ?_
          obtain rfl := Option.some.inj hF
          exact ⟨.inl rfl, retn h (rs := [.cell 8 23, .tmp 9]) (Vs := [(aggVP [bytesCk 32 r40.1]), (boolVP true)]) Tryd.results53 (by decide) ⟨(r_cell 0 2 rfl rfl Tryd.isAgg23 Tryd.sizeOf23 rfl), (r_tmp 1 rfl), trivial⟩ [3] [(Log_e p_0 r40.2)] rfl rfl rfl⟩

def keys_Climb.j1 (x10 : Int) (x11 : Int) (x30 : List UInt8) (x31 : Option O_Log) : Option (Flow ((List UInt8) × (Option O_Log)) (Int × Int × (Option O_Log) × (List UInt8))) := some (.cont (shr .i64 x10 1, IntKind.wrap .i64 (x11 + 1), x31, x30))
def keys_Climb.b1 (a_3 : List (List UInt8)) (x10 : Int) (x11 : Int) (x12 : Option O_Log) (x13 : List UInt8) : Option (Flow ((List UInt8) × (Option O_Log)) (Int × Int × (Option O_Log) × (List UInt8))) := (if (decide (x11 < (a_3.length : Int))) = true then (if (0 : Int) ≤ x11 ∧ x11 < a_3.length then (if (decide ((bits .and .i64 x10 1) = (1 : Int))) = true then ((digest_Log_Two x12 4 (a_3.getD x11.toNat default) x13).bind fun r33 => keys_Climb.j1 x10 x11 r33.1 r33.2) else ((digest_Log_Two x12 4 x13 (a_3.getD x11.toNat default)).bind fun r34 => keys_Climb.j1 x10 x11 r34.1 r34.2)) else none) else some (.brk (x10, x11, x12, x13)))
def keys_Climb (L_0 : Option O_Log) (a_1 : List UInt8) (a_2 : Int) (a_3 : List (List UInt8)) : Option ((List UInt8) × (Option O_Log)) := ((loopN (fun s : Int × Int × (Option O_Log) × (List UInt8) => keys_Climb.b1 a_3 s.1 s.2.1 s.2.2.1 s.2.2.2) (((a_3.length : Int) - 0 : Int).toNat + 2) (a_2, 0, L_0, a_1)).bind fun cr => match cr with | .ret r => some r | .next (y39, y40, y41, y42) => some (y42, y41))
theorem keys_Climb_ok {p_0 : Value} {L_0 : Option O_Log} {a_1 : List UInt8} {a_2 : Int} {a_3 : List (List UInt8)} {r : (List UInt8) × (Option O_Log)} (hF : keys_Climb L_0 a_1 a_2 a_3 = some r) : CallOk Tryd.prog KG 54 [(eqVP p_0), (aggVP [bytesCk 32 a_1]), (intVP .i64 a_2), (slVP (dC 32) a_3)] [(Log_e p_0 L_0)] (fun _ => [Log_e p_0 r.2]) (aggVP [bytesCk 32 r.1]) := by
  refine CallOk.intro 32 Tryd.func54 rfl Tryd.ntmps54 (Nat.le_of_ble_eq_true rfl) ?_
  intro c a w hG hn h
  unfold keys_Climb at hF
  change SatL c [.slot 0 (eqVP p_0), .slot 1 (aggVP [bytesCk 32 a_1]), .slot 2 (intVP .i64 a_2), .slot 3 (slVP (dC 32) a_3), .res (Log_e p_0 L_0)] a w at h
  refine regS mixed hn hG h [0, 2, 3, 503, 501, 4, 502, 500] (ob [1] (op_box q0 (cells_agg _)) <| ob [] (op_alloc Tryd.zeroValue23 z23) .nil) fun b1 a w h => ?_
  refine wp_seq ?_
  refine regS mixed hn hG h [0, 1, 3, 4, 502, 501, 500, 5, 6, 7] (ov [2] (op_move q0) <| ov [500] (op_len_sl Tryd.underlying24 q0) <| ov [] (op_move qi) .nil) fun _ a w h => ?_
  refine wp_block ?_
  obtain ⟨cr35, hl36, hF⟩ := bind_some hF
  refine wp_mono (wp_loopN (R := (List UInt8) × (Option O_Log)) (S := Int × Int × (Option O_Log) × (List UInt8)) (fun s a w => SatL c [.slot 0 (eqVP p_0), .slot 2 (intVP .i64 s.1), .slot 5 (lpVP (b1 0) 0), .slot 8 (lpVP (b1 1) 0), .slot 11 (slVP (dC 32) a_3), .slot 12 (intVP .i64 (a_3.length : Int)), .slot 13 (intVP .i64 s.2.1), .res (Log_e p_0 s.2.2.1), .res (lb (b1 0) 23 [bytesCk 32 s.2.2.2]), .res (lb (b1 1) 23 [bytesCk 32 (List.replicate 32 0)])] a w) (fun res e a w => match res with | .next s => e = .exit 0 ∧ SatL c [.slot 5 (lpVP (b1 0) 0), .slot 8 (lpVP (b1 1) 0), .res (Log_e p_0 s.2.2.1), .res (lb (b1 0) 23 [bytesCk 32 s.2.2.2]), .res (lb (b1 1) 23 [bytesCk 32 (List.replicate 32 0)])] a w | .ret r => e = .ret ∧ RetOk Tryd.prog Tryd.f54 c (aggVP [bytesCk 32 r.1]) (fun _ => [Log_e p_0 r.2]) a w) ?_ _ (a_2, 0, L_0, a_1) _ _ _ (h.sub [0, 1, 2, 3, 4, 5, 6, 7, 8, 9] (by rfl)) hl36) ?_
  · clear hl36 hF h
    intro s a w o h hF
    obtain ⟨x10, x11, x12, x13⟩ := s
    change keys_Climb.b1 a_3 x10 x11 x12 x13 = some o at hF
    unfold keys_Climb.b1 at hF
    change SatL c [.slot 0 (eqVP p_0), .slot 2 (intVP .i64 x10), .slot 5 (lpVP (b1 0) 0), .slot 8 (lpVP (b1 1) 0), .slot 11 (slVP (dC 32) a_3), .slot 12 (intVP .i64 (a_3.length : Int)), .slot 13 (intVP .i64 x11), .res (Log_e p_0 x12), .res (lb (b1 0) 23 [bytesCk 32 x13]), .res (lb (b1 1) 23 [bytesCk 32 (List.replicate 32 0)])] a w at h
    refine regS mixed hn hG h [0, 1, 2, 3, 4, 5, 6, 500, 7, 8, 9] (ov [6, 5] (op_bin bin_lss q0 q1) .nil) fun _ a w h => ?_
    refine wp_seq ?_
    refine cnd h hF 7 [0, 1, 2, 3, 4, 5, 6, 8, 9, 10] [0, 1, 2, 3, 4, 5, 6, 8, 9, 10] (fun hb25 hF h => ?_) (fun hb25 hF h => ?_)
    · refine wp_skip ?_
      show Code.wp Tryd.prog _ _ a w
      refine wp_seq ?_
      refine wp_block ?_
      obtain ⟨hv26, hF⟩ := ite_some hF
      refine regS mixed hn hG h [0, 1, 2, 3, 502, 4, 5, 6, 7, 8, 9, 500] (ov [4, 6] (op_indexAddr_sl Tryd.underlying24 Tryd.sizeOf23 (lens_dC 32) q0 q1 hv26) <| ov [500] (op_load_pp [bytesCk 32 (a_3.getD x11.toNat default)] [] Tryd.isAgg23 Tryd.sizeOf23 q0 rfl) <| ob [] (op_alloc Tryd.zeroValue23 z23) <| og [501, 502] [500] [.res 2 100000 (fun v1_ _ => (lb (v1_) 23 [bytesCk 32 (a_3.getD x11.toNat default)]))] (GOk.plain (op_store_w Tryd.sizeOf23 q0 q1 (cells_agg _)) rfl) .nil) fun b27 a w h => ?_
      refine wp_seq ?_
      refine regS mixed hn hG h [0, 1, 2, 3, 4, 5, 6, 7, 500, 8, 9, 10, 11] (ov [1] (op_move q0) <| ov [500] (op_bin bin_and q0 qi) <| ov [500] (op_bin bin_eql q0 qi) .nil) fun _ a w h => ?_
      refine wp_cut (fun a w => ∃ (x30 : List UInt8), ∃ (x31 : Option O_Log), keys_Climb.j1 x10 x11 x30 x31 = some o ∧ SatL c [.slot 0 (eqVP p_0), .slot 2 (intVP .i64 x10), .slot 5 (lpVP (b1 0) 0), .slot 8 (lpVP (b1 1) 0), .slot 11 (slVP (dC 32) a_3), .slot 12 (intVP .i64 (a_3.length : Int)), .slot 13 (intVP .i64 x11), .res (lb (b1 0) 23 [bytesCk 32 x30]), .res (lb (b1 1) 23 [bytesCk 32 (List.replicate 32 0)]), .res (Log_e p_0 x31)] a w) ?_ ?_
      · refine cnd h hF 8 [0, 1, 2, 3, 4, 5, 6, 7, 9, 10, 11, 12] [0, 1, 2, 3, 4, 5, 6, 7, 9, 10, 11, 12] (fun hb32 hF h => ?_) (fun hb32 hF h => ?_)
        · obtain ⟨r33, hr33, hF⟩ := bind_some hF
          refine reg mixed hn hG h [0, 1, 2, 3, 5, 6, 7, 500, 10, 501] (ov [0] (op_move q0) <| ov [4, 11] (op_load_w 1 Tryd.isAgg23 Tryd.sizeOf23 q0) <| ov [2, 9] (op_load_w 1 Tryd.isAgg23 Tryd.sizeOf23 q0) <| oc [502, 501, 500] [8] Tryd.call71 (digest_Log_Two_ok hr33) ⟨q0, qi, q1, q2, trivial⟩ <| ou [2, 501] 9 (op_store_w Tryd.sizeOf23 q0 q1 (cells_agg _)) .nil) fun _ a w h => ?_
          exact ⟨r33.1, r33.2, hF, h.sub [0, 1, 2, 3, 4, 5, 6, 7, 8, 9] (by rfl)⟩
        · obtain ⟨r34, hr34, hF⟩ := bind_some hF
          refine reg mixed hn hG h [0, 1, 2, 3, 5, 6, 7, 500, 10, 501] (ov [0] (op_move q0) <| ov [2, 9] (op_load_w 1 Tryd.isAgg23 Tryd.sizeOf23 q0) <| ov [4, 11] (op_load_w 1 Tryd.isAgg23 Tryd.sizeOf23 q0) <| oc [502, 501, 500] [8] Tryd.call71 (digest_Log_Two_ok hr34) ⟨q0, qi, q1, q2, trivial⟩ <| ou [2, 501] 9 (op_store_w Tryd.sizeOf23 q0 q1 (cells_agg _)) .nil) fun _ a w h => ?_
          exact ⟨r34.1, r34.2, hF, h.sub [0, 1, 2, 3, 4, 5, 6, 7, 8, 9] (by rfl)⟩
      · clear h hF
        rintro a w ⟨x30, x31, hF, h⟩
        unfold keys_Climb.j1 at hF
        show Code.wp Tryd.prog _ _ a w
        refine reg mixed hn hG h [0, 500, 2, 3, 4, 5, 6, 7, 8, 9] (ov [1] (op_move q0) <| ov [500] (op_bin (bin_shru rfl) q0 qi) <| od [500] 1 (op_assign q0) .nil) fun _ a w h => ?_
        show Code.wp Tryd.prog _ _ a w
        refine reg mixed hn hG h [0, 1, 2, 3, 4, 5, 500, 7, 8, 9] (ov [6] (op_bin bin_add q0 qi) <| od [500] 6 (op_move q0) .nil) fun _ a w h => ?_
        obtain rfl := Option.some.inj hF
        exact ⟨rfl, h.sub [0, 1, 2, 3, 4, 5, 6, 9, 7, 8] (by rfl)⟩
    · refine wp_exit ?_
      obtain rfl := Option.some.inj hF
      exact ⟨exit_ne _, rfl, h.sub [2, 3, 7, 8, 9] (by rfl)⟩
  · clear hl36
    intro e a w hq
    cases cr35 with
    | ret r37 =>
      obtain ⟨rfl, hq⟩ := hq
      obtain rfl := Option.some.inj hF
      exact ⟨.inl rfl, hq⟩
    | next s38 =>
      obtain ⟨y39, y40, y41, y42⟩ := s38
      obtain ⟨rfl, h⟩ := hq
      change SatL c [.slot 5 (lpVP (b1 0) 0), .slot 8 (lpVP (b1 1) 0), .res (Log_e p_0 y41), .res (lb (b1 0) 23 [bytesCk 32 y42]), .res (lb (b1 1) 23 [bytesCk 32 (List.replicate 32 0)])] a w at h
      refine inBlock_at ?_
      show Code.wp Tryd.prog _ _ a w
      refine regS mixed hn hG h [1, 2, 500] (ov [0, 3] (op_load_w 1 Tryd.isAgg23 Tryd.sizeOf23 q0) <| ou [1, 500] 4 (op_store_w Tryd.sizeOf23 q0 q1 (cells_agg _)) .nil) fun _ a w h => ?_
      refine wp_ret ?_
      obtain rfl := Option.some.inj hF
      exact ⟨.inl rfl, ret1 h Tryd.results54 (r_cell 0 2 rfl rfl Tryd.isAgg23 Tryd.sizeOf23 rfl) [1] [(Log_e p_0 y41)] rfl rfl rfl⟩

def keys_Verify.j2 (x9 : Bool) (x10 : Option O_Log) : Option (Bool × (Option O_Log)) := some (x9, x10)
def keys_Verify.j1 (L_0 : Option O_Log) (a_1 : List UInt8) (a_2 : List UInt8) (a_3 : S_api_Sig) (x4 : Bool) : Option (Bool × (Option O_Log)) := (if x4 = true then some (false, L_0) else ((lamport_Opened L_0 a_2 a_3.f_Parts a_3.f_Others).bind fun r6 => (if r6.2.1 = true then ((keys_Climb r6.2.2 r6.1 a_3.f_Index a_3.f_Path).bind fun r8 => keys_Verify.j2 (decide (r8.1 = a_1)) r8.2) else keys_Verify.j2 false r6.2.2)))
def keys_Verify (L_0 : Option O_Log) (a_1 : List UInt8) (a_2 : List UInt8) (a_3 : S_api_Sig) : Option (Bool × (Option O_Log)) := (if (decide (a_3.f_Index < (0 : Int))) = true then keys_Verify.j1 L_0 a_1 a_2 a_3 true else (if (decide ((16 : Int) ≤ a_3.f_Index)) = true then keys_Verify.j1 L_0 a_1 a_2 a_3 true else keys_Verify.j1 L_0 a_1 a_2 a_3 (!decide ((a_3.f_Path.length : Int) = (4 : Int)))))
theorem keys_Verify_ok {p_0 : Value} {L_0 : Option O_Log} {a_1 : List UInt8} {a_2 : List UInt8} {a_3 : S_api_Sig} {r : Bool × (Option O_Log)} (hF : keys_Verify L_0 a_1 a_2 a_3 = some r) : CallOk Tryd.prog KG 17 [(eqVP p_0), (aggVP [bytesCk 32 a_1]), (aggVP [bytesCk 32 a_2]), (aggVP [one (intVP .i64 a_3.f_Index), one (slVP (dC 32) a_3.f_Parts), one (slVP (dC 32) a_3.f_Others), one (slVP (dC 32) a_3.f_Path)])] [(Log_e p_0 L_0)] (fun _ => [Log_e p_0 r.2]) (boolVP r.1) := by
  refine CallOk.intro 47 Tryd.func17 rfl Tryd.ntmps17 (Nat.le_of_ble_eq_true rfl) ?_
  intro c a w hG hn h
  unfold keys_Verify at hF
  change SatL c [.slot 0 (eqVP p_0), .slot 1 (aggVP [bytesCk 32 a_1]), .slot 2 (aggVP [bytesCk 32 a_2]), .slot 3 (aggVP [one (intVP .i64 a_3.f_Index), one (slVP (dC 32) a_3.f_Parts), one (slVP (dC 32) a_3.f_Others), one (slVP (dC 32) a_3.f_Path)]), .res (Log_e p_0 L_0)] a w at h
  refine regS mixed hn hG h [0, 506, 504, 502, 4, 505, 503, 501] (ob [1] (op_box q0 (cells_agg _)) <| ob [2] (op_box q0 (cells_agg _)) <| ob [3] (op_box q0 (cells_agg _)) <| ov [] (op_assign qb) .nil) fun b1 a w h => ?_
  refine wp_seq ?_
  refine wp_seq ?_
  refine wp_cut (fun a w => ∃ (x4 : Bool), keys_Verify.j1 L_0 a_1 a_2 a_3 x4 = some r ∧ SatL c [.slot 0 (eqVP p_0), .slot 5 (lpVP (b1 0) 0), .slot 6 (lpVP (b1 1) 0), .slot 7 (lpVP (b1 2) 0), .slot 24 (boolVP x4), .res (Log_e p_0 L_0), .res (lb (b1 0) 23 [bytesCk 32 a_1]), .res (lb (b1 1) 23 [bytesCk 32 a_2]), .res (lb (b1 2) 31 [one (intVP .i64 a_3.f_Index), one (slVP (dC 32) a_3.f_Parts), one (slVP (dC 32) a_3.f_Others), one (slVP (dC 32) a_3.f_Path)])] a w) ?_ ?_
  · rcases Bool.eq_false_or_eq_true (decide (a_3.f_Index < (0 : Int))) with hb12 | hb12
    · replace hF := tt_of hb12 hF
      refine reg mixed hn hG h [0, 1, 2, 3, 500, 4, 5, 6, 7] (ov [3] (op_fieldAddr_lbm (p := (b1 2)) (n := 1) 0 0 Tryd.underlying31 rfl Tryd.sizeOf3 (by decide) q0 rfl) <| ov [500, 7] (op_load_lb1 [] [one (slVP (dC 32) a_3.f_Parts), one (slVP (dC 32) a_3.f_Others), one (slVP (dC 32) a_3.f_Path)] 1 Tryd.isAgg3 q0 rfl rfl) <| ov [500] (op_bin bin_lss q0 qi) <| ov [500] (op_move q0) <| oe [500] [] (GOk.off_v (want := false) hb12 rfl rfl rfl rfl) <| oe [501] [] (GOk.off_v (want := false) hb12 rfl rfl rfl rfl) <| oe [502] [] (GOk.off_v (want := false) hb12 rfl rfl rfl rfl) <| ov [503] (op_pick_t hb12 q0 qb) <| ov [500] (op_move q0) <| oe [500] [] (GOk.off_v (want := false) rfl rfl rfl rfl rfl) <| oe [501] [] (GOk.off_v (want := false) rfl rfl rfl rfl rfl) <| oe [502] [] (GOk.off_v (want := false) rfl rfl rfl rfl rfl) <| oe [503] [] (GOk.off_v (want := false) rfl rfl rfl rfl rfl) <| ov [504] (op_pick_t rfl q0 qb) .nil) fun _ a w h => ?_
      exact ⟨true, hF, h.sub [0, 1, 2, 3, 4, 5, 6, 7, 8] (by rfl)⟩
    · replace hF := ff_of hb12 hF
      rcases Bool.eq_false_or_eq_true (decide ((16 : Int) ≤ a_3.f_Index)) with hb13 | hb13
      · replace hF := tt_of hb13 hF
        refine reg mixed hn hG h [0, 1, 2, 3, 500, 4, 5, 6, 7] (ov [3] (op_fieldAddr_lbm (p := (b1 2)) (n := 1) 0 0 Tryd.underlying31 rfl Tryd.sizeOf3 (by decide) q0 rfl) <| ov [500, 7] (op_load_lb1 [] [one (slVP (dC 32) a_3.f_Parts), one (slVP (dC 32) a_3.f_Others), one (slVP (dC 32) a_3.f_Path)] 1 Tryd.isAgg3 q0 rfl rfl) <| ov [500] (op_bin bin_lss q0 qi) <| ov [500] (op_move q0) <| oe [500, 3] [] (GOk.on_eq hb12 rfl rfl rfl (op_fieldAddr_lbm (p := (b1 2)) (n := 1) 0 0 Tryd.underlying31 rfl Tryd.sizeOf3 (by decide) q0 rfl)) <| oe [501, 500, 7] [] (GOk.on_eq hb12 rfl rfl rfl (op_load_lb1 [] [one (slVP (dC 32) a_3.f_Parts), one (slVP (dC 32) a_3.f_Others), one (slVP (dC 32) a_3.f_Path)] 1 Tryd.isAgg3 q0 rfl rfl)) <| oe [502, 500] [] (GOk.on_eq hb12 rfl rfl rfl (op_bin bin_geq q0 qi)) <| ov [503, 500] (op_pick_f hb12 q0 q1) <| ov [500] (op_move q0) <| oe [500] [] (GOk.off_v (want := false) hb13 rfl rfl rfl rfl) <| oe [501] [] (GOk.off_v (want := false) hb13 rfl rfl rfl rfl) <| oe [502] [] (GOk.off_v (want := false) hb13 rfl rfl rfl rfl) <| oe [503] [] (GOk.off_v (want := false) hb13 rfl rfl rfl rfl) <| ov [504] (op_pick_t hb13 q0 qb) .nil) fun _ a w h => ?_
        exact ⟨true, hF, h.sub [0, 1, 2, 3, 4, 5, 6, 7, 8] (by rfl)⟩
      · replace hF := ff_of hb13 hF
        refine reg mixed hn hG h [0, 1, 2, 3, 500, 4, 5, 6, 7] (ov [3] (op_fieldAddr_lbm (p := (b1 2)) (n := 1) 0 0 Tryd.underlying31 rfl Tryd.sizeOf3 (by decide) q0 rfl) <| ov [500, 7] (op_load_lb1 [] [one (slVP (dC 32) a_3.f_Parts), one (slVP (dC 32) a_3.f_Others), one (slVP (dC 32) a_3.f_Path)] 1 Tryd.isAgg3 q0 rfl rfl) <| ov [500] (op_bin bin_lss q0 qi) <| ov [500] (op_move q0) <| oe [500, 3] [] (GOk.on_eq hb12 rfl rfl rfl (op_fieldAddr_lbm (p := (b1 2)) (n := 1) 0 0 Tryd.underlying31 rfl Tryd.sizeOf3 (by decide) q0 rfl)) <| oe [501, 500, 7] [] (GOk.on_eq hb12 rfl rfl rfl (op_load_lb1 [] [one (slVP (dC 32) a_3.f_Parts), one (slVP (dC 32) a_3.f_Others), one (slVP (dC 32) a_3.f_Path)] 1 Tryd.isAgg3 q0 rfl rfl)) <| oe [502, 500] [] (GOk.on_eq hb12 rfl rfl rfl (op_bin bin_geq q0 qi)) <| ov [503, 500] (op_pick_f hb12 q0 q1) <| ov [500] (op_move q0) <| oe [500, 3] [] (GOk.on_eq hb13 rfl rfl rfl (op_fieldAddr_lbm (p := (b1 2)) (n := 1) 0 3 Tryd.underlying31 rfl Tryd.sizeOf24 (by decide) q0 rfl)) <| oe [501, 500, 7] [] (GOk.on_eq hb13 rfl rfl rfl (op_load_lb1 [one (intVP .i64 a_3.f_Index), one (slVP (dC 32) a_3.f_Parts), one (slVP (dC 32) a_3.f_Others)] [] 1 Tryd.isAgg24 q0 rfl rfl)) <| oe [502, 500] [] (GOk.on_eq hb13 rfl rfl rfl (op_len_sl Tryd.underlying24 q0)) <| oe [503, 500] [] (GOk.on_eq hb13 rfl rfl rfl (op_bin bin_neq q0 qi)) <| ov [504, 500] (op_pick_f hb13 q0 q1) .nil) fun _ a w h => ?_
        exact ⟨!decide ((a_3.f_Path.length : Int) = (4 : Int)), hF, h.sub [0, 1, 2, 3, 4, 5, 6, 7, 8] (by rfl)⟩
  · clear h hF
    rintro a w ⟨x4, hF, h⟩
    unfold keys_Verify.j1 at hF
    show Code.wp Tryd.prog _ _ a w
    refine cnd h hF 4 [5] [0, 1, 2, 3, 5, 6, 7, 8] (fun hb5 hF h => ?_) (fun hb5 hF h => ?_)
    · refine regS mixed hn hG h [500, 0] (ov [] (op_assign qb) .nil) fun _ a w h => ?_
      refine wp_ret ?_
      obtain rfl := Option.some.inj hF
      exact ⟨.inl rfl, ret1 h Tryd.results17 (r_tmp 0 rfl) [1] [(Log_e p_0 L_0)] rfl rfl rfl⟩
    · refine wp_skip ?_
      show Code.wp Tryd.prog _ _ a w
      obtain ⟨r6, hr6, hF⟩ := bind_some hF
      refine regS mixed hn hG h [0, 1, 3, 503, 500, 5, 7, 507, 501] (ov [0] (op_move q0) <| ov [2, 6] (op_load_w 1 Tryd.isAgg23 Tryd.sizeOf23 q0) <| ov [3] (op_fieldAddr_lbm (p := (b1 2)) (n := 1) 0 1 Tryd.underlying31 rfl Tryd.sizeOf24 (by decide) q0 rfl) <| ov [500, 7] (op_load_lb1 [one (intVP .i64 a_3.f_Index)] [one (slVP (dC 32) a_3.f_Others), one (slVP (dC 32) a_3.f_Path)] 1 Tryd.isAgg24 q0 rfl rfl) <| ov [3] (op_fieldAddr_lbm (p := (b1 2)) (n := 1) 0 2 Tryd.underlying31 rfl Tryd.sizeOf24 (by decide) q0 rfl) <| ov [500, 7] (op_load_lb1 [one (intVP .i64 a_3.f_Index), one (slVP (dC 32) a_3.f_Parts)] [one (slVP (dC 32) a_3.f_Path)] 1 Tryd.isAgg24 q0 rfl rfl) <| oc [505, 504, 502, 500] [4] Tryd.call53 (lamport_Opened_ok hr6) ⟨q0, q1, q2, q3, trivial⟩ <| ov [501] (op_move q0) <| ov [500] (op_extract q0 rfl) <| ov [501] (op_extract q0 rfl) <| ob [] (op_alloc Tryd.zeroValue23 z23) <| og [501, 503] [500] [.res 10 100000 (fun v1_ _ => (lb (v1_) 23 [bytesCk 32 r6.1]))] (GOk.plain (op_store_w Tryd.sizeOf23 q0 q1 (cells_agg _)) rfl) <| ov [503] (op_assign q0) .nil) fun b7 a w h => ?_
      refine wp_seq ?_
      refine wp_cut (fun a w => ∃ (x9 : Bool), ∃ (x10 : Option O_Log), keys_Verify.j2 x9 x10 = some r ∧ SatL c [.slot 8 (boolVP x9), .res (Log_e p_0 x10)] a w) ?_ ?_
      · rcases Bool.eq_false_or_eq_true r6.2.1 with hb11 | hb11
        · replace hF := tt_of hb11 hF
          obtain ⟨r8, hr8, hF⟩ := bind_some hF
          refine reg mixed hn hG h [500, 504] (ov [4] (op_move q0) <| ov [500] (op_move q0) <| oe [500, 0] [] (GOk.on_eq hb11 rfl rfl rfl (op_move q0)) <| oe [501, 3, 8] [] (GOk.on_eq hb11 rfl rfl rfl (op_load_w 1 Tryd.isAgg23 Tryd.sizeOf23 q0)) <| oe [502, 2] [] (GOk.on_eq hb11 rfl rfl rfl (op_fieldAddr_lbm (p := (b1 2)) (n := 1) 0 0 Tryd.underlying31 rfl Tryd.sizeOf3 (by decide) q0 rfl)) <| oe [503, 500, 6] [] (GOk.on_eq hb11 rfl rfl rfl (op_load_lb1 [] [one (slVP (dC 32) a_3.f_Parts), one (slVP (dC 32) a_3.f_Others), one (slVP (dC 32) a_3.f_Path)] 1 Tryd.isAgg3 q0 rfl rfl)) <| oe [504, 2] [] (GOk.on_eq hb11 rfl rfl rfl (op_fieldAddr_lbm (p := (b1 2)) (n := 1) 0 3 Tryd.underlying31 rfl Tryd.sizeOf24 (by decide) q0 rfl)) <| oe [505, 500, 6] [] (GOk.on_eq hb11 rfl rfl rfl (op_load_lb1 [one (intVP .i64 a_3.f_Index), one (slVP (dC 32) a_3.f_Parts), one (slVP (dC 32) a_3.f_Others)] [] 1 Tryd.isAgg24 q0 rfl rfl)) <| oe [506, 505, 504, 502, 500] [7] (GOk.on_eq hb11 rfl rfl rfl (op_call Tryd.call54 (keys_Climb_ok hr8) ⟨q0, q1, q2, q3, trivial⟩)) <| oe [508, 1, 5] [] (GOk.on_eq hb11 rfl rfl rfl (op_load_w 1 Tryd.isAgg23 Tryd.sizeOf23 q0)) <| oe [509, 502, 500] [] (GOk.on_eq hb11 rfl rfl rfl (op_bin (bin_aeql Tryd.underlying23 Tryd.underlying5 Tryd.type5 Tryd.sizeOf5 Tryd.isAgg5 Tryd.eqGuardType23) q0 q1)) <| ov [510, 500] (op_pick_t hb11 q0 q1) <| ov [500] (op_assign q0) .nil) fun _ a w h => ?_
          exact ⟨decide (r8.1 = a_1), r8.2, hF, h.sub [0, 1] (by rfl)⟩
        · replace hF := ff_of hb11 hF
          refine reg mixed hn hG h [500, 7] (ov [4] (op_move q0) <| ov [500] (op_move q0) <| oe [500] [] (GOk.off_v (want := true) hb11 rfl rfl rfl rfl) <| oe [501] [] (GOk.off_v (want := true) hb11 rfl rfl rfl rfl) <| oe [502] [] (GOk.off_v (want := true) hb11 rfl rfl rfl rfl) <| oe [503] [] (GOk.off_v (want := true) hb11 rfl rfl rfl rfl) <| oe [504] [] (GOk.off_v (want := true) hb11 rfl rfl rfl rfl) <| oe [505] [] (GOk.off_v (want := true) hb11 rfl rfl rfl rfl) <| oe [506] [] (GOk.off_v (want := true) hb11 rfl rfl rfl rfl) <| oe [507] [] (GOk.off_v (want := true) hb11 rfl rfl rfl rfl) <| oe [508] [] (GOk.off_v (want := true) hb11 rfl rfl rfl rfl) <| ov [509] (op_pick_f hb11 q0 qb) <| ov [500] (op_assign q0) .nil) fun _ a w h => ?_
          exact ⟨false, r6.2.2, hF, h.sub [0, 1] (by rfl)⟩
      · clear h hF
        rintro a w ⟨x9, x10, hF, h⟩
        unfold keys_Verify.j2 at hF
        show Code.wp Tryd.prog _ _ a w
        refine wp_ret ?_
        obtain rfl := Option.some.inj hF
        exact ⟨.inl rfl, ret1 h Tryd.results17 (r_tmp 0 rfl) [1] [(Log_e p_0 x10)] rfl rfl rfl⟩

def update_Right (L_0 : Option O_Log) (a_1 : List UInt8) (a_2 : S_api_Update) : Option (Bool × (Option O_Log)) := ((update_Claim L_0 a_2.f_Home a_2.f_Old a_2.f_New).bind fun r3 => ((keys_Verify r3.2 a_1 r3.1 a_2.f_Sig).bind fun r4 => some (r4.1, r4.2)))
theorem update_Right_ok {p_0 : Value} {L_0 : Option O_Log} {a_1 : List UInt8} {a_2 : S_api_Update} {r : Bool × (Option O_Log)} (hF : update_Right L_0 a_1 a_2 = some r) : CallOk Tryd.prog KG 27 [(eqVP p_0), (aggVP [bytesCk 32 a_1]), (aggVP [one (intVP .u32 a_2.f_Home), bytesCk 32 a_2.f_Old, bytesCk 32 a_2.f_New, one (intVP .i64 a_2.f_Sig.f_Index), one (slVP (dC 32) a_2.f_Sig.f_Parts), one (slVP (dC 32) a_2.f_Sig.f_Others), one (slVP (dC 32) a_2.f_Sig.f_Path)])] [(Log_e p_0 L_0)] (fun _ => [Log_e p_0 r.2]) (boolVP r.1) := by
  refine CallOk.intro 20 Tryd.func27 rfl Tryd.ntmps27 (Nat.le_of_ble_eq_true rfl) ?_
  intro c a w hG hn h
  unfold update_Right at hF
  change SatL c [.slot 0 (eqVP p_0), .slot 1 (aggVP [bytesCk 32 a_1]), .slot 2 (aggVP [one (intVP .u32 a_2.f_Home), bytesCk 32 a_2.f_Old, bytesCk 32 a_2.f_New, one (intVP .i64 a_2.f_Sig.f_Index), one (slVP (dC 32) a_2.f_Sig.f_Parts), one (slVP (dC 32) a_2.f_Sig.f_Others), one (slVP (dC 32) a_2.f_Sig.f_Path)]), .res (Log_e p_0 L_0)] a w at h
  refine regS mixed hn hG h [0, 504, 502, 3, 503, 501] (ob [1] (op_box q0 (cells_agg _)) <| ob [2] (op_box q0 (cells_agg _)) <| ov [] (op_assign qb) .nil) fun b1 a w h => ?_
  obtain ⟨r3, hr3, hF⟩ := bind_some hF
  obtain ⟨r4, hr4, hF⟩ := bind_some hF
  refine regS mixed hn hG h [500, 501] (ov [0] (op_move q0) <| ov [1, 4] (op_load_w 1 Tryd.isAgg23 Tryd.sizeOf23 q0) <| ov [0] (op_move q0) <| ov [2] (op_fieldAddr_lbm (p := (b1 1)) (n := 1) 0 0 Tryd.underlying53 rfl Tryd.sizeOf51 (by decide) q0 rfl) <| ov [500, 5] (op_load_lb1 [] [bytesCk 32 a_2.f_Old, bytesCk 32 a_2.f_New, one (intVP .i64 a_2.f_Sig.f_Index), one (slVP (dC 32) a_2.f_Sig.f_Parts), one (slVP (dC 32) a_2.f_Sig.f_Others), one (slVP (dC 32) a_2.f_Sig.f_Path)] 1 Tryd.isAgg51 q0 rfl rfl) <| ov [2] (op_fieldAddr_lbm (p := (b1 1)) (n := 32) 0 1 Tryd.underlying53 rfl Tryd.sizeOf23 (by decide) q0 rfl) <| ov [500, 5] (op_load_lb [one (intVP .u32 a_2.f_Home)] [bytesCk 32 a_2.f_Old] [bytesCk 32 a_2.f_New, one (intVP .i64 a_2.f_Sig.f_Index), one (slVP (dC 32) a_2.f_Sig.f_Parts), one (slVP (dC 32) a_2.f_Sig.f_Others), one (slVP (dC 32) a_2.f_Sig.f_Path)] 1 Tryd.isAgg23 Tryd.sizeOf23 q0 rfl rfl rfl) <| ov [2] (op_fieldAddr_lbm (p := (b1 1)) (n := 32) 0 33 Tryd.underlying53 rfl Tryd.sizeOf23 (by decide) q0 rfl) <| ov [500, 5] (op_load_lb [one (intVP .u32 a_2.f_Home), bytesCk 32 a_2.f_Old] [bytesCk 32 a_2.f_New] [one (intVP .i64 a_2.f_Sig.f_Index), one (slVP (dC 32) a_2.f_Sig.f_Parts), one (slVP (dC 32) a_2.f_Sig.f_Others), one (slVP (dC 32) a_2.f_Sig.f_Path)] 1 Tryd.isAgg23 Tryd.sizeOf23 q0 rfl rfl rfl) <| oc [506, 504, 502, 500] [3] Tryd.call30 (update_Claim_ok hr3) ⟨q0, q1, q2, q3, trivial⟩ <| ov [2] (op_fieldAddr_lbm (p := (b1 1)) (n := 4) 0 65 Tryd.underlying53 rfl Tryd.sizeOf31 (by decide) q0 rfl) <| ov [500, 5] (op_load_lb [one (intVP .u32 a_2.f_Home), bytesCk 32 a_2.f_Old, bytesCk 32 a_2.f_New] [one (intVP .i64 a_2.f_Sig.f_Index), one (slVP (dC 32) a_2.f_Sig.f_Parts), one (slVP (dC 32) a_2.f_Sig.f_Others), one (slVP (dC 32) a_2.f_Sig.f_Path)] [] 1 Tryd.isAgg31 Tryd.sizeOf31 q0 rfl rfl rfl) <| oc [512, 511, 503, 500] [502] Tryd.call17 (keys_Verify_ok hr4) ⟨q0, q1, q2, q3, trivial⟩ <| ov [501] (op_assign q0) .nil) fun _ a w h => ?_
  refine wp_ret ?_
  obtain rfl := Option.some.inj hF
  exact ⟨.inl rfl, ret1 h Tryd.results27 (r_tmp 0 rfl) [1] [(Log_e p_0 r4.2)] rfl rfl rfl⟩

def law10_awake.j1 (x9 : Bool) (x10 : Option O_Log) : Option Bool := some x9
def law10_awake : Option Bool := ((keys_New none ([u8of 1] ++ List.replicate (32 - 1) 0)).bind fun r1 => ((update_Sign r1.2 r1.1 1 ([u8of 2] ++ List.replicate (32 - 1) 0) ([u8of 3] ++ List.replicate (32 - 1) 0)).bind fun r3 => (if (decide (r3.2.2.1 = (0 : Int))) = true then ((keys_Signer_Root r1.1 r3.2.2.2).bind fun r5 => ((update_Right r5.2 r5.1 r3.2.1).bind fun r6 => (if r6.1 = true then ((keys_Signer_Root r1.1 r6.2).bind fun r7 => ((update_Right r7.2 r7.1 (S_api_Update.mk (0 : Int) (List.replicate 32 0) (List.replicate 32 0) (S_api_Sig.mk (0 : Int) [] [] []))).bind fun r8 => law10_awake.j1 (!r8.1) r8.2)) else law10_awake.j1 false r6.2))) else law10_awake.j1 false r3.2.2.2)))
theorem law10_awake_ok {r : Bool} (hF : law10_awake = some r) : CallOk Tryd.prog KG 25 [] [] (fun _ => []) (boolVP r) := by
  refine CallOk.intro 30 Tryd.func25 rfl Tryd.ntmps25 (Nat.le_of_ble_eq_true rfl) ?_
  intro c a w hG hn h
  unfold law10_awake at hF
  change SatL c [] a w at h
  refine regS mixed hn hG h [] (ov [] (op_assign qb) .nil) fun _ a w h => ?_
  replace h := h.snoc Log_nil
  replace h := h.sub [0] (by rfl)
  change SatL c [.res (Log_e (.pointer none) none)] a w at h
  obtain ⟨r1, hr1, hF⟩ := bind_some hF
  refine regS mixed hn hG h [502, 503, 500] (ov [] (op_buildB (xs := [.const (.int .u8 1)]) (ys := [u8of 1]) rfl bu23 ⟨⟨_, qi, (cells_u8 _)⟩, trivial⟩ (by decide) rfl) <| oc [500] [0] Tryd.call12 (keys_New_ok hr1) ⟨(opc (ec _)), q0, trivial⟩ <| ob [] (op_alloc Tryd.zeroValue27 z27) <| og [501, 503] [500] [.res 2 100000 (fun v1_ _ => (lb (v1_) 27 [bytesCk 32 r1.1.f_Seed, one (intVP .i64 r1.1.f_Next), one (slVP (dC 32) r1.1.f_Leaves)]))] (GOk.plain (op_store_w Tryd.sizeOf27 q0 q1 (cells_agg _)) rfl) .nil) fun b2 a w h => ?_
  obtain ⟨r3, hr3, hF⟩ := bind_some hF
  refine regS mixed hn hG h [0, 504, 500, 2, 511, 501] (ov [0, 2] (op_load_w 1 Tryd.isAgg27 Tryd.sizeOf27 q0) <| ov [] (op_buildB (xs := [.const (.int .u8 2)]) (ys := [u8of 2]) rfl bu23 ⟨⟨_, qi, (cells_u8 _)⟩, trivial⟩ (by decide) rfl) <| ov [] (op_buildB (xs := [.const (.int .u8 3)]) (ys := [u8of 3]) rfl bu23 ⟨⟨_, qi, (cells_u8 _)⟩, trivial⟩ (by decide) rfl) <| oc [502, 501, 500] [1] Tryd.call26 (update_Sign_ok hr3) ⟨(opc (ec _)), q0, qi, q1, q2, trivial⟩ <| ov [501] (op_move q0) <| ov [500] (op_extract q0 rfl) <| ov [501] (op_extract q0 rfl) <| ov [502] (op_extract q0 rfl) <| ob [] (op_alloc Tryd.zeroValue27 z27) <| ob [] (op_alloc Tryd.zeroValue53 z53) <| og [503, 506] [502] [.res 8 100000 (fun v1_ _ => (lb (v1_) 27 [bytesCk 32 r3.1.f_Seed, one (intVP .i64 r3.1.f_Next), one (slVP (dC 32) r3.1.f_Leaves)]))] (GOk.plain (op_store_w Tryd.sizeOf27 q0 q1 (cells_agg _)) rfl) <| og [502, 506] [501] [.res 9 100000 (fun v1_ _ => (lb (v1_) 53 [one (intVP .u32 r3.2.1.f_Home), bytesCk 32 r3.2.1.f_Old, bytesCk 32 r3.2.1.f_New, one (intVP .i64 r3.2.1.f_Sig.f_Index), one (slVP (dC 32) r3.2.1.f_Sig.f_Parts), one (slVP (dC 32) r3.2.1.f_Sig.f_Others), one (slVP (dC 32) r3.2.1.f_Sig.f_Path)]))] (GOk.plain (op_store_w Tryd.sizeOf53 q0 q1 (cells_agg _)) rfl) <| ov [506] (op_assign q0) .nil) fun b4 a w h => ?_
  refine wp_seq ?_
  refine wp_cut (fun a w => ∃ (x9 : Bool), ∃ (x10 : Option O_Log), law10_awake.j1 x9 x10 = some r ∧ SatL c [.slot 0 (boolVP x9), .res (Log_e (.pointer none) x10)] a w) ?_ ?_
  · rcases Bool.eq_false_or_eq_true (decide (r3.2.2.1 = (0 : Int))) with hb11 | hb11
    · replace hF := tt_of hb11 hF
      obtain ⟨r5, hr5, hF⟩ := bind_some hF
      obtain ⟨r6, hr6, hF⟩ := bind_some hF
      rcases Bool.eq_false_or_eq_true r6.1 with hb12 | hb12
      · replace hF := tt_of hb12 hF
        obtain ⟨r7, hr7, hF⟩ := bind_some hF
        obtain ⟨r8, hr8, hF⟩ := bind_some hF
        refine reg mixed hn hG h [500, 503] (ov [2] (op_move q0) <| ov [500] (op_bin bin_eql q0 qi) <| ov [500] (op_move q0) <| oe [500, 0, 3] [] (GOk.on_eq hb11 rfl rfl rfl (op_load_w 1 Tryd.isAgg27 Tryd.sizeOf27 q0)) <| oe [501, 500] [4] (GOk.on_eq hb11 rfl rfl rfl (op_call Tryd.call13 (keys_Signer_Root_ok hr5) ⟨q0, (opc (ec _)), trivial⟩)) <| oe [503, 1, 5] [] (GOk.on_eq hb11 rfl rfl rfl (op_load_w 1 Tryd.isAgg53 Tryd.sizeOf53 q0)) <| oe [504, 502, 500] [501] (GOk.on_eq hb11 rfl rfl rfl (op_call Tryd.call27 (update_Right_ok hr6) ⟨(opc (ec _)), q0, q1, trivial⟩)) <| ov [506, 501] (op_pick_t hb11 q0 q1) <| ov [500] (op_move q0) <| oe [500, 0, 3] [] (GOk.on_eq hb12 rfl rfl rfl (op_load_w 1 Tryd.isAgg27 Tryd.sizeOf27 q0)) <| oe [501, 500] [503] (GOk.on_eq hb12 rfl rfl rfl (op_call Tryd.call13 (keys_Signer_Root_ok hr7) ⟨q0, (opc (ec _)), trivial⟩)) <| oe [503] [] (GOk.on_eq hb12 rfl rfl rfl (op_build [] rfl bu53 z53 rfl)) <| oe [504, 502, 500] [501] (GOk.on_eq hb12 rfl rfl rfl (op_call Tryd.call27 (update_Right_ok hr8) ⟨(opc (ec _)), q0, q1, trivial⟩)) <| oe [506, 501] [] (GOk.on_eq hb12 rfl rfl rfl (op_un (un_not _) q0)) <| ov [507, 500] (op_pick_t hb12 q0 q1) <| ov [500] (op_assign q0) .nil) fun _ a w h => ?_
        exact ⟨!r8.1, r8.2, hF, h.sub [0, 1] (by rfl)⟩
      · replace hF := ff_of hb12 hF
        refine reg mixed hn hG h [500, 509] (ov [2] (op_move q0) <| ov [500] (op_bin bin_eql q0 qi) <| ov [500] (op_move q0) <| oe [500, 0, 3] [] (GOk.on_eq hb11 rfl rfl rfl (op_load_w 1 Tryd.isAgg27 Tryd.sizeOf27 q0)) <| oe [501, 500] [4] (GOk.on_eq hb11 rfl rfl rfl (op_call Tryd.call13 (keys_Signer_Root_ok hr5) ⟨q0, (opc (ec _)), trivial⟩)) <| oe [503, 1, 5] [] (GOk.on_eq hb11 rfl rfl rfl (op_load_w 1 Tryd.isAgg53 Tryd.sizeOf53 q0)) <| oe [504, 502, 500] [501] (GOk.on_eq hb11 rfl rfl rfl (op_call Tryd.call27 (update_Right_ok hr6) ⟨(opc (ec _)), q0, q1, trivial⟩)) <| ov [506, 501] (op_pick_t hb11 q0 q1) <| ov [500] (op_move q0) <| oe [500] [] (GOk.off_v (want := true) hb12 rfl rfl rfl rfl) <| oe [501] [] (GOk.off_v (want := true) hb12 rfl rfl rfl rfl) <| oe [502] [] (GOk.off_v (want := true) hb12 rfl rfl rfl rfl) <| oe [503] [] (GOk.off_v (want := true) hb12 rfl rfl rfl rfl) <| oe [504] [] (GOk.off_v (want := true) hb12 rfl rfl rfl rfl) <| ov [505] (op_pick_f hb12 q0 qb) <| ov [500] (op_assign q0) .nil) fun _ a w h => ?_
        exact ⟨false, r6.2, hF, h.sub [0, 1] (by rfl)⟩
    · replace hF := ff_of hb11 hF
      refine reg mixed hn hG h [500, 4] (ov [2] (op_move q0) <| ov [500] (op_bin bin_eql q0 qi) <| ov [500] (op_move q0) <| oe [500] [] (GOk.off_v (want := true) hb11 rfl rfl rfl rfl) <| oe [501] [] (GOk.off_v (want := true) hb11 rfl rfl rfl rfl) <| oe [502] [] (GOk.off_v (want := true) hb11 rfl rfl rfl rfl) <| oe [503] [] (GOk.off_v (want := true) hb11 rfl rfl rfl rfl) <| ov [504] (op_pick_f hb11 q0 qb) <| ov [500] (op_move q0) <| oe [500] [] (GOk.off_v (want := true) rfl rfl rfl rfl rfl) <| oe [501] [] (GOk.off_v (want := true) rfl rfl rfl rfl rfl) <| oe [502] [] (GOk.off_v (want := true) rfl rfl rfl rfl rfl) <| oe [503] [] (GOk.off_v (want := true) rfl rfl rfl rfl rfl) <| oe [504] [] (GOk.off_v (want := true) rfl rfl rfl rfl rfl) <| ov [505] (op_pick_f rfl q0 qb) <| ov [500] (op_assign q0) .nil) fun _ a w h => ?_
      exact ⟨false, r3.2.2.2, hF, h.sub [0, 1] (by rfl)⟩
  · clear h hF
    rintro a w ⟨x9, x10, hF, h⟩
    unfold law10_awake.j1 at hF
    show Code.wp Tryd.prog _ _ a w
    refine wp_ret ?_
    obtain rfl := Option.some.inj hF
    exact ⟨.inl rfl, ret1 h Tryd.results25 (r_tmp 0 rfl) [] [] rfl rfl rfl⟩

def ref10_Claim (L_0 : Option O_RLog) (a_1 : Int) (a_2 : List UInt8) (a_3 : List UInt8) : Option ((List UInt8) × (Option O_RLog)) := ((ref03_Big (IntKind.wrap .u64 a_1) 4).bind fun r4 => ((ref03_Bytes a_2).bind fun r5 => ((ref03_Bytes a_3).bind fun r6 => ((ref04_Log_Of L_0 7 [r4, r5, r6]).bind fun r7 => some (r7.1, r7.2)))))
theorem ref10_Claim_ok {p_0 : Value} {L_0 : Option O_RLog} {a_1 : Int} {a_2 : List UInt8} {a_3 : List UInt8} {r : (List UInt8) × (Option O_RLog)} (hF : ref10_Claim L_0 a_1 a_2 a_3 = some r) : CallOk Tryd.prog KG 28 [(eqVP p_0), (intVP .u32 a_1), (aggVP [bytesCk 32 a_2]), (aggVP [bytesCk 32 a_3])] [(RLog_e p_0 L_0)] (fun _ => [RLog_e p_0 r.2]) (aggVP [bytesCk 32 r.1]) := by
  refine CallOk.intro 19 Tryd.func28 rfl Tryd.ntmps28 (Nat.le_of_ble_eq_true rfl) ?_
  intro c a w hG hn h
  unfold ref10_Claim at hF
  change SatL c [.slot 0 (eqVP p_0), .slot 1 (intVP .u32 a_1), .slot 2 (aggVP [bytesCk 32 a_2]), .slot 3 (aggVP [bytesCk 32 a_3]), .res (RLog_e p_0 L_0)] a w at h
  refine regS mixed hn hG h [0, 1, 505, 503, 501, 4, 504, 502, 500] (ob [2] (op_box q0 (cells_agg _)) <| ob [3] (op_box q0 (cells_agg _)) <| ob [] (op_alloc Tryd.zeroValue23 z23) .nil) fun b1 a w h => ?_
  obtain ⟨r4, hr4, hF⟩ := bind_some hF
  obtain ⟨r5, hr5, hF⟩ := bind_some hF
  obtain ⟨r6, hr6, hF⟩ := bind_some hF
  obtain ⟨r7, hr7, hF⟩ := bind_some hF
  refine regS mixed hn hG h [4, 500, 501] (ov [0] (op_move q0) <| ov [1] (op_move q0) <| ov [500] (op_convert_int Tryd.underlying51 Tryd.underlying114 q0) <| oc [500] [] Tryd.call60 (ref03_Big_ok hr4) ⟨q0, qi, trivial⟩ <| ov [2, 6] (op_load_w 1 Tryd.isAgg23 Tryd.sizeOf23 q0) <| oc [500] [] Tryd.call61 (ref03_Bytes_ok hr5) ⟨q0, trivial⟩ <| ov [3, 7] (op_load_w 1 Tryd.isAgg23 Tryd.sizeOf23 q0) <| oc [500] [] Tryd.call61 (ref03_Bytes_ok hr6) ⟨q0, trivial⟩ <| ov [504, 502, 500] (op_lit (xs := [.tmp 12, .tmp 14, .tmp 16]) (ys := [r4, r5, r6]) _ rfl Tryd.underlying101 Tryd.sizeOf9 Tryd.zeroValue9 rfl rfl (by decide) (by decide) ⟨⟨_, q0, (cells_one (one_str _))⟩, ⟨_, q1, (cells_one (one_str _))⟩, ⟨_, q2, (cells_one (one_str _))⟩, trivial⟩ lens_strC) <| oc [508, 500] [5] Tryd.call59 (ref04_Log_Of_ok hr7) ⟨q0, qi, q1, trivial⟩ <| ou [4, 501] 8 (op_store_w Tryd.sizeOf23 q0 q1 (cells_agg _)) .nil) fun _ a w h => ?_
  refine wp_ret ?_
  obtain rfl := Option.some.inj hF
  exact ⟨.inl rfl, ret1 h Tryd.results28 (r_cell 0 1 rfl rfl Tryd.isAgg23 Tryd.sizeOf23 rfl) [2] [(RLog_e p_0 r7.2)] rfl rfl rfl⟩

def ref05_Bit.b1 (a_1 : Int) (x6 : Int) (x7 : Int) : Option (Flow Int (Int × Int)) := (if (decide (x7 < (IntKind.wrap .i64 (7 - (a_1.tmod 8))))) = true then some (.cont (IntKind.wrap .i64 (x6.tdiv 2), IntKind.wrap .i64 (x7 + 1))) else some (.brk (x6, x7)))
def ref05_Bit.j1 (a_0 : List UInt8) (a_1 : Int) (x2 : Bool) : Option Int := (if x2 = true then some 0 else (if (0 : Int) ≤ IntKind.wrap .i64 (a_1.tdiv 8) ∧ IntKind.wrap .i64 (a_1.tdiv 8) < 32 then ((loopN (fun s : Int × Int => ref05_Bit.b1 a_1 s.1 s.2) 100000 (IntKind.wrap .i64 ((a_0.getD (IntKind.wrap .i64 (a_1.tdiv 8)).toNat 0).toNat), 0)).bind fun cr => match cr with | .ret r => some r | .next (y16, y17) => some (y16.tmod 2)) else none))
def ref05_Bit (a_0 : List UInt8) (a_1 : Int) : Option Int := (if (decide (a_1 < (0 : Int))) = true then ref05_Bit.j1 a_0 a_1 true else ref05_Bit.j1 a_0 a_1 (decide ((255 : Int) < a_1)))
theorem ref05_Bit_ok {a_0 : List UInt8} {a_1 : Int} {r : Int} (hF : ref05_Bit a_0 a_1 = some r) : CallOk Tryd.prog KG 76 [(aggVP [bytesCk 32 a_0]), (intVP .i64 a_1)] [] (fun _ => []) (intVP .i64 r) := by
  refine CallOk.intro 29 Tryd.func76 rfl Tryd.ntmps76 (Nat.le_of_ble_eq_true rfl) ?_
  intro c a w hG hn h
  unfold ref05_Bit at hF
  change SatL c [.slot 0 (aggVP [bytesCk 32 a_0]), .slot 1 (intVP .i64 a_1)] a w at h
  refine regS mixed hn hG h [1, 502, 501] (ob [0] (op_box q0 (cells_agg _)) <| ov [] (op_assign qi) .nil) fun b1 a w h => ?_
  refine wp_seq ?_
  refine wp_seq ?_
  refine wp_cut (fun a w => ∃ (x2 : Bool), ref05_Bit.j1 a_0 a_1 x2 = some r ∧ SatL c [.slot 1 (intVP .i64 a_1), .slot 2 (lpVP (b1 0) 0), .slot 12 (boolVP x2), .res (lb (b1 0) 23 [bytesCk 32 a_0])] a w) ?_ ?_
  · rcases Bool.eq_false_or_eq_true (decide (a_1 < (0 : Int))) with hb18 | hb18
    · replace hF := tt_of hb18 hF
      refine reg mixed hn hG h [0, 1, 500, 2] (ov [0] (op_move q0) <| ov [500] (op_bin bin_lss q0 qi) <| ov [500] (op_move q0) <| oe [500] [] (GOk.off_v (want := false) hb18 rfl rfl rfl rfl) <| oe [501] [] (GOk.off_v (want := false) hb18 rfl rfl rfl rfl) <| ov [502] (op_pick_t hb18 q0 qb) .nil) fun _ a w h => ?_
      exact ⟨true, hF, h.sub [0, 1, 2, 3] (by rfl)⟩
    · replace hF := ff_of hb18 hF
      refine reg mixed hn hG h [0, 1, 500, 2] (ov [0] (op_move q0) <| ov [500] (op_bin bin_lss q0 qi) <| ov [500] (op_move q0) <| oe [500, 0] [] (GOk.on_eq hb18 rfl rfl rfl (op_move q0)) <| oe [501, 500] [] (GOk.on_eq hb18 rfl rfl rfl (op_bin bin_gtr q0 qi)) <| ov [502, 500] (op_pick_f hb18 q0 q1) .nil) fun _ a w h => ?_
      exact ⟨decide ((255 : Int) < a_1), hF, h.sub [0, 1, 2, 3] (by rfl)⟩
  · clear h hF
    rintro a w ⟨x2, hF, h⟩
    unfold ref05_Bit.j1 at hF
    show Code.wp Tryd.prog _ _ a w
    refine cnd h hF 2 [] [0, 1, 3] (fun hb3 hF h => ?_) (fun hb3 hF h => ?_)
    · refine regS mixed hn hG h [500] (ov [] (op_assign qi) .nil) fun _ a w h => ?_
      refine wp_ret ?_
      obtain rfl := Option.some.inj hF
      exact ⟨.inl rfl, ret1 h Tryd.results76 (r_tmp 0 rfl) [] [] rfl rfl rfl⟩
    · refine wp_skip ?_
      show Code.wp Tryd.prog _ _ a w
      obtain ⟨hv4, hF⟩ := ite_some hF
      refine regS mixed hn hG h [0, 500] (ov [0] (op_move q0) <| ov [500] (op_bin (bin_quo (by decide)) q0 qi) <| ov [1, 500] (op_indexAddr_lb Tryd.underlying23 Tryd.sizeOf5 q0 q1 hv4) <| ov [500, 2] (op_load_lbB (i := IntKind.wrap .i64 (a_1.tdiv 8)) [] [] 1 Tryd.isAgg5 q0 rfl rfl hv4) <| ov [500] (op_convert_int Tryd.underlying5 Tryd.underlying3 q0) <| ov [500] (op_assign q0) .nil) fun _ a w h => ?_
      refine wp_seq ?_
      refine regS mixed hn hG h [0, 1, 500] (ov [] (op_assign qi) .nil) fun _ a w h => ?_
      refine wp_block ?_
      obtain ⟨cr12, hl13, hF⟩ := bind_some hF
      refine wp_mono (wp_loopN (R := Int) (S := Int × Int) (fun s a w => SatL c [.slot 1 (intVP .i64 a_1), .slot 5 (intVP .i64 s.1), .slot 6 (intVP .i64 s.2)] a w) (fun res e a w => match res with | .next s => e = .exit 0 ∧ SatL c [.slot 5 (intVP .i64 s.1)] a w | .ret r => e = .ret ∧ RetOk Tryd.prog Tryd.f76 c (intVP .i64 r) (fun _ => []) a w) ?_ _ (IntKind.wrap .i64 ((a_0.getD (IntKind.wrap .i64 (a_1.tdiv 8)).toNat 0).toNat), 0) _ _ _ (h.sub [0, 1, 2] (by rfl)) hl13) ?_
      · clear hl13 hF h
        intro s a w o h hF
        obtain ⟨x6, x7⟩ := s
        change ref05_Bit.b1 a_1 x6 x7 = some o at hF
        unfold ref05_Bit.b1 at hF
        change SatL c [.slot 1 (intVP .i64 a_1), .slot 5 (intVP .i64 x6), .slot 6 (intVP .i64 x7)] a w at h
        refine wp_seq ?_
        refine regS mixed hn hG h [0, 1, 2, 500] (ov [2] (op_move q0) <| ov [0] (op_move q0) <| ov [500] (op_bin (bin_rem (by decide)) q0 qi) <| ov [500] (op_bin bin_sub qi q0) <| ov [503, 500] (op_bin bin_lss q0 q1) .nil) fun _ a w h => ?_
        refine cnd h hF 3 [0, 1, 2] [0, 1, 2] (fun hb11 hF h => ?_) (fun hb11 hF h => ?_)
        · refine wp_skip ?_
          show Code.wp Tryd.prog _ _ a w
          refine wp_seq ?_
          refine wp_block ?_
          refine reg mixed hn hG h [0, 500, 2] (ov [1] (op_move q0) <| ov [500] (op_bin (bin_quo (by decide)) q0 qi) <| od [500] 1 (op_assign q0) .nil) fun _ a w h => ?_
          show Code.wp Tryd.prog _ _ a w
          refine reg mixed hn hG h [0, 1, 500] (ov [2] (op_move q0) <| ov [500] (op_bin bin_add q0 qi) <| od [500] 2 (op_assign q0) .nil) fun _ a w h => ?_
          obtain rfl := Option.some.inj hF
          exact ⟨rfl, h.sub [0, 1, 2] (by rfl)⟩
        · refine wp_exit ?_
          obtain rfl := Option.some.inj hF
          exact ⟨exit_ne _, rfl, h.sub [1] (by rfl)⟩
      · clear hl13
        intro e a w hq
        cases cr12 with
        | ret r14 =>
          obtain ⟨rfl, hq⟩ := hq
          obtain rfl := Option.some.inj hF
          exact ⟨.inl rfl, hq⟩
        | next s15 =>
          obtain ⟨y16, y17⟩ := s15
          obtain ⟨rfl, h⟩ := hq
          change SatL c [.slot 5 (intVP .i64 y16)] a w at h
          refine inBlock_at ?_
          show Code.wp Tryd.prog _ _ a w
          refine regS mixed hn hG h [500] (ov [0] (op_move q0) <| ov [500] (op_bin (bin_rem (by decide)) q0 qi) <| ov [500] (op_assign q0) .nil) fun _ a w h => ?_
          refine wp_ret ?_
          obtain rfl := Option.some.inj hF
          exact ⟨.inl rfl, ret1 h Tryd.results76 (r_tmp 0 rfl) [] [] rfl rfl rfl⟩

def ref05_Opened.j2 (x46 : Int) (r75 : (List UInt8) × (Option O_RLog)) (x90 : List (UInt8)) : Option (Flow ((List UInt8) × Bool × (Option O_RLog)) (Int × (Option O_RLog) × (List (UInt8)))) := some (.cont (IntKind.wrap .i64 (x46 + 1), r75.2, x90))
def ref05_Opened.b1 (a_1 : List UInt8) (a_2 : List (List UInt8)) (a_3 : List (List UInt8)) (x46 : Int) (x47 : Option O_RLog) (x48 : List (UInt8)) : Option (Flow ((List UInt8) × Bool × (Option O_RLog)) (Int × (Option O_RLog) × (List (UInt8)))) := (if (decide (x46 < (32 : Int))) = true then (if (0 : Int) ≤ x46 ∧ x46 < a_2.length then ((ref05_Public x47 (a_2.getD x46.toNat default)).bind fun r75 => ((ref03_Bytes r75.1).bind fun r76 => ((ref05_Bit a_1 x46).bind fun r77 => (if (decide (r77 = (0 : Int))) = true then (if x48.length + r76.length ≤ mxl ∧ (x48.length + r76.length) * 1 ≤ 140737488355328 then (if (0 : Int) ≤ x46 ∧ x46 < a_3.length then ((ref03_Bytes (a_3.getD x46.toNat default)).bind fun r96 => (if (x48 ++ r76).length + r96.length ≤ mxl ∧ ((x48 ++ r76).length + r96.length) * 1 ≤ 140737488355328 then ref05_Opened.j2 x46 r75 ((x48 ++ r76) ++ r96) else none)) else none) else none) else (if (0 : Int) ≤ x46 ∧ x46 < a_3.length then ((ref03_Bytes (a_3.getD x46.toNat default)).bind fun r100 => (if x48.length + r100.length ≤ mxl ∧ (x48.length + r100.length) * 1 ≤ 140737488355328 then (if (x48 ++ r100).length + r76.length ≤ mxl ∧ ((x48 ++ r100).length + r76.length) * 1 ≤ 140737488355328 then ref05_Opened.j2 x46 r75 ((x48 ++ r100) ++ r76) else none) else none)) else none))))) else none) else some (.brk (x46, x47, x48)))
def ref05_Opened.j1 (L_0 : Option O_RLog) (a_1 : List UInt8) (a_2 : List (List UInt8)) (a_3 : List (List UInt8)) (x3 : Bool) : Option ((List UInt8) × Bool × (Option O_RLog)) := (if x3 = true then some ((List.replicate 32 0), false, L_0) else ((loopN (fun s : Int × (Option O_RLog) × (List (UInt8)) => ref05_Opened.b1 a_1 a_2 a_3 s.1 s.2.1 s.2.2) ((32 - 0 : Int).toNat + 2) (0, L_0, [])).bind fun cr => match cr with | .ret r => some r | .next (y109, y110, y111) => ((ref04_Log_Of y110 3 [y111]).bind fun r112 => some (r112.1, true, r112.2))))
def ref05_Opened (L_0 : Option O_RLog) (a_1 : List UInt8) (a_2 : List (List UInt8)) (a_3 : List (List UInt8)) : Option ((List UInt8) × Bool × (Option O_RLog)) := (if (!decide ((a_2.length : Int) = (32 : Int))) = true then ref05_Opened.j1 L_0 a_1 a_2 a_3 true else ref05_Opened.j1 L_0 a_1 a_2 a_3 (!decide ((a_3.length : Int) = (32 : Int))))
theorem ref05_Opened_ok {p_0 : Value} {L_0 : Option O_RLog} {a_1 : List UInt8} {a_2 : List (List UInt8)} {a_3 : List (List UInt8)} {r : (List UInt8) × Bool × (Option O_RLog)} (hF : ref05_Opened L_0 a_1 a_2 a_3 = some r) : CallOk Tryd.prog KG 57 [(eqVP p_0), (aggVP [bytesCk 32 a_1]), (slVP (dC 32) a_2), (slVP (dC 32) a_3)] [(RLog_e p_0 L_0)] (fun _ => [RLog_e p_0 r.2.2]) (tupVP [(aggVP [bytesCk 32 r.1]), (boolVP r.2.1)]) := by
  refine CallOk.intro 62 Tryd.func57 rfl Tryd.ntmps57 (Nat.le_of_ble_eq_true rfl) ?_
  intro c a w hG hn h
  unfold ref05_Opened at hF
  change SatL c [.slot 0 (eqVP p_0), .slot 1 (aggVP [bytesCk 32 a_1]), .slot 2 (slVP (dC 32) a_2), .slot 3 (slVP (dC 32) a_3), .res (RLog_e p_0 L_0)] a w at h
  refine regS mixed hn hG h [0, 2, 3, 504, 502, 4, 503, 501] (ob [1] (op_box q0 (cells_agg _)) <| ob [] (op_alloc Tryd.zeroValue23 z23) <| ov [] (op_assign qb) .nil) fun b1 a w h => ?_
  refine wp_seq ?_
  refine wp_seq ?_
  refine wp_cut (fun a w => ∃ (x3 : Bool), ref05_Opened.j1 L_0 a_1 a_2 a_3 x3 = some r ∧ SatL c [.slot 0 (eqVP p_0), .slot 2 (slVP (dC 32) a_2), .slot 3 (slVP (dC 32) a_3), .slot 5 (lpVP (b1 0) 0), .slot 8 (lpVP (b1 1) 0), .slot 20 (boolVP x3), .res (RLog_e p_0 L_0), .res (lb (b1 0) 23 [bytesCk 32 a_1]), .res (lb (b1 1) 23 [bytesCk 32 (List.replicate 32 0)])] a w) ?_ ?_
  · rcases Bool.eq_false_or_eq_true (!decide ((a_2.length : Int) = (32 : Int))) with hb113 | hb113
    · replace hF := tt_of hb113 hF
      refine reg mixed hn hG h [0, 1, 2, 3, 4, 500, 5, 6, 7] (ov [1] (op_move q0) <| ov [500] (op_len_sl Tryd.underlying24 q0) <| ov [500] (op_bin bin_neq q0 qi) <| ov [500] (op_move q0) <| oe [500] [] (GOk.off_v (want := false) hb113 rfl rfl rfl rfl) <| oe [501] [] (GOk.off_v (want := false) hb113 rfl rfl rfl rfl) <| oe [502] [] (GOk.off_v (want := false) hb113 rfl rfl rfl rfl) <| ov [503] (op_pick_t hb113 q0 qb) .nil) fun _ a w h => ?_
      exact ⟨true, hF, h.sub [0, 1, 2, 3, 4, 5, 6, 7, 8] (by rfl)⟩
    · replace hF := ff_of hb113 hF
      refine reg mixed hn hG h [0, 1, 2, 3, 4, 500, 5, 6, 7] (ov [1] (op_move q0) <| ov [500] (op_len_sl Tryd.underlying24 q0) <| ov [500] (op_bin bin_neq q0 qi) <| ov [500] (op_move q0) <| oe [500, 2] [] (GOk.on_eq hb113 rfl rfl rfl (op_move q0)) <| oe [501, 500] [] (GOk.on_eq hb113 rfl rfl rfl (op_len_sl Tryd.underlying24 q0)) <| oe [502, 500] [] (GOk.on_eq hb113 rfl rfl rfl (op_bin bin_neq q0 qi)) <| ov [503, 500] (op_pick_f hb113 q0 q1) .nil) fun _ a w h => ?_
      exact ⟨!decide ((a_3.length : Int) = (32 : Int)), hF, h.sub [0, 1, 2, 3, 4, 5, 6, 7, 8] (by rfl)⟩
  · clear h hF
    rintro a w ⟨x3, hF, h⟩
    unfold ref05_Opened.j1 at hF
    show Code.wp Tryd.prog _ _ a w
    refine cnd h hF 5 [4, 6, 8] [0, 1, 2, 3, 4, 6, 7, 8] (fun hb4 hF h => ?_) (fun hb4 hF h => ?_)
    · refine regS mixed hn hG h [0, 500, 1, 501] (ov [] (build0 Tryd.zeroValue23 Tryd.underlying23 Tryd.sizeOf5 z23) <| ou [0, 500] 2 (op_store_w Tryd.sizeOf23 q0 q1 (cells_agg _)) <| ov [] (op_assign qb) .nil) fun _ a w h => ?_
      refine wp_ret ?_
      obtain rfl := Option.some.inj hF
      exact ⟨.inl rfl, retn h (rs := [.cell 8 23, .tmp 9]) (Vs := [(aggVP [bytesCk 32 (List.replicate 32 0)]), (boolVP false)]) Tryd.results57 (by decide) ⟨(r_cell 0 3 rfl rfl Tryd.isAgg23 Tryd.sizeOf23 rfl), (r_tmp 1 rfl), trivial⟩ [2] [(RLog_e p_0 L_0)] rfl rfl rfl⟩
    · refine wp_skip ?_
      show Code.wp Tryd.prog _ _ a w
      refine regS mixed hn hG h [0, 1, 2, 3, 4, 500, 5, 6, 7] (ov [] (op_assign (opc (ec _))) .nil) fun _ a w h => ?_
      refine wp_seq ?_
      refine regS mixed hn hG h [0, 1, 2, 3, 4, 5, 500, 6, 7, 8] (ov [] (op_assign qi) .nil) fun _ a w h => ?_
      refine wp_block ?_
      obtain ⟨q26, h⟩ : ∃ q26 : Value, SatL c [.slot 0 (eqVP p_0), .slot 2 (slVP (dC 32) a_2), .slot 3 (slVP (dC 32) a_3), .slot 5 (lpVP (b1 0) 0), .slot 8 (lpVP (b1 1) 0), .slot 10 (eqVP q26), .slot 11 (intVP .i64 0), .res (RLog_e p_0 L_0), .res (lb (b1 0) 23 [bytesCk 32 a_1]), .res (lb (b1 1) 23 [bytesCk 32 (List.replicate 32 0)]), .res (acc q26 5 1 bC [])] a w := ⟨.slice none 0 0, (h.nilacc 5 1 bC).sub [0, 1, 2, 3, 4, 5, 6, 7, 8, 9, 10] (by rfl)⟩
      obtain ⟨cr105, hl106, hF⟩ := bind_some hF
      refine wp_mono (wp_loopN (R := (List UInt8) × Bool × (Option O_RLog)) (S := Int × (Option O_RLog) × (List (UInt8))) (fun s a w => ∃ q49 : Value, SatL c [.slot 0 (eqVP p_0), .slot 2 (slVP (dC 32) a_2), .slot 3 (slVP (dC 32) a_3), .slot 5 (lpVP (b1 0) 0), .slot 8 (lpVP (b1 1) 0), .slot 10 (eqVP q49), .slot 11 (intVP .i64 s.1), .res (RLog_e p_0 s.2.1), .res (lb (b1 0) 23 [bytesCk 32 a_1]), .res (lb (b1 1) 23 [bytesCk 32 (List.replicate 32 0)]), .res (acc q49 5 1 bC s.2.2)] a w) (fun res e a w => match res with | .next s => e = .exit 0 ∧ ∃ q49 : Value, SatL c [.slot 0 (eqVP p_0), .slot 8 (lpVP (b1 1) 0), .slot 10 (eqVP q49), .res (RLog_e p_0 s.2.1), .res (lb (b1 1) 23 [bytesCk 32 (List.replicate 32 0)]), .res (acc q49 5 1 bC s.2.2)] a w | .ret r => e = .ret ∧ RetOk Tryd.prog Tryd.f57 c (tupVP [(aggVP [bytesCk 32 r.1]), (boolVP r.2.1)]) (fun _ => [RLog_e p_0 r.2.2]) a w) ?_ _ (0, L_0, []) _ _ _ ⟨q26, (h.sub [0, 1, 2, 3, 4, 5, 6, 7, 8, 9, 10] (by rfl))⟩ hl106) ?_
      · clear hl106 hF h
        intro s a w o h hF
        obtain ⟨x46, x47, x48⟩ := s
        obtain ⟨q49, h⟩ := h
        change ref05_Opened.b1 a_1 a_2 a_3 x46 x47 x48 = some o at hF
        unfold ref05_Opened.b1 at hF
        change SatL c [.slot 0 (eqVP p_0), .slot 2 (slVP (dC 32) a_2), .slot 3 (slVP (dC 32) a_3), .slot 5 (lpVP (b1 0) 0), .slot 8 (lpVP (b1 1) 0), .slot 10 (eqVP q49), .slot 11 (intVP .i64 x46), .res (RLog_e p_0 x47), .res (lb (b1 0) 23 [bytesCk 32 a_1]), .res (lb (b1 1) 23 [bytesCk 32 (List.replicate 32 0)]), .res (acc q49 5 1 bC x48)] a w at h
        refine wp_seq ?_
        refine regS mixed hn hG h [0, 1, 2, 3, 4, 5, 6, 500, 7, 8, 9, 10] (ov [6] (op_move q0) <| ov [500] (op_bin bin_lss q0 qi) .nil) fun _ a w h => ?_
        refine cnd h hF 7 [0, 1, 2, 3, 4, 5, 6, 8, 9, 10, 11] [0, 1, 2, 3, 4, 5, 6, 8, 9, 10, 11] (fun hb73 hF h => ?_) (fun hb73 hF h => ?_)
        · refine wp_skip ?_
          show Code.wp Tryd.prog _ _ a w
          refine wp_seq ?_
          refine wp_block ?_
          obtain ⟨hv74, hF⟩ := ite_some hF
          obtain ⟨r75, hr75, hF⟩ := bind_some hF
          obtain ⟨r76, hr76, hF⟩ := bind_some hF
          refine regS mixed hn hG h [0, 1, 2, 3, 4, 5, 6, 500, 8, 9, 10, 502] (ov [0] (op_move q0) <| ov [1] (op_move q0) <| ov [6] (op_move q0) <| ov [501, 500] (op_indexAddr_sl Tryd.underlying24 Tryd.sizeOf23 (lens_dC 32) q0 q1 hv74) <| ov [500] (op_load_pp [bytesCk 32 (a_2.getD x46.toNat default)] [] Tryd.isAgg23 Tryd.sizeOf23 q0 rfl) <| oc [504, 500] [7] Tryd.call73 (ref05_Public_ok hr75) ⟨q0, q1, trivial⟩ <| oc [501] [] Tryd.call61 (ref03_Bytes_ok hr76) ⟨q0, trivial⟩ <| ov [500] (op_assign q0) .nil) fun _ a w h => ?_
          obtain ⟨r77, hr77, hF⟩ := bind_some hF
          refine regS mixed hn hG h [0, 1, 2, 3, 4, 5, 6, 7, 500, 8, 9, 10, 11] (ov [3, 8] (op_load_w 1 Tryd.isAgg23 Tryd.sizeOf23 q0) <| ov [6] (op_move q0) <| oc [501, 500] [] Tryd.call76 (ref05_Bit_ok hr77) ⟨q0, q1, trivial⟩ <| ov [500] (op_bin bin_eql q0 qi) .nil) fun _ a w h => ?_
          refine wp_cut (fun a w => ∃ (x90 : List (UInt8)), ∃ q91 : Value, ref05_Opened.j2 x46 r75 x90 = some o ∧ SatL c [.slot 0 (eqVP p_0), .slot 2 (slVP (dC 32) a_2), .slot 3 (slVP (dC 32) a_3), .slot 5 (lpVP (b1 0) 0), .slot 8 (lpVP (b1 1) 0), .slot 10 (eqVP q91), .slot 11 (intVP .i64 x46), .res (lb (b1 0) 23 [bytesCk 32 a_1]), .res (lb (b1 1) 23 [bytesCk 32 (List.replicate 32 0)]), .res (RLog_e p_0 r75.2), .res (acc q91 5 1 bC x90)] a w) ?_ ?_
          · refine cnd h hF 8 [0, 1, 2, 3, 4, 5, 6, 7, 9, 10, 11, 12] [0, 1, 2, 3, 4, 5, 6, 7, 9, 10, 11, 12] (fun hb92 hF h => ?_) (fun hb92 hF h => ?_)
            · obtain ⟨hv93, hF⟩ := ite_some hF
              refine regS mixed hn hG h [0, 1, 2, 3, 4, 500, 6, 8, 9, 11, 501] (ov [5] (op_move q0) <| ov [7] (op_move q0) <| og [501, 500] [10] [.slot 39 2 100000 (fun v1_ _ => (eqVP v1_)), .res 2 100000 (fun v1_ _ => (acc (v1_) 5 1 bC (x48 ++ r76)))] (GOk.plain (op_append_str Tryd.underlying129 Tryd.underlying9 Tryd.type5 rfl rfl rfl rfl q0 q1 hv93) rfl) <| og [501] [5] [.slot 10 2 100000 (fun v1_ _ => (eqVP v1_))] (fun {β} => (GOk.drop _ (GOk.plain (op_assign (V := (eqVP (β 2))) q0) rfl))) .nil) fun b94 a w h => ?_
              obtain ⟨hv95, hF⟩ := ite_some hF
              obtain ⟨r96, hr96, hF⟩ := bind_some hF
              obtain ⟨hv97, hF⟩ := ite_some hF
              refine reg mixed hn hG h [0, 1, 2, 3, 4, 500, 6, 7, 8, 9, 501] (ov [5] (op_move q0) <| ov [2] (op_move q0) <| ov [6] (op_move q0) <| ov [501, 500] (op_indexAddr_sl Tryd.underlying24 Tryd.sizeOf23 (lens_dC 32) q0 q1 hv95) <| ov [500] (op_load_pp [bytesCk 32 (a_3.getD x46.toNat default)] [] Tryd.isAgg23 Tryd.sizeOf23 q0 rfl) <| oc [500] [] Tryd.call61 (ref03_Bytes_ok hr96) ⟨q0, trivial⟩ <| og [505, 500] [10] [.slot 46 6 100000 (fun v1_ _ => (eqVP v1_)), .res 6 100000 (fun v1_ _ => (acc (v1_) 5 1 bC ((x48 ++ r76) ++ r96)))] (GOk.plain (op_append_str Tryd.underlying129 Tryd.underlying9 Tryd.type5 rfl rfl rfl rfl q0 q1 hv97) rfl) <| og [501] [5] [.slot 10 6 100000 (fun v1_ _ => (eqVP v1_))] (fun {β} => (GOk.drop _ (GOk.plain (op_assign (V := (eqVP (β 6))) q0) rfl))) .nil) fun b98 a w h => ?_
              exact ⟨(x48 ++ r76) ++ r96, (b98 6), hF, h.sub [0, 1, 2, 3, 4, 5, 6, 7, 8, 9, 10] (by rfl)⟩
            · obtain ⟨hv99, hF⟩ := ite_some hF
              obtain ⟨r100, hr100, hF⟩ := bind_some hF
              obtain ⟨hv101, hF⟩ := ite_some hF
              refine regS mixed hn hG h [0, 1, 2, 3, 4, 500, 6, 7, 8, 9, 11, 501] (ov [5] (op_move q0) <| ov [2] (op_move q0) <| ov [6] (op_move q0) <| ov [501, 500] (op_indexAddr_sl Tryd.underlying24 Tryd.sizeOf23 (lens_dC 32) q0 q1 hv99) <| ov [500] (op_load_pp [bytesCk 32 (a_3.getD x46.toNat default)] [] Tryd.isAgg23 Tryd.sizeOf23 q0 rfl) <| oc [500] [] Tryd.call61 (ref03_Bytes_ok hr100) ⟨q0, trivial⟩ <| og [505, 500] [10] [.slot 53 6 100000 (fun v1_ _ => (eqVP v1_)), .res 6 100000 (fun v1_ _ => (acc (v1_) 5 1 bC (x48 ++ r100)))] (GOk.plain (op_append_str Tryd.underlying129 Tryd.underlying9 Tryd.type5 rfl rfl rfl rfl q0 q1 hv101) rfl) <| og [501] [5] [.slot 10 6 100000 (fun v1_ _ => (eqVP v1_))] (fun {β} => (GOk.drop _ (GOk.plain (op_assign (V := (eqVP (β 6))) q0) rfl))) .nil) fun b102 a w h => ?_
              obtain ⟨hv103, hF⟩ := ite_some hF
              refine reg mixed hn hG h [0, 1, 2, 3, 4, 500, 6, 8, 9, 10, 501] (ov [5] (op_move q0) <| ov [7] (op_move q0) <| og [501, 500] [11] [.slot 56 2 100000 (fun v1_ _ => (eqVP v1_)), .res 2 100000 (fun v1_ _ => (acc (v1_) 5 1 bC ((x48 ++ r100) ++ r76)))] (GOk.plain (op_append_str Tryd.underlying129 Tryd.underlying9 Tryd.type5 rfl rfl rfl rfl q0 q1 hv103) rfl) <| og [501] [5] [.slot 10 2 100000 (fun v1_ _ => (eqVP v1_))] (fun {β} => (GOk.drop _ (GOk.plain (op_assign (V := (eqVP (β 2))) q0) rfl))) .nil) fun b104 a w h => ?_
              exact ⟨(x48 ++ r100) ++ r76, (b104 2), hF, h.sub [0, 1, 2, 3, 4, 5, 6, 7, 8, 9, 10] (by rfl)⟩
          · clear h hF
            rintro a w ⟨x90, q91, hF, h⟩
            unfold ref05_Opened.j2 at hF
            show Code.wp Tryd.prog _ _ a w
            refine reg mixed hn hG h [0, 1, 2, 3, 4, 5, 500, 7, 8, 9, 10] (ov [6] (op_move q0) <| ov [500] (op_bin bin_add q0 qi) <| od [500] 6 (op_assign q0) .nil) fun _ a w h => ?_
            obtain rfl := Option.some.inj hF
            exact ⟨rfl, q91, h.sub [0, 1, 2, 3, 4, 5, 6, 9, 7, 8, 10] (by rfl)⟩
        · refine wp_exit ?_
          obtain rfl := Option.some.inj hF
          exact ⟨exit_ne _, rfl, q49, h.sub [0, 4, 5, 7, 9, 10] (by rfl)⟩
      · clear hl106
        intro e a w hq
        cases cr105 with
        | ret r107 =>
          obtain ⟨rfl, hq⟩ := hq
          obtain rfl := Option.some.inj hF
          exact ⟨.inl rfl, hq⟩
        | next s108 =>
          obtain ⟨y109, y110, y111⟩ := s108
          obtain ⟨rfl, q49, h⟩ := hq
          change SatL c [.slot 0 (eqVP p_0), .slot 8 (lpVP (b1 1) 0), .slot 10 (eqVP q49), .res (RLog_e p_0 y110), .res (lb (b1 1) 23 [bytesCk 32 (List.replicate 32 0)]), .res (acc q49 5 1 bC y111)] a w at h
          refine inBlock_at ?_
          show Code.wp Tryd.prog _ _ a w
          obtain ⟨r112, hr112, hF⟩ := bind_some hF
          refine regS mixed hn hG h [1, 500, 501, 502] (ov [0] (op_move q0) <| ov [2] (op_move q0) <| ov [500, 5] (op_conv_sl_str Tryd.underlying129 Tryd.underlying5 Tryd.underlying9 (opacc 0 1 rfl rfl)) <| ov [500] (op_lit (xs := [.tmp 59]) (ys := [y111]) _ rfl Tryd.underlying101 Tryd.sizeOf9 Tryd.zeroValue9 rfl rfl (by decide) (by decide) ⟨⟨_, q0, (cells_one (one_str _))⟩, trivial⟩ lens_strC) <| oc [503, 500] [3] Tryd.call59 (ref04_Log_Of_ok hr112) ⟨q0, qi, q1, trivial⟩ <| ou [1, 501] 4 (op_store_w Tryd.sizeOf23 q0 q1 (cells_agg _)) <| ov [] (op_assign qb) .nil) fun _ a w h => ?_
          refine wp_ret ?_
          obtain rfl := Option.some.inj hF
          exact ⟨.inl rfl, retn h (rs := [.cell 8 23, .tmp 9]) (Vs := [(aggVP [bytesCk 32 r112.1]), (boolVP true)]) Tryd.results57 (by decide) ⟨(r_cell 0 2 rfl rfl Tryd.isAgg23 Tryd.sizeOf23 rfl), (r_tmp 1 rfl), trivial⟩ [3] [(RLog_e p_0 r112.2)] rfl rfl rfl⟩

def ref06_Climb.j2 (x12 : Int) (x32 : List UInt8) (x33 : Option O_RLog) (x34 : Int) : Option (Flow ((List UInt8) × (Option O_RLog)) (Int × Int × (Option O_RLog) × (List UInt8))) := some (.cont (x34, IntKind.wrap .i64 (x12 + 1), x33, x32))
def ref06_Climb.j1 (a_2 : Int) (x11 : Int) (x12 : Int) (x32 : List UInt8) (x33 : Option O_RLog) : Option (Flow ((List UInt8) × (Option O_RLog)) (Int × Int × (Option O_RLog) × (List UInt8))) := (if (decide (a_2 < (0 : Int))) = true then ref06_Climb.j2 x12 x32 x33 (IntKind.wrap .u64 ((IntKind.wrap .u64 (x11.tdiv 2)) + 9223372036854775808)) else ref06_Climb.j2 x12 x32 x33 (IntKind.wrap .u64 (x11.tdiv 2)))
def ref06_Climb.b1 (a_2 : Int) (a_3 : List (List UInt8)) (x11 : Int) (x12 : Int) (x13 : Option O_RLog) (x14 : List UInt8) : Option (Flow ((List UInt8) × (Option O_RLog)) (Int × Int × (Option O_RLog) × (List UInt8))) := (if (decide (x12 < (a_3.length : Int))) = true then (if (decide ((x11.tmod 2) = (1 : Int))) = true then (if (0 : Int) ≤ x12 ∧ x12 < a_3.length then ((ref04_Log_Two x13 4 (a_3.getD x12.toNat default) x14).bind fun r38 => ref06_Climb.j1 a_2 x11 x12 r38.1 r38.2) else none) else (if (0 : Int) ≤ x12 ∧ x12 < a_3.length then ((ref04_Log_Two x13 4 x14 (a_3.getD x12.toNat default)).bind fun r40 => ref06_Climb.j1 a_2 x11 x12 r40.1 r40.2) else none)) else some (.brk (x11, x12, x13, x14)))
def ref06_Climb (L_0 : Option O_RLog) (a_1 : List UInt8) (a_2 : Int) (a_3 : List (List UInt8)) : Option ((List UInt8) × (Option O_RLog)) := ((loopN (fun s : Int × Int × (Option O_RLog) × (List UInt8) => ref06_Climb.b1 a_2 a_3 s.1 s.2.1 s.2.2.1 s.2.2.2) (((a_3.length : Int) - 0 : Int).toNat + 2) (IntKind.wrap .u64 a_2, 0, L_0, a_1)).bind fun cr => match cr with | .ret r => some r | .next (y45, y46, y47, y48) => some (y48, y47))
theorem ref06_Climb_ok {p_0 : Value} {L_0 : Option O_RLog} {a_1 : List UInt8} {a_2 : Int} {a_3 : List (List UInt8)} {r : (List UInt8) × (Option O_RLog)} (hF : ref06_Climb L_0 a_1 a_2 a_3 = some r) : CallOk Tryd.prog KG 58 [(eqVP p_0), (aggVP [bytesCk 32 a_1]), (intVP .i64 a_2), (slVP (dC 32) a_3)] [(RLog_e p_0 L_0)] (fun _ => [RLog_e p_0 r.2]) (aggVP [bytesCk 32 r.1]) := by
  refine CallOk.intro 43 Tryd.func58 rfl Tryd.ntmps58 (Nat.le_of_ble_eq_true rfl) ?_
  intro c a w hG hn h
  unfold ref06_Climb at hF
  change SatL c [.slot 0 (eqVP p_0), .slot 1 (aggVP [bytesCk 32 a_1]), .slot 2 (intVP .i64 a_2), .slot 3 (slVP (dC 32) a_3), .res (RLog_e p_0 L_0)] a w at h
  refine regS mixed hn hG h [0, 2, 3, 503, 501, 4, 502, 500] (ob [1] (op_box q0 (cells_agg _)) <| ob [] (op_alloc Tryd.zeroValue23 z23) .nil) fun b1 a w h => ?_
  refine regS mixed hn hG h [0, 1, 2, 3, 4, 500, 5, 6, 7] (ov [1] (op_move q0) <| ov [500] (op_convert_int Tryd.underlying3 Tryd.underlying114 q0) <| ov [500] (op_assign q0) .nil) fun _ a w h => ?_
  refine wp_seq ?_
  refine regS mixed hn hG h [0, 1, 2, 3, 4, 5, 501, 500, 6, 7, 8] (ov [2] (op_move q0) <| ov [500] (op_len_sl Tryd.underlying24 q0) <| ov [] (op_move qi) .nil) fun _ a w h => ?_
  refine wp_block ?_
  obtain ⟨cr41, hl42, hF⟩ := bind_some hF
  refine wp_mono (wp_loopN (R := (List UInt8) × (Option O_RLog)) (S := Int × Int × (Option O_RLog) × (List UInt8)) (fun s a w => SatL c [.slot 0 (eqVP p_0), .slot 2 (intVP .i64 a_2), .slot 3 (slVP (dC 32) a_3), .slot 5 (lpVP (b1 0) 0), .slot 8 (lpVP (b1 1) 0), .slot 9 (intVP .u64 s.1), .slot 14 (intVP .i64 (a_3.length : Int)), .slot 15 (intVP .i64 s.2.1), .res (RLog_e p_0 s.2.2.1), .res (lb (b1 0) 23 [bytesCk 32 s.2.2.2]), .res (lb (b1 1) 23 [bytesCk 32 (List.replicate 32 0)])] a w) (fun res e a w => match res with | .next s => e = .exit 0 ∧ SatL c [.slot 5 (lpVP (b1 0) 0), .slot 8 (lpVP (b1 1) 0), .res (RLog_e p_0 s.2.2.1), .res (lb (b1 0) 23 [bytesCk 32 s.2.2.2]), .res (lb (b1 1) 23 [bytesCk 32 (List.replicate 32 0)])] a w | .ret r => e = .ret ∧ RetOk Tryd.prog Tryd.f58 c (aggVP [bytesCk 32 r.1]) (fun _ => [RLog_e p_0 r.2]) a w) ?_ _ (IntKind.wrap .u64 a_2, 0, L_0, a_1) _ _ _ (h.sub [0, 1, 2, 3, 4, 5, 6, 7, 8, 9, 10] (by rfl)) hl42) ?_
  · clear hl42 hF h
    intro s a w o h hF
    obtain ⟨x11, x12, x13, x14⟩ := s
    change ref06_Climb.b1 a_2 a_3 x11 x12 x13 x14 = some o at hF
    unfold ref06_Climb.b1 at hF
    change SatL c [.slot 0 (eqVP p_0), .slot 2 (intVP .i64 a_2), .slot 3 (slVP (dC 32) a_3), .slot 5 (lpVP (b1 0) 0), .slot 8 (lpVP (b1 1) 0), .slot 9 (intVP .u64 x11), .slot 14 (intVP .i64 (a_3.length : Int)), .slot 15 (intVP .i64 x12), .res (RLog_e p_0 x13), .res (lb (b1 0) 23 [bytesCk 32 x14]), .res (lb (b1 1) 23 [bytesCk 32 (List.replicate 32 0)])] a w at h
    refine regS mixed hn hG h [0, 1, 2, 3, 4, 5, 6, 7, 500, 8, 9, 10] (ov [7, 6] (op_bin bin_lss q0 q1) .nil) fun _ a w h => ?_
    refine wp_seq ?_
    refine cnd h hF 8 [0, 1, 2, 3, 4, 5, 6, 7, 9, 10, 11] [0, 1, 2, 3, 4, 5, 6, 7, 9, 10, 11] (fun hb27 hF h => ?_) (fun hb27 hF h => ?_)
    · refine wp_skip ?_
      show Code.wp Tryd.prog _ _ a w
      refine wp_seq ?_
      refine wp_block ?_
      refine regS mixed hn hG h [0, 1, 2, 3, 4, 5, 500, 6, 7, 8, 9, 10] (ov [7] (op_move q0) <| ov [500] (op_assign q0) .nil) fun _ a w h => ?_
      refine wp_seq ?_
      refine regS mixed hn hG h [0, 1, 2, 3, 4, 5, 6, 7, 8, 500, 9, 10, 11] (ov [5] (op_move q0) <| ov [500] (op_bin (bin_rem (by decide)) q0 qi) <| ov [500] (op_bin bin_eql q0 qi) .nil) fun _ a w h => ?_
      refine wp_cut (fun a w => ∃ (x32 : List UInt8), ∃ (x33 : Option O_RLog), ref06_Climb.j1 a_2 x11 x12 x32 x33 = some o ∧ SatL c [.slot 0 (eqVP p_0), .slot 2 (intVP .i64 a_2), .slot 3 (slVP (dC 32) a_3), .slot 5 (lpVP (b1 0) 0), .slot 8 (lpVP (b1 1) 0), .slot 9 (intVP .u64 x11), .slot 14 (intVP .i64 (a_3.length : Int)), .slot 15 (intVP .i64 x12), .res (lb (b1 0) 23 [bytesCk 32 x32]), .res (lb (b1 1) 23 [bytesCk 32 (List.replicate 32 0)]), .res (RLog_e p_0 x33)] a w) ?_ ?_
      · refine cnd h hF 9 [0, 1, 2, 3, 4, 5, 6, 7, 8, 10, 11, 12] [0, 1, 2, 3, 4, 5, 6, 7, 8, 10, 11, 12] (fun hb36 hF h => ?_) (fun hb36 hF h => ?_)
        · obtain ⟨hv37, hF⟩ := ite_some hF
          obtain ⟨r38, hr38, hF⟩ := bind_some hF
          refine reg mixed hn hG h [0, 1, 2, 3, 4, 5, 7, 8, 500, 11, 501] (ov [0] (op_move q0) <| ov [2] (op_move q0) <| ov [6] (op_move q0) <| ov [501, 500] (op_indexAddr_sl Tryd.underlying24 Tryd.sizeOf23 (lens_dC 32) q0 q1 hv37) <| ov [500] (op_load_pp [bytesCk 32 (a_3.getD x12.toNat default)] [] Tryd.isAgg23 Tryd.sizeOf23 q0 rfl) <| ov [3, 10] (op_load_w 1 Tryd.isAgg23 Tryd.sizeOf23 q0) <| oc [505, 501, 500] [9] Tryd.call75 (ref04_Log_Two_ok hr38) ⟨q0, qi, q1, q2, trivial⟩ <| ou [3, 501] 10 (op_store_w Tryd.sizeOf23 q0 q1 (cells_agg _)) .nil) fun _ a w h => ?_
          exact ⟨r38.1, r38.2, hF, h.sub [0, 1, 2, 3, 4, 5, 6, 7, 8, 9, 10] (by rfl)⟩
        · obtain ⟨hv39, hF⟩ := ite_some hF
          obtain ⟨r40, hr40, hF⟩ := bind_some hF
          refine reg mixed hn hG h [0, 1, 2, 3, 4, 5, 7, 8, 500, 11, 501] (ov [0] (op_move q0) <| ov [3, 10] (op_load_w 1 Tryd.isAgg23 Tryd.sizeOf23 q0) <| ov [2] (op_move q0) <| ov [6] (op_move q0) <| ov [501, 500] (op_indexAddr_sl Tryd.underlying24 Tryd.sizeOf23 (lens_dC 32) q0 q1 hv39) <| ov [500] (op_load_pp [bytesCk 32 (a_3.getD x12.toNat default)] [] Tryd.isAgg23 Tryd.sizeOf23 q0 rfl) <| oc [505, 504, 500] [9] Tryd.call75 (ref04_Log_Two_ok hr40) ⟨q0, qi, q1, q2, trivial⟩ <| ou [3, 501] 10 (op_store_w Tryd.sizeOf23 q0 q1 (cells_agg _)) .nil) fun _ a w h => ?_
          exact ⟨r40.1, r40.2, hF, h.sub [0, 1, 2, 3, 4, 5, 6, 7, 8, 9, 10] (by rfl)⟩
      · clear h hF
        rintro a w ⟨x32, x33, hF, h⟩
        unfold ref06_Climb.j1 at hF
        show Code.wp Tryd.prog _ _ a w
        refine regS mixed hn hG h [0, 1, 2, 3, 4, 500, 6, 7, 8, 9, 10] (ov [5] (op_move q0) <| ov [500] (op_bin (bin_quo (by decide)) q0 qi) <| od [500] 5 (op_assign q0) .nil) fun _ a w h => ?_
        refine regS mixed hn hG h [0, 1, 2, 3, 4, 5, 6, 7, 500, 8, 9, 10] (ov [1] (op_move q0) <| ov [500] (op_bin bin_lss q0 qi) .nil) fun _ a w h => ?_
        refine wp_cut (fun a w => ∃ (x34 : Int), ref06_Climb.j2 x12 x32 x33 x34 = some o ∧ SatL c [.slot 0 (eqVP p_0), .slot 2 (intVP .i64 a_2), .slot 3 (slVP (dC 32) a_3), .slot 5 (lpVP (b1 0) 0), .slot 8 (lpVP (b1 1) 0), .slot 9 (intVP .u64 x34), .slot 14 (intVP .i64 (a_3.length : Int)), .slot 15 (intVP .i64 x12), .res (lb (b1 0) 23 [bytesCk 32 x32]), .res (lb (b1 1) 23 [bytesCk 32 (List.replicate 32 0)]), .res (RLog_e p_0 x33)] a w) ?_ ?_
        · refine cnd h hF 8 [0, 1, 2, 3, 4, 5, 6, 7, 9, 10, 11] [0, 1, 2, 3, 4, 5, 6, 7, 9, 10, 11] (fun hb35 hF h => ?_) (fun hb35 hF h => ?_)
          · refine reg mixed hn hG h [0, 1, 2, 3, 4, 500, 6, 7, 8, 9, 10] (ov [5] (op_move q0) <| ov [500] (op_bin bin_add q0 qi) <| od [500] 5 (op_assign q0) .nil) fun _ a w h => ?_
            exact ⟨IntKind.wrap .u64 ((IntKind.wrap .u64 (x11.tdiv 2)) + 9223372036854775808), hF, h.sub [0, 1, 2, 3, 4, 5, 6, 7, 8, 9, 10] (by rfl)⟩
          · refine wp_skip ?_
            exact ⟨IntKind.wrap .u64 (x11.tdiv 2), hF, h.sub [0, 1, 2, 3, 4, 5, 6, 7, 8, 9, 10] (by rfl)⟩
        · clear h hF
          rintro a w ⟨x34, hF, h⟩
          unfold ref06_Climb.j2 at hF
          show Code.wp Tryd.prog _ _ a w
          refine reg mixed hn hG h [0, 1, 2, 3, 4, 5, 6, 500, 8, 9, 10] (ov [7] (op_bin bin_add q0 qi) <| od [500] 7 (op_move q0) .nil) fun _ a w h => ?_
          obtain rfl := Option.some.inj hF
          exact ⟨rfl, h.sub [0, 1, 2, 3, 4, 5, 6, 7, 10, 8, 9] (by rfl)⟩
    · refine wp_exit ?_
      obtain rfl := Option.some.inj hF
      exact ⟨exit_ne _, rfl, h.sub [3, 4, 8, 9, 10] (by rfl)⟩
  · clear hl42
    intro e a w hq
    cases cr41 with
    | ret r43 =>
      obtain ⟨rfl, hq⟩ := hq
      obtain rfl := Option.some.inj hF
      exact ⟨.inl rfl, hq⟩
    | next s44 =>
      obtain ⟨y45, y46, y47, y48⟩ := s44
      obtain ⟨rfl, h⟩ := hq
      change SatL c [.slot 5 (lpVP (b1 0) 0), .slot 8 (lpVP (b1 1) 0), .res (RLog_e p_0 y47), .res (lb (b1 0) 23 [bytesCk 32 y48]), .res (lb (b1 1) 23 [bytesCk 32 (List.replicate 32 0)])] a w at h
      refine inBlock_at ?_
      show Code.wp Tryd.prog _ _ a w
      refine regS mixed hn hG h [1, 2, 500] (ov [0, 3] (op_load_w 1 Tryd.isAgg23 Tryd.sizeOf23 q0) <| ou [1, 500] 4 (op_store_w Tryd.sizeOf23 q0 q1 (cells_agg _)) .nil) fun _ a w h => ?_
      refine wp_ret ?_
      obtain rfl := Option.some.inj hF
      exact ⟨.inl rfl, ret1 h Tryd.results58 (r_cell 0 2 rfl rfl Tryd.isAgg23 Tryd.sizeOf23 rfl) [1] [(RLog_e p_0 y47)] rfl rfl rfl⟩

def ref06_Verify.j1 (L_0 : Option O_RLog) (a_1 : List UInt8) (a_2 : List UInt8) (a_3 : S_api_Sig) (x4 : Bool) : Option (Bool × (Option O_RLog)) := (if x4 = true then some (false, L_0) else ((ref05_Opened L_0 a_2 a_3.f_Parts a_3.f_Others).bind fun r6 => (if (!r6.2.1) = true then some (false, r6.2.2) else ((ref06_Climb r6.2.2 r6.1 a_3.f_Index a_3.f_Path).bind fun r9 => some (decide (r9.1 = a_1), r9.2)))))
def ref06_Verify (L_0 : Option O_RLog) (a_1 : List UInt8) (a_2 : List UInt8) (a_3 : S_api_Sig) : Option (Bool × (Option O_RLog)) := (if (decide (a_3.f_Index < (0 : Int))) = true then ref06_Verify.j1 L_0 a_1 a_2 a_3 true else (if (decide ((15 : Int) < a_3.f_Index)) = true then ref06_Verify.j1 L_0 a_1 a_2 a_3 true else ref06_Verify.j1 L_0 a_1 a_2 a_3 (!decide ((a_3.f_Path.length : Int) = (4 : Int)))))
theorem ref06_Verify_ok {p_0 : Value} {L_0 : Option O_RLog} {a_1 : List UInt8} {a_2 : List UInt8} {a_3 : S_api_Sig} {r : Bool × (Option O_RLog)} (hF : ref06_Verify L_0 a_1 a_2 a_3 = some r) : CallOk Tryd.prog KG 22 [(eqVP p_0), (aggVP [bytesCk 32 a_1]), (aggVP [bytesCk 32 a_2]), (aggVP [one (intVP .i64 a_3.f_Index), one (slVP (dC 32) a_3.f_Parts), one (slVP (dC 32) a_3.f_Others), one (slVP (dC 32) a_3.f_Path)])] [(RLog_e p_0 L_0)] (fun _ => [RLog_e p_0 r.2]) (boolVP r.1) := by
  refine CallOk.intro 46 Tryd.func22 rfl Tryd.ntmps22 (Nat.le_of_ble_eq_true rfl) ?_
  intro c a w hG hn h
  unfold ref06_Verify at hF
  change SatL c [.slot 0 (eqVP p_0), .slot 1 (aggVP [bytesCk 32 a_1]), .slot 2 (aggVP [bytesCk 32 a_2]), .slot 3 (aggVP [one (intVP .i64 a_3.f_Index), one (slVP (dC 32) a_3.f_Parts), one (slVP (dC 32) a_3.f_Others), one (slVP (dC 32) a_3.f_Path)]), .res (RLog_e p_0 L_0)] a w at h
  refine regS mixed hn hG h [0, 506, 504, 502, 4, 505, 503, 501] (ob [1] (op_box q0 (cells_agg _)) <| ob [2] (op_box q0 (cells_agg _)) <| ob [3] (op_box q0 (cells_agg _)) <| ov [] (op_assign qb) .nil) fun b1 a w h => ?_
  refine wp_seq ?_
  refine wp_seq ?_
  refine wp_cut (fun a w => ∃ (x4 : Bool), ref06_Verify.j1 L_0 a_1 a_2 a_3 x4 = some r ∧ SatL c [.slot 0 (eqVP p_0), .slot 5 (lpVP (b1 0) 0), .slot 6 (lpVP (b1 1) 0), .slot 7 (lpVP (b1 2) 0), .slot 24 (boolVP x4), .res (RLog_e p_0 L_0), .res (lb (b1 0) 23 [bytesCk 32 a_1]), .res (lb (b1 1) 23 [bytesCk 32 a_2]), .res (lb (b1 2) 31 [one (intVP .i64 a_3.f_Index), one (slVP (dC 32) a_3.f_Parts), one (slVP (dC 32) a_3.f_Others), one (slVP (dC 32) a_3.f_Path)])] a w) ?_ ?_
  · rcases Bool.eq_false_or_eq_true (decide (a_3.f_Index < (0 : Int))) with hb10 | hb10
    · replace hF := tt_of hb10 hF
      refine reg mixed hn hG h [0, 1, 2, 3, 500, 4, 5, 6, 7] (ov [3] (op_fieldAddr_lbm (p := (b1 2)) (n := 1) 0 0 Tryd.underlying31 rfl Tryd.sizeOf3 (by decide) q0 rfl) <| ov [500, 7] (op_load_lb1 [] [one (slVP (dC 32) a_3.f_Parts), one (slVP (dC 32) a_3.f_Others), one (slVP (dC 32) a_3.f_Path)] 1 Tryd.isAgg3 q0 rfl rfl) <| ov [500] (op_bin bin_lss q0 qi) <| ov [500] (op_move q0) <| oe [500] [] (GOk.off_v (want := false) hb10 rfl rfl rfl rfl) <| oe [501] [] (GOk.off_v (want := false) hb10 rfl rfl rfl rfl) <| oe [502] [] (GOk.off_v (want := false) hb10 rfl rfl rfl rfl) <| ov [503] (op_pick_t hb10 q0 qb) <| ov [500] (op_move q0) <| oe [500] [] (GOk.off_v (want := false) rfl rfl rfl rfl rfl) <| oe [501] [] (GOk.off_v (want := false) rfl rfl rfl rfl rfl) <| oe [502] [] (GOk.off_v (want := false) rfl rfl rfl rfl rfl) <| oe [503] [] (GOk.off_v (want := false) rfl rfl rfl rfl rfl) <| ov [504] (op_pick_t rfl q0 qb) .nil) fun _ a w h => ?_
      exact ⟨true, hF, h.sub [0, 1, 2, 3, 4, 5, 6, 7, 8] (by rfl)⟩
    · replace hF := ff_of hb10 hF
      rcases Bool.eq_false_or_eq_true (decide ((15 : Int) < a_3.f_Index)) with hb11 | hb11
      · replace hF := tt_of hb11 hF
        refine reg mixed hn hG h [0, 1, 2, 3, 500, 4, 5, 6, 7] (ov [3] (op_fieldAddr_lbm (p := (b1 2)) (n := 1) 0 0 Tryd.underlying31 rfl Tryd.sizeOf3 (by decide) q0 rfl) <| ov [500, 7] (op_load_lb1 [] [one (slVP (dC 32) a_3.f_Parts), one (slVP (dC 32) a_3.f_Others), one (slVP (dC 32) a_3.f_Path)] 1 Tryd.isAgg3 q0 rfl rfl) <| ov [500] (op_bin bin_lss q0 qi) <| ov [500] (op_move q0) <| oe [500, 3] [] (GOk.on_eq hb10 rfl rfl rfl (op_fieldAddr_lbm (p := (b1 2)) (n := 1) 0 0 Tryd.underlying31 rfl Tryd.sizeOf3 (by decide) q0 rfl)) <| oe [501, 500, 7] [] (GOk.on_eq hb10 rfl rfl rfl (op_load_lb1 [] [one (slVP (dC 32) a_3.f_Parts), one (slVP (dC 32) a_3.f_Others), one (slVP (dC 32) a_3.f_Path)] 1 Tryd.isAgg3 q0 rfl rfl)) <| oe [502, 500] [] (GOk.on_eq hb10 rfl rfl rfl (op_bin bin_gtr q0 qi)) <| ov [503, 500] (op_pick_f hb10 q0 q1) <| ov [500] (op_move q0) <| oe [500] [] (GOk.off_v (want := false) hb11 rfl rfl rfl rfl) <| oe [501] [] (GOk.off_v (want := false) hb11 rfl rfl rfl rfl) <| oe [502] [] (GOk.off_v (want := false) hb11 rfl rfl rfl rfl) <| oe [503] [] (GOk.off_v (want := false) hb11 rfl rfl rfl rfl) <| ov [504] (op_pick_t hb11 q0 qb) .nil) fun _ a w h => ?_
        exact ⟨true, hF, h.sub [0, 1, 2, 3, 4, 5, 6, 7, 8] (by rfl)⟩
      · replace hF := ff_of hb11 hF
        refine reg mixed hn hG h [0, 1, 2, 3, 500, 4, 5, 6, 7] (ov [3] (op_fieldAddr_lbm (p := (b1 2)) (n := 1) 0 0 Tryd.underlying31 rfl Tryd.sizeOf3 (by decide) q0 rfl) <| ov [500, 7] (op_load_lb1 [] [one (slVP (dC 32) a_3.f_Parts), one (slVP (dC 32) a_3.f_Others), one (slVP (dC 32) a_3.f_Path)] 1 Tryd.isAgg3 q0 rfl rfl) <| ov [500] (op_bin bin_lss q0 qi) <| ov [500] (op_move q0) <| oe [500, 3] [] (GOk.on_eq hb10 rfl rfl rfl (op_fieldAddr_lbm (p := (b1 2)) (n := 1) 0 0 Tryd.underlying31 rfl Tryd.sizeOf3 (by decide) q0 rfl)) <| oe [501, 500, 7] [] (GOk.on_eq hb10 rfl rfl rfl (op_load_lb1 [] [one (slVP (dC 32) a_3.f_Parts), one (slVP (dC 32) a_3.f_Others), one (slVP (dC 32) a_3.f_Path)] 1 Tryd.isAgg3 q0 rfl rfl)) <| oe [502, 500] [] (GOk.on_eq hb10 rfl rfl rfl (op_bin bin_gtr q0 qi)) <| ov [503, 500] (op_pick_f hb10 q0 q1) <| ov [500] (op_move q0) <| oe [500, 3] [] (GOk.on_eq hb11 rfl rfl rfl (op_fieldAddr_lbm (p := (b1 2)) (n := 1) 0 3 Tryd.underlying31 rfl Tryd.sizeOf24 (by decide) q0 rfl)) <| oe [501, 500, 7] [] (GOk.on_eq hb11 rfl rfl rfl (op_load_lb1 [one (intVP .i64 a_3.f_Index), one (slVP (dC 32) a_3.f_Parts), one (slVP (dC 32) a_3.f_Others)] [] 1 Tryd.isAgg24 q0 rfl rfl)) <| oe [502, 500] [] (GOk.on_eq hb11 rfl rfl rfl (op_len_sl Tryd.underlying24 q0)) <| oe [503, 500] [] (GOk.on_eq hb11 rfl rfl rfl (op_bin bin_neq q0 qi)) <| ov [504, 500] (op_pick_f hb11 q0 q1) .nil) fun _ a w h => ?_
        exact ⟨!decide ((a_3.f_Path.length : Int) = (4 : Int)), hF, h.sub [0, 1, 2, 3, 4, 5, 6, 7, 8] (by rfl)⟩
  · clear h hF
    rintro a w ⟨x4, hF, h⟩
    unfold ref06_Verify.j1 at hF
    show Code.wp Tryd.prog _ _ a w
    refine cnd h hF 4 [5] [0, 1, 2, 3, 5, 6, 7, 8] (fun hb5 hF h => ?_) (fun hb5 hF h => ?_)
    · refine regS mixed hn hG h [500, 0] (ov [] (op_assign qb) .nil) fun _ a w h => ?_
      refine wp_ret ?_
      obtain rfl := Option.some.inj hF
      exact ⟨.inl rfl, ret1 h Tryd.results22 (r_tmp 0 rfl) [1] [(RLog_e p_0 L_0)] rfl rfl rfl⟩
    · refine wp_skip ?_
      show Code.wp Tryd.prog _ _ a w
      obtain ⟨r6, hr6, hF⟩ := bind_some hF
      refine regS mixed hn hG h [0, 1, 3, 503, 500, 5, 7, 507, 501] (ov [0] (op_move q0) <| ov [2, 6] (op_load_w 1 Tryd.isAgg23 Tryd.sizeOf23 q0) <| ov [3] (op_fieldAddr_lbm (p := (b1 2)) (n := 1) 0 1 Tryd.underlying31 rfl Tryd.sizeOf24 (by decide) q0 rfl) <| ov [500, 7] (op_load_lb1 [one (intVP .i64 a_3.f_Index)] [one (slVP (dC 32) a_3.f_Others), one (slVP (dC 32) a_3.f_Path)] 1 Tryd.isAgg24 q0 rfl rfl) <| ov [3] (op_fieldAddr_lbm (p := (b1 2)) (n := 1) 0 2 Tryd.underlying31 rfl Tryd.sizeOf24 (by decide) q0 rfl) <| ov [500, 7] (op_load_lb1 [one (intVP .i64 a_3.f_Index), one (slVP (dC 32) a_3.f_Parts)] [one (slVP (dC 32) a_3.f_Path)] 1 Tryd.isAgg24 q0 rfl rfl) <| oc [505, 504, 502, 500] [4] Tryd.call57 (ref05_Opened_ok hr6) ⟨q0, q1, q2, q3, trivial⟩ <| ov [501] (op_move q0) <| ov [500] (op_extract q0 rfl) <| ov [501] (op_extract q0 rfl) <| ob [] (op_alloc Tryd.zeroValue23 z23) <| og [501, 503] [500] [.res 10 100000 (fun v1_ _ => (lb (v1_) 23 [bytesCk 32 r6.1]))] (GOk.plain (op_store_w Tryd.sizeOf23 q0 q1 (cells_agg _)) rfl) <| ov [503] (op_assign q0) .nil) fun b7 a w h => ?_
      refine wp_seq ?_
      refine regS mixed hn hG h [0, 1, 2, 3, 500, 5, 6, 7, 8] (ov [4] (op_move q0) <| ov [500] (op_un (un_not _) q0) .nil) fun _ a w h => ?_
      refine cnd h hF 4 [7] [0, 1, 2, 3, 5, 6, 7, 8] (fun hb8 hF h => ?_) (fun hb8 hF h => ?_)
      · refine regS mixed hn hG h [500, 0] (ov [] (op_assign qb) .nil) fun _ a w h => ?_
        refine wp_ret ?_
        obtain rfl := Option.some.inj hF
        exact ⟨.inl rfl, ret1 h Tryd.results22 (r_tmp 0 rfl) [1] [(RLog_e p_0 r6.2.2)] rfl rfl rfl⟩
      · refine wp_skip ?_
        show Code.wp Tryd.prog _ _ a w
        obtain ⟨r9, hr9, hF⟩ := bind_some hF
        refine regS mixed hn hG h [500, 503] (ov [0] (op_move q0) <| ov [3, 7] (op_load_w 1 Tryd.isAgg23 Tryd.sizeOf23 q0) <| ov [2] (op_fieldAddr_lbm (p := (b1 2)) (n := 1) 0 0 Tryd.underlying31 rfl Tryd.sizeOf3 (by decide) q0 rfl) <| ov [500, 5] (op_load_lb1 [] [one (slVP (dC 32) a_3.f_Parts), one (slVP (dC 32) a_3.f_Others), one (slVP (dC 32) a_3.f_Path)] 1 Tryd.isAgg3 q0 rfl rfl) <| ov [2] (op_fieldAddr_lbm (p := (b1 2)) (n := 1) 0 3 Tryd.underlying31 rfl Tryd.sizeOf24 (by decide) q0 rfl) <| ov [500, 5] (op_load_lb1 [one (intVP .i64 a_3.f_Index), one (slVP (dC 32) a_3.f_Parts), one (slVP (dC 32) a_3.f_Others)] [] 1 Tryd.isAgg24 q0 rfl rfl) <| oc [505, 504, 502, 500] [6] Tryd.call58 (ref06_Climb_ok hr9) ⟨q0, q1, q2, q3, trivial⟩ <| ov [1, 4] (op_load_w 1 Tryd.isAgg23 Tryd.sizeOf23 q0) <| ov [502, 500] (op_bin (bin_aeql Tryd.underlying23 Tryd.underlying5 Tryd.type5 Tryd.sizeOf5 Tryd.isAgg5 Tryd.eqGuardType23) q0 q1) <| ov [500] (op_assign q0) .nil) fun _ a w h => ?_
        refine wp_ret ?_
        obtain rfl := Option.some.inj hF
        exact ⟨.inl rfl, ret1 h Tryd.results22 (r_tmp 0 rfl) [1] [(RLog_e p_0 r9.2)] rfl rfl rfl⟩

def ref10_Right (L_0 : Option O_RLog) (a_1 : List UInt8) (a_2 : S_api_Update) : Option (Bool × (Option O_RLog)) := ((ref10_Claim L_0 a_2.f_Home a_2.f_Old a_2.f_New).bind fun r3 => ((ref06_Verify r3.2 a_1 r3.1 a_2.f_Sig).bind fun r4 => some (r4.1, r4.2)))
theorem ref10_Right_ok {p_0 : Value} {L_0 : Option O_RLog} {a_1 : List UInt8} {a_2 : S_api_Update} {r : Bool × (Option O_RLog)} (hF : ref10_Right L_0 a_1 a_2 = some r) : CallOk Tryd.prog KG 29 [(eqVP p_0), (aggVP [bytesCk 32 a_1]), (aggVP [one (intVP .u32 a_2.f_Home), bytesCk 32 a_2.f_Old, bytesCk 32 a_2.f_New, one (intVP .i64 a_2.f_Sig.f_Index), one (slVP (dC 32) a_2.f_Sig.f_Parts), one (slVP (dC 32) a_2.f_Sig.f_Others), one (slVP (dC 32) a_2.f_Sig.f_Path)])] [(RLog_e p_0 L_0)] (fun _ => [RLog_e p_0 r.2]) (boolVP r.1) := by
  refine CallOk.intro 20 Tryd.func29 rfl Tryd.ntmps29 (Nat.le_of_ble_eq_true rfl) ?_
  intro c a w hG hn h
  unfold ref10_Right at hF
  change SatL c [.slot 0 (eqVP p_0), .slot 1 (aggVP [bytesCk 32 a_1]), .slot 2 (aggVP [one (intVP .u32 a_2.f_Home), bytesCk 32 a_2.f_Old, bytesCk 32 a_2.f_New, one (intVP .i64 a_2.f_Sig.f_Index), one (slVP (dC 32) a_2.f_Sig.f_Parts), one (slVP (dC 32) a_2.f_Sig.f_Others), one (slVP (dC 32) a_2.f_Sig.f_Path)]), .res (RLog_e p_0 L_0)] a w at h
  refine regS mixed hn hG h [0, 504, 502, 3, 503, 501] (ob [1] (op_box q0 (cells_agg _)) <| ob [2] (op_box q0 (cells_agg _)) <| ov [] (op_assign qb) .nil) fun b1 a w h => ?_
  obtain ⟨r3, hr3, hF⟩ := bind_some hF
  obtain ⟨r4, hr4, hF⟩ := bind_some hF
  refine regS mixed hn hG h [500, 501] (ov [0] (op_move q0) <| ov [1, 4] (op_load_w 1 Tryd.isAgg23 Tryd.sizeOf23 q0) <| ov [0] (op_move q0) <| ov [2] (op_fieldAddr_lbm (p := (b1 1)) (n := 1) 0 0 Tryd.underlying53 rfl Tryd.sizeOf51 (by decide) q0 rfl) <| ov [500, 5] (op_load_lb1 [] [bytesCk 32 a_2.f_Old, bytesCk 32 a_2.f_New, one (intVP .i64 a_2.f_Sig.f_Index), one (slVP (dC 32) a_2.f_Sig.f_Parts), one (slVP (dC 32) a_2.f_Sig.f_Others), one (slVP (dC 32) a_2.f_Sig.f_Path)] 1 Tryd.isAgg51 q0 rfl rfl) <| ov [2] (op_fieldAddr_lbm (p := (b1 1)) (n := 32) 0 1 Tryd.underlying53 rfl Tryd.sizeOf23 (by decide) q0 rfl) <| ov [500, 5] (op_load_lb [one (intVP .u32 a_2.f_Home)] [bytesCk 32 a_2.f_Old] [bytesCk 32 a_2.f_New, one (intVP .i64 a_2.f_Sig.f_Index), one (slVP (dC 32) a_2.f_Sig.f_Parts), one (slVP (dC 32) a_2.f_Sig.f_Others), one (slVP (dC 32) a_2.f_Sig.f_Path)] 1 Tryd.isAgg23 Tryd.sizeOf23 q0 rfl rfl rfl) <| ov [2] (op_fieldAddr_lbm (p := (b1 1)) (n := 32) 0 33 Tryd.underlying53 rfl Tryd.sizeOf23 (by decide) q0 rfl) <| ov [500, 5] (op_load_lb [one (intVP .u32 a_2.f_Home), bytesCk 32 a_2.f_Old] [bytesCk 32 a_2.f_New] [one (intVP .i64 a_2.f_Sig.f_Index), one (slVP (dC 32) a_2.f_Sig.f_Parts), one (slVP (dC 32) a_2.f_Sig.f_Others), one (slVP (dC 32) a_2.f_Sig.f_Path)] 1 Tryd.isAgg23 Tryd.sizeOf23 q0 rfl rfl rfl) <| oc [506, 504, 502, 500] [3] Tryd.call28 (ref10_Claim_ok hr3) ⟨q0, q1, q2, q3, trivial⟩ <| ov [2] (op_fieldAddr_lbm (p := (b1 1)) (n := 4) 0 65 Tryd.underlying53 rfl Tryd.sizeOf31 (by decide) q0 rfl) <| ov [500, 5] (op_load_lb [one (intVP .u32 a_2.f_Home), bytesCk 32 a_2.f_Old, bytesCk 32 a_2.f_New] [one (intVP .i64 a_2.f_Sig.f_Index), one (slVP (dC 32) a_2.f_Sig.f_Parts), one (slVP (dC 32) a_2.f_Sig.f_Others), one (slVP (dC 32) a_2.f_Sig.f_Path)] [] 1 Tryd.isAgg31 Tryd.sizeOf31 q0 rfl rfl rfl) <| oc [512, 511, 503, 500] [502] Tryd.call22 (ref06_Verify_ok hr4) ⟨q0, q1, q2, q3, trivial⟩ <| ov [501] (op_assign q0) .nil) fun _ a w h => ?_
  refine wp_ret ?_
  obtain rfl := Option.some.inj hF
  exact ⟨.inl rfl, ret1 h Tryd.results29 (r_tmp 0 rfl) [1] [(RLog_e p_0 r4.2)] rfl rfl rfl⟩

def law10_UpdateBinds.j2 (x28 : Int) (x36 : Bool) : Option (Flow Bool (Bool × Int)) := some (.cont (x36, IntKind.wrap .i64 (x28 + 1)))
def law10_UpdateBinds.b1 (r22 : (List UInt8) × (Option O_RLog)) (r23 : (List UInt8) × (Option O_RLog)) (x27 : Bool) (x28 : Int) : Option (Flow Bool (Bool × Int)) := (if (decide (x28 < (4 : Int))) = true then (if x27 = true then (if (0 : Int) ≤ x28 ∧ x28 < 32 then law10_UpdateBinds.j2 x28 (decide (((r22.1.getD x28.toNat 0).toNat : Int) = ((r23.1.getD x28.toNat 0).toNat : Int))) else none) else law10_UpdateBinds.j2 x28 false) else some (.brk (x27, x28)))
def law10_UpdateBinds.j3 (x50 : Bool) (x51 : Option O_Log) : Option Bool := some x50
def law10_UpdateBinds.j1 (a_1 : Int) (a_2 : Int) (a_3 : List UInt8) (a_4 : List UInt8) (a_5 : List UInt8) (a_6 : List UInt8) (r13 : (List UInt8) × (Option O_RLog)) (r15 : S_keys_Signer × S_api_Update × Int × (Option O_Log)) (r18 : Bool × (Option O_Log)) (r20 : Bool × (Option O_RLog)) (x21 : Bool) : Option Bool := ((ref10_Claim r20.2 a_1 a_3 a_4).bind fun r22 => ((ref10_Claim r22.2 a_2 a_5 a_6).bind fun r23 => ((loopN (fun s : Bool × Int => law10_UpdateBinds.b1 r22 r23 s.1 s.2) ((4 - 0 : Int).toNat + 2) (true, 0)).bind fun cr => match cr with | .ret r => some r | .next (y42, y43) => ((law10_awake).bind fun r44 => (if r44 = true then (if (decide (r15.2.2.1 = (0 : Int))) = true then (if x21 = true then (if (r18.1 == true) = true then ((update_Right r18.2 r13.1 r15.2.1).bind fun r45 => law10_UpdateBinds.j3 r45.1 r45.2) else law10_UpdateBinds.j3 false r18.2) else (if y42 = true then (if (r18.1 == true) = true then ((update_Right r18.2 r13.1 r15.2.1).bind fun r46 => law10_UpdateBinds.j3 r46.1 r46.2) else law10_UpdateBinds.j3 false r18.2) else (if r18.1 = true then ((ref04_Log_Clash r23.2).bind fun r47 => (if (r18.1 == r47) = true then ((update_Right r18.2 r13.1 r15.2.1).bind fun r48 => law10_UpdateBinds.j3 r48.1 r48.2) else law10_UpdateBinds.j3 false r18.2)) else (if (r18.1 == false) = true then ((update_Right r18.2 r13.1 r15.2.1).bind fun r49 => law10_UpdateBinds.j3 r49.1 r49.2) else law10_UpdateBinds.j3 false r18.2)))) else law10_UpdateBinds.j3 false r18.2) else law10_UpdateBinds.j3 false r18.2)))))
def law10_UpdateBinds (a_0 : List UInt8) (a_1 : Int) (a_2 : Int) (a_3 : List UInt8) (a_4 : List UInt8) (a_5 : List UInt8) (a_6 : List UInt8) : Option Bool := ((law10_awake).bind fun r6 => (if (!r6) = true then some false else ((ref04_New).bind fun r8 => ((keys_New none a_0).bind fun r10 => ((ref06_New (some r8) a_0).bind fun r12 => ((ref06_Signer_Root r12.1 r12.2).bind fun r13 => ((update_Sign r10.2 r10.1 a_1 a_3 a_4).bind fun r15 => ((update_Right r15.2.2.2 r13.1 (S_api_Update.mk a_2 a_5 a_6 r15.2.1.f_Sig)).bind fun r18 => ((ref10_Claim r13.2 a_1 a_3 a_4).bind fun r19 => ((ref10_Right r19.2 r13.1 (S_api_Update.mk a_2 a_5 a_6 r15.2.1.f_Sig)).bind fun r20 => (if (decide (a_1 = a_2)) = true then (if (decide (a_3 = a_5)) = true then law10_UpdateBinds.j1 a_1 a_2 a_3 a_4 a_5 a_6 r13 r15 r18 r20 (decide (a_4 = a_6)) else law10_UpdateBinds.j1 a_1 a_2 a_3 a_4 a_5 a_6 r13 r15 r18 r20 false) else law10_UpdateBinds.j1 a_1 a_2 a_3 a_4 a_5 a_6 r13 r15 r18 r20 false)))))))))))
theorem law10_UpdateBinds_ok {a_0 : List UInt8} {a_1 : Int} {a_2 : Int} {a_3 : List UInt8} {a_4 : List UInt8} {a_5 : List UInt8} {a_6 : List UInt8} {r : Bool} (hF : law10_UpdateBinds a_0 a_1 a_2 a_3 a_4 a_5 a_6 = some r) : CallOk Tryd.prog KG 6 [(aggVP [bytesCk 32 a_0]), (intVP .u32 a_1), (intVP .u32 a_2), (aggVP [bytesCk 32 a_3]), (aggVP [bytesCk 32 a_4]), (aggVP [bytesCk 32 a_5]), (aggVP [bytesCk 32 a_6])] [] (fun _ => []) (boolVP r) := by
  refine CallOk.intro 128 Tryd.func6 rfl Tryd.ntmps6 (Nat.le_of_ble_eq_true rfl) ?_
  intro c a w hG hn h
  unfold law10_UpdateBinds at hF
  change SatL c [.slot 0 (aggVP [bytesCk 32 a_0]), .slot 1 (intVP .u32 a_1), .slot 2 (intVP .u32 a_2), .slot 3 (aggVP [bytesCk 32 a_3]), .slot 4 (aggVP [bytesCk 32 a_4]), .slot 5 (aggVP [bytesCk 32 a_5]), .slot 6 (aggVP [bytesCk 32 a_6])] a w at h
  refine regS mixed hn hG h [1, 2, 510, 508, 506, 504, 502, 509, 507, 505, 503, 501] (ob [0] (op_box q0 (cells_agg _)) <| ob [3] (op_box q0 (cells_agg _)) <| ob [4] (op_box q0 (cells_agg _)) <| ob [5] (op_box q0 (cells_agg _)) <| ob [6] (op_box q0 (cells_agg _)) <| ov [] (op_assign qb) .nil) fun b1 a w h => ?_
  refine wp_seq ?_
  obtain ⟨r6, hr6, hF⟩ := bind_some hF
  refine regS mixed hn hG h [0, 1, 2, 3, 4, 5, 6, 500, 7, 8, 9, 10, 11] (oc [] [] Tryd.call25 (law10_awake_ok hr6) trivial <| ov [500] (op_un (un_not _) q0) .nil) fun _ a w h => ?_
  refine cnd h hF 7 [] [0, 1, 2, 3, 4, 5, 6, 8, 9, 10, 11, 12] (fun hb7 hF h => ?_) (fun hb7 hF h => ?_)
  · refine regS mixed hn hG h [500] (ov [] (op_assign qb) .nil) fun _ a w h => ?_
    refine wp_ret ?_
    obtain rfl := Option.some.inj hF
    exact ⟨.inl rfl, ret1 h Tryd.results6 (r_tmp 0 rfl) [] [] rfl rfl rfl⟩
  · refine wp_skip ?_
    show Code.wp Tryd.prog _ _ a w
    obtain ⟨r8, hr8, hF⟩ := bind_some hF
    refine regS mixed hn hG h [0, 1, 2, 3, 4, 5, 6, 500, 7, 8, 9, 10, 11, 501] (og [] [] [.slot 30 0 100000 (fun v1_ _ => (eqVP v1_)), .res 0 100000 (fun v1_ _ => (RLog_e (v1_) (some r8)))] (GOk.plain (op_callv Tryd.call19 (ref04_New_ok hr8) trivial) rfl) <| og [501] [] [.slot 15 0 100000 (fun v1_ _ => (eqVP v1_))] (fun {β} => (GOk.plain (op_assign (V := (eqVP (β 0))) q0) rfl)) .nil) fun b9 a w h => ?_
    replace h := h.snoc Log_nil
    replace h := h.sub [0, 1, 2, 3, 4, 5, 6, 7, 8, 9, 10, 11, 12, 13, 14] (by rfl)
    change SatL c [.slot 1 (intVP .u32 a_1), .slot 2 (intVP .u32 a_2), .slot 7 (lpVP (b1 0) 0), .slot 10 (lpVP (b1 1) 0), .slot 11 (lpVP (b1 2) 0), .slot 12 (lpVP (b1 3) 0), .slot 13 (lpVP (b1 4) 0), .slot 15 (eqVP (b9 0)), .res (lb (b1 0) 23 [bytesCk 32 a_0]), .res (lb (b1 1) 23 [bytesCk 32 a_3]), .res (lb (b1 2) 23 [bytesCk 32 a_4]), .res (lb (b1 3) 23 [bytesCk 32 a_5]), .res (lb (b1 4) 23 [bytesCk 32 a_6]), .res (RLog_e (b9 0) (some r8)), .res (Log_e (.pointer none) none)] a w at h
    obtain ⟨r10, hr10, hF⟩ := bind_some hF
    refine regS mixed hn hG h [0, 1, 2, 3, 4, 5, 6, 7, 502, 8, 9, 10, 11, 12, 13, 503, 500] (ov [2, 8] (op_load_w 1 Tryd.isAgg23 Tryd.sizeOf23 q0) <| oc [500] [14] Tryd.call12 (keys_New_ok hr10) ⟨(opc (ec _)), q0, trivial⟩ <| ob [] (op_alloc Tryd.zeroValue27 z27) <| og [501, 503] [500] [.res 2 100000 (fun v1_ _ => (lb (v1_) 27 [bytesCk 32 r10.1.f_Seed, one (intVP .i64 r10.1.f_Next), one (slVP (dC 32) r10.1.f_Leaves)]))] (GOk.plain (op_store_w Tryd.sizeOf27 q0 q1 (cells_agg _)) rfl) .nil) fun b11 a w h => ?_
    obtain ⟨r12, hr12, hF⟩ := bind_some hF
    obtain ⟨r13, hr13, hF⟩ := bind_some hF
    refine regS mixed hn hG h [0, 1, 3, 4, 5, 6, 7, 8, 502, 10, 11, 12, 13, 15, 16, 503, 500] (ov [7] (op_move q0) <| ov [2, 9] (op_load_w 1 Tryd.isAgg23 Tryd.sizeOf23 q0) <| oc [501, 500] [14] Tryd.call20 (ref06_New_ok hr12) ⟨q0, q1, trivial⟩ <| ov [7] (op_move q0) <| oc [502, 500] [501] Tryd.call21 (ref06_Signer_Root_ok hr13) ⟨q0, q1, trivial⟩ <| ob [] (op_alloc Tryd.zeroValue23 z23) <| og [501, 503] [500] [.res 5 100000 (fun v1_ _ => (lb (v1_) 23 [bytesCk 32 r13.1]))] (GOk.plain (op_store_w Tryd.sizeOf23 q0 q1 (cells_agg _)) rfl) .nil) fun b14 a w h => ?_
    obtain ⟨r15, hr15, hF⟩ := bind_some hF
    refine regS mixed hn hG h [0, 1, 2, 3, 4, 5, 6, 8, 504, 500, 9, 10, 11, 12, 15, 16, 511, 501] (ov [7, 14] (op_load_w 1 Tryd.isAgg27 Tryd.sizeOf27 q0) <| ov [0] (op_move q0) <| ov [2, 9] (op_load_w 1 Tryd.isAgg23 Tryd.sizeOf23 q0) <| ov [3, 10] (op_load_w 1 Tryd.isAgg23 Tryd.sizeOf23 q0) <| oc [503, 502, 501, 500] [13] Tryd.call26 (update_Sign_ok hr15) ⟨(opc (ec _)), q0, q1, q2, q3, trivial⟩ <| ov [501] (op_move q0) <| ov [500] (op_extract q0 rfl) <| ov [501] (op_extract q0 rfl) <| ov [502] (op_extract q0 rfl) <| ob [] (op_alloc Tryd.zeroValue27 z27) <| ob [] (op_alloc Tryd.zeroValue53 z53) <| og [503, 506] [502] [.res 9 100000 (fun v1_ _ => (lb (v1_) 27 [bytesCk 32 r15.1.f_Seed, one (intVP .i64 r15.1.f_Next), one (slVP (dC 32) r15.1.f_Leaves)]))] (GOk.plain (op_store_w Tryd.sizeOf27 q0 q1 (cells_agg _)) rfl) <| og [502, 506] [501] [.res 10 100000 (fun v1_ _ => (lb (v1_) 53 [one (intVP .u32 r15.2.1.f_Home), bytesCk 32 r15.2.1.f_Old, bytesCk 32 r15.2.1.f_New, one (intVP .i64 r15.2.1.f_Sig.f_Index), one (slVP (dC 32) r15.2.1.f_Sig.f_Parts), one (slVP (dC 32) r15.2.1.f_Sig.f_Others), one (slVP (dC 32) r15.2.1.f_Sig.f_Path)]))] (GOk.plain (op_store_w Tryd.sizeOf53 q0 q1 (cells_agg _)) rfl) <| ov [506] (op_assign q0) .nil) fun b16 a w h => ?_
    refine regS mixed hn hG h [0, 1, 2, 3, 4, 5, 6, 7, 8, 9, 502, 10, 11, 12, 13, 14, 15, 16, 17, 500] (ov [8, 17] (op_load_w 1 Tryd.isAgg53 Tryd.sizeOf53 q0) <| ob [] (op_alloc Tryd.zeroValue53 z53) <| og [501, 502] [500] [.res 1 100000 (fun v1_ _ => (lb (v1_) 53 [one (intVP .u32 r15.2.1.f_Home), bytesCk 32 r15.2.1.f_Old, bytesCk 32 r15.2.1.f_New, one (intVP .i64 r15.2.1.f_Sig.f_Index), one (slVP (dC 32) r15.2.1.f_Sig.f_Parts), one (slVP (dC 32) r15.2.1.f_Sig.f_Others), one (slVP (dC 32) r15.2.1.f_Sig.f_Path)]))] (GOk.plain (op_store_w Tryd.sizeOf53 q0 q1 (cells_agg _)) rfl) .nil) fun b17 a w h => ?_
    refine regS mixed hn hG h [0, 1, 2, 3, 4, 5, 6, 7, 8, 9, 10, 11, 12, 13, 14, 15, 16, 17, 18, 500] (ov [1] (op_move q0) <| ov [4, 13] (op_load_w 1 Tryd.isAgg23 Tryd.sizeOf23 q0) <| ov [5, 14] (op_load_w 1 Tryd.isAgg23 Tryd.sizeOf23 q0) <| ov [10] (op_fieldAddr_lbm (p := (b17 1)) (n := 1) 0 0 Tryd.underlying53 rfl Tryd.sizeOf51 (by decide) q0 rfl) <| ou [500, 503] 19 (op_store_lb [] [one (intVP .u32 r15.2.1.f_Home)] [bytesCk 32 r15.2.1.f_Old, bytesCk 32 r15.2.1.f_New, one (intVP .i64 r15.2.1.f_Sig.f_Index), one (slVP (dC 32) r15.2.1.f_Sig.f_Parts), one (slVP (dC 32) r15.2.1.f_Sig.f_Others), one (slVP (dC 32) r15.2.1.f_Sig.f_Path)] [one (intVP .u32 a_2)] Tryd.sizeOf51 q0 q1 (cells_one (one_int _ _)) rfl rfl rfl) <| ov [10] (op_fieldAddr_lbm (p := (b17 1)) (n := 32) 0 1 Tryd.underlying53 rfl Tryd.sizeOf23 (by decide) q0 rfl) <| ou [500, 504] 501 (op_store_lb [one (intVP .u32 a_2)] [bytesCk 32 r15.2.1.f_Old] [bytesCk 32 r15.2.1.f_New, one (intVP .i64 r15.2.1.f_Sig.f_Index), one (slVP (dC 32) r15.2.1.f_Sig.f_Parts), one (slVP (dC 32) r15.2.1.f_Sig.f_Others), one (slVP (dC 32) r15.2.1.f_Sig.f_Path)] [bytesCk 32 a_5] Tryd.sizeOf23 q0 q1 (cells_agg _) rfl rfl rfl) <| ov [10] (op_fieldAddr_lbm (p := (b17 1)) (n := 32) 0 33 Tryd.underlying53 rfl Tryd.sizeOf23 (by decide) q0 rfl) <| ou [500, 505] 501 (op_store_lb [one (intVP .u32 a_2), bytesCk 32 a_5] [bytesCk 32 r15.2.1.f_New] [one (intVP .i64 r15.2.1.f_Sig.f_Index), one (slVP (dC 32) r15.2.1.f_Sig.f_Parts), one (slVP (dC 32) r15.2.1.f_Sig.f_Others), one (slVP (dC 32) r15.2.1.f_Sig.f_Path)] [bytesCk 32 a_6] Tryd.sizeOf23 q0 q1 (cells_agg _) rfl rfl rfl) .nil) fun _ a w h => ?_
    obtain ⟨r18, hr18, hF⟩ := bind_some hF
    refine regS mixed hn hG h [0, 1, 2, 3, 4, 5, 6, 7, 8, 9, 10, 500, 11, 12, 13, 14, 15, 16, 18, 19, 501] (ov [7, 16] (op_load_w 1 Tryd.isAgg23 Tryd.sizeOf23 q0) <| ov [10, 19] (op_load_w 1 Tryd.isAgg53 Tryd.sizeOf53 q0) <| oc [501, 500] [17] Tryd.call27 (update_Right_ok hr18) ⟨(opc (ec _)), q0, q1, trivial⟩ <| ov [501] (op_assign q0) .nil) fun _ a w h => ?_
    obtain ⟨r19, hr19, hF⟩ := bind_some hF
    refine regS mixed hn hG h [0, 1, 2, 3, 4, 5, 6, 7, 8, 9, 10, 11, 12, 13, 14, 15, 17, 18, 19, 20, 500] (ov [6] (op_move q0) <| ov [0] (op_move q0) <| ov [2, 12] (op_load_w 1 Tryd.isAgg23 Tryd.sizeOf23 q0) <| ov [3, 13] (op_load_w 1 Tryd.isAgg23 Tryd.sizeOf23 q0) <| oc [503, 502, 501, 500] [16] Tryd.call28 (ref10_Claim_ok hr19) ⟨q0, q1, q2, q3, trivial⟩ .nil) fun _ a w h => ?_
    obtain ⟨r20, hr20, hF⟩ := bind_some hF
    refine regS mixed hn hG h [0, 1, 2, 3, 4, 5, 6, 7, 8, 9, 11, 12, 13, 14, 15, 16, 17, 19, 500] (ov [6] (op_move q0) <| ov [7, 16] (op_load_w 1 Tryd.isAgg23 Tryd.sizeOf23 q0) <| ov [10, 18] (op_load_w 1 Tryd.isAgg53 Tryd.sizeOf53 q0) <| oc [502, 501, 500] [20] Tryd.call29 (ref10_Right_ok hr20) ⟨q0, q1, q2, trivial⟩ .nil) fun _ a w h => ?_
    refine wp_seq ?_
    refine wp_cut (fun a w => ∃ (x21 : Bool), law10_UpdateBinds.j1 a_1 a_2 a_3 a_4 a_5 a_6 r13 r15 r18 r20 x21 = some r ∧ SatL c [.slot 1 (intVP .u32 a_1), .slot 2 (intVP .u32 a_2), .slot 10 (lpVP (b1 1) 0), .slot 11 (lpVP (b1 2) 0), .slot 12 (lpVP (b1 3) 0), .slot 13 (lpVP (b1 4) 0), .slot 15 (eqVP (b9 0)), .slot 17 (lpVP (b14 5) 0), .slot 19 (lpVP (b16 10) 0), .slot 20 (intVP .i64 r15.2.2.1), .slot 22 (boolVP r18.1), .slot 23 (boolVP x21), .res (lb (b1 1) 23 [bytesCk 32 a_3]), .res (lb (b1 2) 23 [bytesCk 32 a_4]), .res (lb (b1 3) 23 [bytesCk 32 a_5]), .res (lb (b1 4) 23 [bytesCk 32 a_6]), .res (lb (b14 5) 23 [bytesCk 32 r13.1]), .res (lb (b16 10) 53 [one (intVP .u32 r15.2.1.f_Home), bytesCk 32 r15.2.1.f_Old, bytesCk 32 r15.2.1.f_New, one (intVP .i64 r15.2.1.f_Sig.f_Index), one (slVP (dC 32) r15.2.1.f_Sig.f_Parts), one (slVP (dC 32) r15.2.1.f_Sig.f_Others), one (slVP (dC 32) r15.2.1.f_Sig.f_Path)]), .res (Log_e (.pointer none) r18.2), .res (RLog_e (b9 0) r20.2)] a w) ?_ ?_
    · rcases Bool.eq_false_or_eq_true (decide (a_1 = a_2)) with hb61 | hb61
      · replace hF := tt_of hb61 hF
        rcases Bool.eq_false_or_eq_true (decide (a_3 = a_5)) with hb62 | hb62
        · replace hF := tt_of hb62 hF
          refine reg mixed hn hG h [0, 1, 2, 3, 4, 5, 6, 7, 8, 9, 10, 500, 11, 12, 13, 14, 15, 16, 17, 18] (ov [0] (op_move q0) <| ov [1] (op_move q0) <| ov [501, 500] (op_bin bin_eql q0 q1) <| ov [500] (op_move q0) <| oe [500, 2, 11] [] (GOk.on_eq hb61 rfl rfl rfl (op_load_w 1 Tryd.isAgg23 Tryd.sizeOf23 q0)) <| oe [501, 4, 13] [] (GOk.on_eq hb61 rfl rfl rfl (op_load_w 1 Tryd.isAgg23 Tryd.sizeOf23 q0)) <| oe [502, 501, 500] [] (GOk.on_eq hb61 rfl rfl rfl (op_bin (bin_aeql Tryd.underlying23 Tryd.underlying5 Tryd.type5 Tryd.sizeOf5 Tryd.isAgg5 Tryd.eqGuardType23) q0 q1)) <| ov [503, 500] (op_pick_t hb61 q0 q1) <| ov [500] (op_move q0) <| oe [500, 3, 12] [] (GOk.on_eq hb62 rfl rfl rfl (op_load_w 1 Tryd.isAgg23 Tryd.sizeOf23 q0)) <| oe [501, 5, 14] [] (GOk.on_eq hb62 rfl rfl rfl (op_load_w 1 Tryd.isAgg23 Tryd.sizeOf23 q0)) <| oe [502, 501, 500] [] (GOk.on_eq hb62 rfl rfl rfl (op_bin (bin_aeql Tryd.underlying23 Tryd.underlying5 Tryd.type5 Tryd.sizeOf5 Tryd.isAgg5 Tryd.eqGuardType23) q0 q1)) <| ov [503, 500] (op_pick_t hb62 q0 q1) <| ov [500] (op_assign q0) .nil) fun _ a w h => ?_
          exact ⟨decide (a_4 = a_6), hF, h.sub [0, 1, 2, 3, 4, 5, 6, 7, 8, 9, 10, 11, 12, 13, 14, 15, 16, 17, 18, 19] (by rfl)⟩
        · replace hF := ff_of hb62 hF
          refine reg mixed hn hG h [0, 1, 2, 3, 4, 5, 6, 7, 8, 9, 10, 500, 11, 12, 13, 14, 15, 16, 17, 18] (ov [0] (op_move q0) <| ov [1] (op_move q0) <| ov [501, 500] (op_bin bin_eql q0 q1) <| ov [500] (op_move q0) <| oe [500, 2, 11] [] (GOk.on_eq hb61 rfl rfl rfl (op_load_w 1 Tryd.isAgg23 Tryd.sizeOf23 q0)) <| oe [501, 4, 13] [] (GOk.on_eq hb61 rfl rfl rfl (op_load_w 1 Tryd.isAgg23 Tryd.sizeOf23 q0)) <| oe [502, 501, 500] [] (GOk.on_eq hb61 rfl rfl rfl (op_bin (bin_aeql Tryd.underlying23 Tryd.underlying5 Tryd.type5 Tryd.sizeOf5 Tryd.isAgg5 Tryd.eqGuardType23) q0 q1)) <| ov [503, 500] (op_pick_t hb61 q0 q1) <| ov [500] (op_move q0) <| oe [500] [] (GOk.off_v (want := true) hb62 rfl rfl rfl rfl) <| oe [501] [] (GOk.off_v (want := true) hb62 rfl rfl rfl rfl) <| oe [502] [] (GOk.off_v (want := true) hb62 rfl rfl rfl rfl) <| ov [503] (op_pick_f hb62 q0 qb) <| ov [500] (op_assign q0) .nil) fun _ a w h => ?_
          exact ⟨false, hF, h.sub [0, 1, 2, 3, 4, 5, 6, 7, 8, 9, 10, 11, 12, 13, 14, 15, 16, 17, 18, 19] (by rfl)⟩
      · replace hF := ff_of hb61 hF
        refine reg mixed hn hG h [0, 1, 2, 3, 4, 5, 6, 7, 8, 9, 10, 500, 11, 12, 13, 14, 15, 16, 17, 18] (ov [0] (op_move q0) <| ov [1] (op_move q0) <| ov [501, 500] (op_bin bin_eql q0 q1) <| ov [500] (op_move q0) <| oe [500] [] (GOk.off_v (want := true) hb61 rfl rfl rfl rfl) <| oe [501] [] (GOk.off_v (want := true) hb61 rfl rfl rfl rfl) <| oe [502] [] (GOk.off_v (want := true) hb61 rfl rfl rfl rfl) <| ov [503] (op_pick_f hb61 q0 qb) <| ov [500] (op_move q0) <| oe [500] [] (GOk.off_v (want := true) rfl rfl rfl rfl rfl) <| oe [501] [] (GOk.off_v (want := true) rfl rfl rfl rfl rfl) <| oe [502] [] (GOk.off_v (want := true) rfl rfl rfl rfl rfl) <| ov [503] (op_pick_f rfl q0 qb) <| ov [500] (op_assign q0) .nil) fun _ a w h => ?_
        exact ⟨false, hF, h.sub [0, 1, 2, 3, 4, 5, 6, 7, 8, 9, 10, 11, 12, 13, 14, 15, 16, 17, 18, 19] (by rfl)⟩
    · clear h hF
      rintro a w ⟨x21, hF, h⟩
      unfold law10_UpdateBinds.j1 at hF
      show Code.wp Tryd.prog _ _ a w
      refine regS mixed hn hG h [0, 1, 2, 3, 4, 5, 6, 7, 8, 9, 10, 11, 500, 12, 13, 14, 15, 16, 17, 18, 19] (ov [] (op_assign qb) .nil) fun _ a w h => ?_
      obtain ⟨r22, hr22, hF⟩ := bind_some hF
      obtain ⟨r23, hr23, hF⟩ := bind_some hF
      refine regS mixed hn hG h [6, 7, 8, 9, 10, 11, 12, 505, 503, 17, 18, 19, 506, 501, 500] (ov [6] (op_move q0) <| ov [0] (op_move q0) <| ov [2, 13] (op_load_w 1 Tryd.isAgg23 Tryd.sizeOf23 q0) <| ov [3, 14] (op_load_w 1 Tryd.isAgg23 Tryd.sizeOf23 q0) <| oc [503, 502, 501, 500] [20] Tryd.call28 (ref10_Claim_ok hr22) ⟨q0, q1, q2, q3, trivial⟩ <| ov [6] (op_move q0) <| ov [1] (op_move q0) <| ov [4, 15] (op_load_w 1 Tryd.isAgg23 Tryd.sizeOf23 q0) <| ov [5, 16] (op_load_w 1 Tryd.isAgg23 Tryd.sizeOf23 q0) <| oc [503, 502, 501, 500] [504] Tryd.call28 (ref10_Claim_ok hr23) ⟨q0, q1, q2, q3, trivial⟩ <| ob [] (op_alloc Tryd.zeroValue23 z23) <| ob [] (op_alloc Tryd.zeroValue23 z23) <| og [503, 511] [502] [.res 10 100000 (fun v1_ _ => (lb (v1_) 23 [bytesCk 32 r22.1]))] (GOk.plain (op_store_w Tryd.sizeOf23 q0 q1 (cells_agg _)) rfl) <| og [502, 506] [501] [.res 11 100000 (fun v1_ _ => (lb (v1_) 23 [bytesCk 32 r23.1]))] (GOk.plain (op_store_w Tryd.sizeOf23 q0 q1 (cells_agg _)) rfl) .nil) fun b24 a w h => ?_
      refine wp_seq ?_
      refine regS mixed hn hG h [0, 1, 2, 3, 4, 5, 6, 7, 8, 500, 9, 10, 11, 12, 13, 14] (ov [] (op_move qi) .nil) fun _ a w h => ?_
      refine wp_block ?_
      obtain ⟨cr38, hl39, hF⟩ := bind_some hF
      refine wp_mono (wp_loopN (R := Bool) (S := Bool × Int) (fun s a w => SatL c [.slot 15 (eqVP (b9 0)), .slot 17 (lpVP (b14 5) 0), .slot 19 (lpVP (b16 10) 0), .slot 20 (intVP .i64 r15.2.2.1), .slot 22 (boolVP r18.1), .slot 23 (boolVP x21), .slot 24 (boolVP s.1), .slot 25 (lpVP (b24 10) 0), .slot 26 (lpVP (b24 11) 0), .slot 89 (intVP .i64 s.2), .res (lb (b14 5) 23 [bytesCk 32 r13.1]), .res (lb (b16 10) 53 [one (intVP .u32 r15.2.1.f_Home), bytesCk 32 r15.2.1.f_Old, bytesCk 32 r15.2.1.f_New, one (intVP .i64 r15.2.1.f_Sig.f_Index), one (slVP (dC 32) r15.2.1.f_Sig.f_Parts), one (slVP (dC 32) r15.2.1.f_Sig.f_Others), one (slVP (dC 32) r15.2.1.f_Sig.f_Path)]), .res (Log_e (.pointer none) r18.2), .res (RLog_e (b9 0) r23.2), .res (lb (b24 10) 23 [bytesCk 32 r22.1]), .res (lb (b24 11) 23 [bytesCk 32 r23.1])] a w) (fun res e a w => match res with | .next s => e = .exit 0 ∧ SatL c [.slot 15 (eqVP (b9 0)), .slot 17 (lpVP (b14 5) 0), .slot 19 (lpVP (b16 10) 0), .slot 20 (intVP .i64 r15.2.2.1), .slot 22 (boolVP r18.1), .slot 23 (boolVP x21), .slot 24 (boolVP s.1), .res (lb (b14 5) 23 [bytesCk 32 r13.1]), .res (lb (b16 10) 53 [one (intVP .u32 r15.2.1.f_Home), bytesCk 32 r15.2.1.f_Old, bytesCk 32 r15.2.1.f_New, one (intVP .i64 r15.2.1.f_Sig.f_Index), one (slVP (dC 32) r15.2.1.f_Sig.f_Parts), one (slVP (dC 32) r15.2.1.f_Sig.f_Others), one (slVP (dC 32) r15.2.1.f_Sig.f_Path)]), .res (Log_e (.pointer none) r18.2), .res (RLog_e (b9 0) r23.2)] a w | .ret r => e = .ret ∧ RetOk Tryd.prog Tryd.f6 c (boolVP r) (fun _ => []) a w) ?_ _ (true, 0) _ _ _ (h.sub [0, 1, 2, 3, 4, 5, 6, 7, 8, 9, 10, 11, 12, 13, 14, 15] (by rfl)) hl39) ?_
      · clear hl39 hF h
        intro s a w o h hF
        obtain ⟨x27, x28⟩ := s
        change law10_UpdateBinds.b1 r22 r23 x27 x28 = some o at hF
        unfold law10_UpdateBinds.b1 at hF
        change SatL c [.slot 15 (eqVP (b9 0)), .slot 17 (lpVP (b14 5) 0), .slot 19 (lpVP (b16 10) 0), .slot 20 (intVP .i64 r15.2.2.1), .slot 22 (boolVP r18.1), .slot 23 (boolVP x21), .slot 24 (boolVP x27), .slot 25 (lpVP (b24 10) 0), .slot 26 (lpVP (b24 11) 0), .slot 89 (intVP .i64 x28), .res (lb (b14 5) 23 [bytesCk 32 r13.1]), .res (lb (b16 10) 53 [one (intVP .u32 r15.2.1.f_Home), bytesCk 32 r15.2.1.f_Old, bytesCk 32 r15.2.1.f_New, one (intVP .i64 r15.2.1.f_Sig.f_Index), one (slVP (dC 32) r15.2.1.f_Sig.f_Parts), one (slVP (dC 32) r15.2.1.f_Sig.f_Others), one (slVP (dC 32) r15.2.1.f_Sig.f_Path)]), .res (Log_e (.pointer none) r18.2), .res (RLog_e (b9 0) r23.2), .res (lb (b24 10) 23 [bytesCk 32 r22.1]), .res (lb (b24 11) 23 [bytesCk 32 r23.1])] a w at h
        refine regS mixed hn hG h [0, 1, 2, 3, 4, 5, 6, 7, 8, 9, 500, 10, 11, 12, 13, 14, 15] (ov [9] (op_bin bin_lss q0 qi) .nil) fun _ a w h => ?_
        refine wp_seq ?_
        refine cnd h hF 10 [0, 1, 2, 3, 4, 5, 6, 7, 8, 9, 11, 12, 13, 14, 15, 16] [0, 1, 2, 3, 4, 5, 6, 7, 8, 9, 11, 12, 13, 14, 15, 16] (fun hb34 hF h => ?_) (fun hb34 hF h => ?_)
        · refine wp_skip ?_
          show Code.wp Tryd.prog _ _ a w
          refine wp_seq ?_
          refine wp_block ?_
          refine regS mixed hn hG h [0, 1, 2, 3, 4, 5, 6, 7, 8, 500, 9, 10, 11, 12, 13, 14, 15] (ov [9] (op_move q0) <| ov [500] (op_assign q0) .nil) fun _ a w h => ?_
          refine wp_cut (fun a w => ∃ (x36 : Bool), law10_UpdateBinds.j2 x28 x36 = some o ∧ SatL c [.slot 15 (eqVP (b9 0)), .slot 17 (lpVP (b14 5) 0), .slot 19 (lpVP (b16 10) 0), .slot 20 (intVP .i64 r15.2.2.1), .slot 22 (boolVP r18.1), .slot 23 (boolVP x21), .slot 24 (boolVP x36), .slot 25 (lpVP (b24 10) 0), .slot 26 (lpVP (b24 11) 0), .slot 89 (intVP .i64 x28), .res (lb (b14 5) 23 [bytesCk 32 r13.1]), .res (lb (b16 10) 53 [one (intVP .u32 r15.2.1.f_Home), bytesCk 32 r15.2.1.f_Old, bytesCk 32 r15.2.1.f_New, one (intVP .i64 r15.2.1.f_Sig.f_Index), one (slVP (dC 32) r15.2.1.f_Sig.f_Parts), one (slVP (dC 32) r15.2.1.f_Sig.f_Others), one (slVP (dC 32) r15.2.1.f_Sig.f_Path)]), .res (Log_e (.pointer none) r18.2), .res (RLog_e (b9 0) r23.2), .res (lb (b24 10) 23 [bytesCk 32 r22.1]), .res (lb (b24 11) 23 [bytesCk 32 r23.1])] a w) ?_ ?_
          · rcases Bool.eq_false_or_eq_true x27 with hb37 | hb37
            · replace hF := tt_of hb37 hF
              obtain ⟨hv35, hF⟩ := ite_some hF
              refine reg mixed hn hG h [0, 1, 2, 3, 4, 5, 500, 7, 8, 10, 11, 12, 13, 14, 15, 16] (ov [6] (op_move q0) <| ov [500] (op_move q0) <| oe [500, 9] [] (GOk.on_eq hb37 rfl rfl rfl (op_move q0)) <| oe [501, 7, 500] [] (GOk.on_eq hb37 rfl rfl rfl (op_indexAddr_lb Tryd.underlying23 Tryd.sizeOf5 q0 q1 hv35)) <| oe [502, 500, 15] [] (GOk.on_eq hb37 rfl rfl rfl (op_load_lbB (i := x28) [] [] 1 Tryd.isAgg5 q0 rfl rfl hv35)) <| oe [503, 9] [] (GOk.on_eq hb37 rfl rfl rfl (op_move q0)) <| oe [504, 8, 500] [] (GOk.on_eq hb37 rfl rfl rfl (op_indexAddr_lb Tryd.underlying23 Tryd.sizeOf5 q0 q1 hv35)) <| oe [505, 500, 16] [] (GOk.on_eq hb37 rfl rfl rfl (op_load_lbB (i := x28) [] [] 1 Tryd.isAgg5 q0 rfl rfl hv35)) <| oe [506, 503, 500] [] (GOk.on_eq hb37 rfl rfl rfl (op_bin bin_eql q0 q1)) <| ov [507, 500] (op_pick_t hb37 q0 q1) <| od [500] 6 (op_assign q0) .nil) fun _ a w h => ?_
              exact ⟨decide (((r22.1.getD x28.toNat 0).toNat : Int) = ((r23.1.getD x28.toNat 0).toNat : Int)), hF, h.sub [0, 1, 2, 3, 4, 5, 6, 7, 8, 9, 10, 11, 12, 13, 14, 15] (by rfl)⟩
            · replace hF := ff_of hb37 hF
              refine reg mixed hn hG h [0, 1, 2, 3, 4, 5, 500, 7, 8, 10, 11, 12, 13, 14, 15, 16] (ov [6] (op_move q0) <| ov [500] (op_move q0) <| oe [500] [] (GOk.off_v (want := true) hb37 rfl rfl rfl rfl) <| oe [501] [] (GOk.off_v (want := true) hb37 rfl rfl rfl rfl) <| oe [502] [] (GOk.off_v (want := true) hb37 rfl rfl rfl rfl) <| oe [503] [] (GOk.off_v (want := true) hb37 rfl rfl rfl rfl) <| oe [504] [] (GOk.off_v (want := true) hb37 rfl rfl rfl rfl) <| oe [505] [] (GOk.off_v (want := true) hb37 rfl rfl rfl rfl) <| oe [506] [] (GOk.off_v (want := true) hb37 rfl rfl rfl rfl) <| ov [507] (op_pick_f hb37 q0 qb) <| od [500] 6 (op_assign q0) .nil) fun _ a w h => ?_
              exact ⟨false, hF, h.sub [0, 1, 2, 3, 4, 5, 6, 7, 8, 9, 10, 11, 12, 13, 14, 15] (by rfl)⟩
          · clear h hF
            rintro a w ⟨x36, hF, h⟩
            unfold law10_UpdateBinds.j2 at hF
            show Code.wp Tryd.prog _ _ a w
            refine reg mixed hn hG h [0, 1, 2, 3, 4, 5, 6, 7, 8, 500, 10, 11, 12, 13, 14, 15] (ov [9] (op_bin bin_add q0 qi) <| od [500] 9 (op_move q0) .nil) fun _ a w h => ?_
            obtain rfl := Option.some.inj hF
            exact ⟨rfl, h.sub [0, 1, 2, 3, 4, 5, 6, 7, 8, 9, 10, 11, 12, 13, 14, 15] (by rfl)⟩
        · refine wp_exit ?_
          obtain rfl := Option.some.inj hF
          exact ⟨exit_ne _, rfl, h.sub [0, 1, 2, 3, 4, 5, 6, 10, 11, 12, 13] (by rfl)⟩
      · clear hl39
        intro e a w hq
        cases cr38 with
        | ret r40 =>
          obtain ⟨rfl, hq⟩ := hq
          obtain rfl := Option.some.inj hF
          exact ⟨.inl rfl, hq⟩
        | next s41 =>
          obtain ⟨y42, y43⟩ := s41
          obtain ⟨rfl, h⟩ := hq
          change SatL c [.slot 15 (eqVP (b9 0)), .slot 17 (lpVP (b14 5) 0), .slot 19 (lpVP (b16 10) 0), .slot 20 (intVP .i64 r15.2.2.1), .slot 22 (boolVP r18.1), .slot 23 (boolVP x21), .slot 24 (boolVP y42), .res (lb (b14 5) 23 [bytesCk 32 r13.1]), .res (lb (b16 10) 53 [one (intVP .u32 r15.2.1.f_Home), bytesCk 32 r15.2.1.f_Old, bytesCk 32 r15.2.1.f_New, one (intVP .i64 r15.2.1.f_Sig.f_Index), one (slVP (dC 32) r15.2.1.f_Sig.f_Parts), one (slVP (dC 32) r15.2.1.f_Sig.f_Others), one (slVP (dC 32) r15.2.1.f_Sig.f_Path)]), .res (Log_e (.pointer none) r18.2), .res (RLog_e (b9 0) r23.2)] a w at h
          refine inBlock_at ?_
          show Code.wp Tryd.prog _ _ a w
          refine wp_seq ?_
          obtain ⟨r44, hr44, hF⟩ := bind_some hF
          refine wp_cut (fun a w => ∃ (x50 : Bool), ∃ (x51 : Option O_Log), law10_UpdateBinds.j3 x50 x51 = some r ∧ SatL c [.slot 14 (boolVP x50), .res (RLog_e (b9 0) r23.2), .res (Log_e (.pointer none) x51)] a w) ?_ ?_
          · rcases Bool.eq_false_or_eq_true r44 with hb52 | hb52
            · replace hF := tt_of hb52 hF
              rcases Bool.eq_false_or_eq_true (decide (r15.2.2.1 = (0 : Int))) with hb53 | hb53
              · replace hF := tt_of hb53 hF
                rcases Bool.eq_false_or_eq_true x21 with hb54 | hb54
                · replace hF := tt_of hb54 hF
                  rcases Bool.eq_false_or_eq_true (r18.1 == true) with hb55 | hb55
                  · replace hF := tt_of hb55 hF
                    obtain ⟨r45, hr45, hF⟩ := bind_some hF
                    refine reg mixed hn hG h [500, 10, 502] (oc [] [] Tryd.call25 (law10_awake_ok hr44) trivial <| ov [500] (op_move q0) <| oe [500, 3] [] (GOk.on_eq hb52 rfl rfl rfl (op_move q0)) <| oe [501, 500] [] (GOk.on_eq hb52 rfl rfl rfl (op_bin bin_eql q0 qi)) <| ov [502, 500] (op_pick_t hb52 q0 q1) <| ov [500] (op_move q0) <| oe [500, 4] [] (GOk.on_eq hb53 rfl rfl rfl (op_move q0)) <| oe [501, 5] [] (GOk.on_eq hb53 rfl rfl rfl (op_move q0)) <| oe [502, 500] [] (GOk.on_eq hb53 rfl rfl rfl (op_move q0)) <| oe [500] [] (GOk.off_v (want := false) hb54 rfl rfl rfl rfl) <| oe [504, 501] [] (GOk.on_eq hb53 rfl rfl rfl (op_pick_t hb54 q0 qb)) <| oe [505, 500] [] (GOk.on_eq hb53 rfl rfl rfl (op_move q0)) <| oe [500] [] (GOk.off_v (want := false) rfl rfl rfl rfl rfl) <| oe [501] [] (GOk.off_v (want := false) rfl rfl rfl rfl rfl) <| oe [500] [] (GOk.off_u rfl rfl rfl rfl) <| oe [501] [] (GOk.off_u rfl rfl rfl rfl) <| oe [504] [] (GOk.off_v (want := false) rfl rfl rfl rfl rfl) <| oe [511, 505] [] (GOk.on_eq hb53 rfl rfl rfl (op_pick_t rfl q0 qb)) <| oe [512, 511, 500] [] (GOk.on_eq hb53 rfl rfl rfl (op_bin (bin_beql Tryd.underlying4) q0 q1)) <| ov [513, 500] (op_pick_t hb53 q0 q1) <| ov [500] (op_move q0) <| oe [500, 1, 7] [] (GOk.on_eq hb55 rfl rfl rfl (op_load_w 1 Tryd.isAgg23 Tryd.sizeOf23 q0)) <| oe [501, 2, 8] [] (GOk.on_eq hb55 rfl rfl rfl (op_load_w 1 Tryd.isAgg53 Tryd.sizeOf53 q0)) <| oe [502, 501, 500] [9] (GOk.on_eq hb55 rfl rfl rfl (op_call Tryd.call27 (update_Right_ok hr45) ⟨(opc (ec _)), q0, q1, trivial⟩)) <| ov [504, 501] (op_pick_t hb55 q0 q1) <| ov [500] (op_assign q0) .nil) fun _ a w h => ?_
                    exact ⟨r45.1, r45.2, hF, h.sub [0, 1, 2] (by rfl)⟩
                  · replace hF := ff_of hb55 hF
                    refine reg mixed hn hG h [500, 9, 10] (oc [] [] Tryd.call25 (law10_awake_ok hr44) trivial <| ov [500] (op_move q0) <| oe [500, 3] [] (GOk.on_eq hb52 rfl rfl rfl (op_move q0)) <| oe [501, 500] [] (GOk.on_eq hb52 rfl rfl rfl (op_bin bin_eql q0 qi)) <| ov [502, 500] (op_pick_t hb52 q0 q1) <| ov [500] (op_move q0) <| oe [500, 4] [] (GOk.on_eq hb53 rfl rfl rfl (op_move q0)) <| oe [501, 5] [] (GOk.on_eq hb53 rfl rfl rfl (op_move q0)) <| oe [502, 500] [] (GOk.on_eq hb53 rfl rfl rfl (op_move q0)) <| oe [500] [] (GOk.off_v (want := false) hb54 rfl rfl rfl rfl) <| oe [504, 501] [] (GOk.on_eq hb53 rfl rfl rfl (op_pick_t hb54 q0 qb)) <| oe [505, 500] [] (GOk.on_eq hb53 rfl rfl rfl (op_move q0)) <| oe [500] [] (GOk.off_v (want := false) rfl rfl rfl rfl rfl) <| oe [501] [] (GOk.off_v (want := false) rfl rfl rfl rfl rfl) <| oe [500] [] (GOk.off_u rfl rfl rfl rfl) <| oe [501] [] (GOk.off_u rfl rfl rfl rfl) <| oe [504] [] (GOk.off_v (want := false) rfl rfl rfl rfl rfl) <| oe [511, 505] [] (GOk.on_eq hb53 rfl rfl rfl (op_pick_t rfl q0 qb)) <| oe [512, 511, 500] [] (GOk.on_eq hb53 rfl rfl rfl (op_bin (bin_beql Tryd.underlying4) q0 q1)) <| ov [513, 500] (op_pick_t hb53 q0 q1) <| ov [500] (op_move q0) <| oe [500] [] (GOk.off_v (want := true) hb55 rfl rfl rfl rfl) <| oe [501] [] (GOk.off_v (want := true) hb55 rfl rfl rfl rfl) <| oe [502] [] (GOk.off_v (want := true) hb55 rfl rfl rfl rfl) <| ov [503] (op_pick_f hb55 q0 qb) <| ov [500] (op_assign q0) .nil) fun _ a w h => ?_
                    exact ⟨false, r18.2, hF, h.sub [0, 2, 1] (by rfl)⟩
                · replace hF := ff_of hb54 hF
                  rcases Bool.eq_false_or_eq_true y42 with hb56 | hb56
                  · replace hF := tt_of hb56 hF
                    rcases Bool.eq_false_or_eq_true (r18.1 == true) with hb57 | hb57
                    · replace hF := tt_of hb57 hF
                      obtain ⟨r46, hr46, hF⟩ := bind_some hF
                      refine reg mixed hn hG h [500, 10, 502] (oc [] [] Tryd.call25 (law10_awake_ok hr44) trivial <| ov [500] (op_move q0) <| oe [500, 3] [] (GOk.on_eq hb52 rfl rfl rfl (op_move q0)) <| oe [501, 500] [] (GOk.on_eq hb52 rfl rfl rfl (op_bin bin_eql q0 qi)) <| ov [502, 500] (op_pick_t hb52 q0 q1) <| ov [500] (op_move q0) <| oe [500, 4] [] (GOk.on_eq hb53 rfl rfl rfl (op_move q0)) <| oe [501, 5] [] (GOk.on_eq hb53 rfl rfl rfl (op_move q0)) <| oe [502, 500] [] (GOk.on_eq hb53 rfl rfl rfl (op_move q0)) <| oe [500, 6] [] (GOk.on_eq hb54 rfl rfl rfl (op_move q0)) <| oe [504, 501, 500] [] (GOk.on_eq hb53 rfl rfl rfl (op_pick_f hb54 q0 q1)) <| oe [505, 500] [] (GOk.on_eq hb53 rfl rfl rfl (op_move q0)) <| oe [500] [] (GOk.off_v (want := false) hb56 rfl rfl rfl rfl) <| oe [501] [] (GOk.off_v (want := false) hb56 rfl rfl rfl rfl) <| oe [500] [] (GOk.off_u rfl rfl rfl rfl) <| oe [501] [] (GOk.off_u rfl rfl rfl rfl) <| oe [504] [] (GOk.off_v (want := false) hb56 rfl rfl rfl rfl) <| oe [511, 505] [] (GOk.on_eq hb53 rfl rfl rfl (op_pick_t hb56 q0 qb)) <| oe [512, 511, 500] [] (GOk.on_eq hb53 rfl rfl rfl (op_bin (bin_beql Tryd.underlying4) q0 q1)) <| ov [513, 500] (op_pick_t hb53 q0 q1) <| ov [500] (op_move q0) <| oe [500, 1, 7] [] (GOk.on_eq hb57 rfl rfl rfl (op_load_w 1 Tryd.isAgg23 Tryd.sizeOf23 q0)) <| oe [501, 2, 8] [] (GOk.on_eq hb57 rfl rfl rfl (op_load_w 1 Tryd.isAgg53 Tryd.sizeOf53 q0)) <| oe [502, 501, 500] [9] (GOk.on_eq hb57 rfl rfl rfl (op_call Tryd.call27 (update_Right_ok hr46) ⟨(opc (ec _)), q0, q1, trivial⟩)) <| ov [504, 501] (op_pick_t hb57 q0 q1) <| ov [500] (op_assign q0) .nil) fun _ a w h => ?_
                      exact ⟨r46.1, r46.2, hF, h.sub [0, 1, 2] (by rfl)⟩
                    · replace hF := ff_of hb57 hF
                      refine reg mixed hn hG h [500, 9, 10] (oc [] [] Tryd.call25 (law10_awake_ok hr44) trivial <| ov [500] (op_move q0) <| oe [500, 3] [] (GOk.on_eq hb52 rfl rfl rfl (op_move q0)) <| oe [501, 500] [] (GOk.on_eq hb52 rfl rfl rfl (op_bin bin_eql q0 qi)) <| ov [502, 500] (op_pick_t hb52 q0 q1) <| ov [500] (op_move q0) <| oe [500, 4] [] (GOk.on_eq hb53 rfl rfl rfl (op_move q0)) <| oe [501, 5] [] (GOk.on_eq hb53 rfl rfl rfl (op_move q0)) <| oe [502, 500] [] (GOk.on_eq hb53 rfl rfl rfl (op_move q0)) <| oe [500, 6] [] (GOk.on_eq hb54 rfl rfl rfl (op_move q0)) <| oe [504, 501, 500] [] (GOk.on_eq hb53 rfl rfl rfl (op_pick_f hb54 q0 q1)) <| oe [505, 500] [] (GOk.on_eq hb53 rfl rfl rfl (op_move q0)) <| oe [500] [] (GOk.off_v (want := false) hb56 rfl rfl rfl rfl) <| oe [501] [] (GOk.off_v (want := false) hb56 rfl rfl rfl rfl) <| oe [500] [] (GOk.off_u rfl rfl rfl rfl) <| oe [501] [] (GOk.off_u rfl rfl rfl rfl) <| oe [504] [] (GOk.off_v (want := false) hb56 rfl rfl rfl rfl) <| oe [511, 505] [] (GOk.on_eq hb53 rfl rfl rfl (op_pick_t hb56 q0 qb)) <| oe [512, 511, 500] [] (GOk.on_eq hb53 rfl rfl rfl (op_bin (bin_beql Tryd.underlying4) q0 q1)) <| ov [513, 500] (op_pick_t hb53 q0 q1) <| ov [500] (op_move q0) <| oe [500] [] (GOk.off_v (want := true) hb57 rfl rfl rfl rfl) <| oe [501] [] (GOk.off_v (want := true) hb57 rfl rfl rfl rfl) <| oe [502] [] (GOk.off_v (want := true) hb57 rfl rfl rfl rfl) <| ov [503] (op_pick_f hb57 q0 qb) <| ov [500] (op_assign q0) .nil) fun _ a w h => ?_
                      exact ⟨false, r18.2, hF, h.sub [0, 2, 1] (by rfl)⟩
                  · replace hF := ff_of hb56 hF
                    rcases Bool.eq_false_or_eq_true r18.1 with hb58 | hb58
                    · replace hF := tt_of hb58 hF
                      obtain ⟨r47, hr47, hF⟩ := bind_some hF
                      rcases Bool.eq_false_or_eq_true (r18.1 == r47) with hb59 | hb59
                      · replace hF := tt_of hb59 hF
                        obtain ⟨r48, hr48, hF⟩ := bind_some hF
                        refine reg mixed hn hG h [500, 511, 502] (oc [] [] Tryd.call25 (law10_awake_ok hr44) trivial <| ov [500] (op_move q0) <| oe [500, 3] [] (GOk.on_eq hb52 rfl rfl rfl (op_move q0)) <| oe [501, 500] [] (GOk.on_eq hb52 rfl rfl rfl (op_bin bin_eql q0 qi)) <| ov [502, 500] (op_pick_t hb52 q0 q1) <| ov [500] (op_move q0) <| oe [500, 4] [] (GOk.on_eq hb53 rfl rfl rfl (op_move q0)) <| oe [501, 5] [] (GOk.on_eq hb53 rfl rfl rfl (op_move q0)) <| oe [502, 500] [] (GOk.on_eq hb53 rfl rfl rfl (op_move q0)) <| oe [500, 6] [] (GOk.on_eq hb54 rfl rfl rfl (op_move q0)) <| oe [504, 501, 500] [] (GOk.on_eq hb53 rfl rfl rfl (op_pick_f hb54 q0 q1)) <| oe [505, 500] [] (GOk.on_eq hb53 rfl rfl rfl (op_move q0)) <| oe [500, 4] [] (GOk.on_eq hb56 rfl rfl rfl (op_move q0)) <| oe [501, 500] [] (GOk.on_eq hb56 rfl rfl rfl (op_move q0)) <| oe [500, 0] [] (GOk.on_eq hb58 rfl rfl rfl (op_move q0)) <| oe [501, 500] [10] (GOk.on_eq hb58 rfl rfl rfl (op_call Tryd.call23 (ref04_Log_Clash_oke hr47) ⟨q0, trivial⟩)) <| oe [505, 503, 501] [] (GOk.on_eq hb56 rfl rfl rfl (op_pick_t hb58 q0 q1)) <| oe [512, 506, 500] [] (GOk.on_eq hb53 rfl rfl rfl (op_pick_f hb56 q0 q1)) <| oe [513, 512, 500] [] (GOk.on_eq hb53 rfl rfl rfl (op_bin (bin_beql Tryd.underlying4) q0 q1)) <| ov [514, 500] (op_pick_t hb53 q0 q1) <| ov [500] (op_move q0) <| oe [500, 1, 7] [] (GOk.on_eq hb59 rfl rfl rfl (op_load_w 1 Tryd.isAgg23 Tryd.sizeOf23 q0)) <| oe [501, 2, 8] [] (GOk.on_eq hb59 rfl rfl rfl (op_load_w 1 Tryd.isAgg53 Tryd.sizeOf53 q0)) <| oe [502, 501, 500] [9] (GOk.on_eq hb59 rfl rfl rfl (op_call Tryd.call27 (update_Right_ok hr48) ⟨(opc (ec _)), q0, q1, trivial⟩)) <| ov [504, 501] (op_pick_t hb59 q0 q1) <| ov [500] (op_assign q0) .nil) fun _ a w h => ?_
                        exact ⟨r48.1, r48.2, hF, h.sub [0, 1, 2] (by rfl)⟩
                      · replace hF := ff_of hb59 hF
                        refine reg mixed hn hG h [500, 9, 510] (oc [] [] Tryd.call25 (law10_awake_ok hr44) trivial <| ov [500] (op_move q0) <| oe [500, 3] [] (GOk.on_eq hb52 rfl rfl rfl (op_move q0)) <| oe [501, 500] [] (GOk.on_eq hb52 rfl rfl rfl (op_bin bin_eql q0 qi)) <| ov [502, 500] (op_pick_t hb52 q0 q1) <| ov [500] (op_move q0) <| oe [500, 4] [] (GOk.on_eq hb53 rfl rfl rfl (op_move q0)) <| oe [501, 5] [] (GOk.on_eq hb53 rfl rfl rfl (op_move q0)) <| oe [502, 500] [] (GOk.on_eq hb53 rfl rfl rfl (op_move q0)) <| oe [500, 6] [] (GOk.on_eq hb54 rfl rfl rfl (op_move q0)) <| oe [504, 501, 500] [] (GOk.on_eq hb53 rfl rfl rfl (op_pick_f hb54 q0 q1)) <| oe [505, 500] [] (GOk.on_eq hb53 rfl rfl rfl (op_move q0)) <| oe [500, 4] [] (GOk.on_eq hb56 rfl rfl rfl (op_move q0)) <| oe [501, 500] [] (GOk.on_eq hb56 rfl rfl rfl (op_move q0)) <| oe [500, 0] [] (GOk.on_eq hb58 rfl rfl rfl (op_move q0)) <| oe [501, 500] [10] (GOk.on_eq hb58 rfl rfl rfl (op_call Tryd.call23 (ref04_Log_Clash_oke hr47) ⟨q0, trivial⟩)) <| oe [505, 503, 501] [] (GOk.on_eq hb56 rfl rfl rfl (op_pick_t hb58 q0 q1)) <| oe [512, 506, 500] [] (GOk.on_eq hb53 rfl rfl rfl (op_pick_f hb56 q0 q1)) <| oe [513, 512, 500] [] (GOk.on_eq hb53 rfl rfl rfl (op_bin (bin_beql Tryd.underlying4) q0 q1)) <| ov [514, 500] (op_pick_t hb53 q0 q1) <| ov [500] (op_move q0) <| oe [500] [] (GOk.off_v (want := true) hb59 rfl rfl rfl rfl) <| oe [501] [] (GOk.off_v (want := true) hb59 rfl rfl rfl rfl) <| oe [502] [] (GOk.off_v (want := true) hb59 rfl rfl rfl rfl) <| ov [503] (op_pick_f hb59 q0 qb) <| ov [500] (op_assign q0) .nil) fun _ a w h => ?_
                        exact ⟨false, r18.2, hF, h.sub [0, 2, 1] (by rfl)⟩
                    · replace hF := ff_of hb58 hF
                      rcases Bool.eq_false_or_eq_true (r18.1 == false) with hb60 | hb60
                      · replace hF := tt_of hb60 hF
                        obtain ⟨r49, hr49, hF⟩ := bind_some hF
                        refine reg mixed hn hG h [500, 10, 502] (oc [] [] Tryd.call25 (law10_awake_ok hr44) trivial <| ov [500] (op_move q0) <| oe [500, 3] [] (GOk.on_eq hb52 rfl rfl rfl (op_move q0)) <| oe [501, 500] [] (GOk.on_eq hb52 rfl rfl rfl (op_bin bin_eql q0 qi)) <| ov [502, 500] (op_pick_t hb52 q0 q1) <| ov [500] (op_move q0) <| oe [500, 4] [] (GOk.on_eq hb53 rfl rfl rfl (op_move q0)) <| oe [501, 5] [] (GOk.on_eq hb53 rfl rfl rfl (op_move q0)) <| oe [502, 500] [] (GOk.on_eq hb53 rfl rfl rfl (op_move q0)) <| oe [500, 6] [] (GOk.on_eq hb54 rfl rfl rfl (op_move q0)) <| oe [504, 501, 500] [] (GOk.on_eq hb53 rfl rfl rfl (op_pick_f hb54 q0 q1)) <| oe [505, 500] [] (GOk.on_eq hb53 rfl rfl rfl (op_move q0)) <| oe [500, 4] [] (GOk.on_eq hb56 rfl rfl rfl (op_move q0)) <| oe [501, 500] [] (GOk.on_eq hb56 rfl rfl rfl (op_move q0)) <| oe [500] [] (GOk.off_v (want := true) hb58 rfl rfl rfl rfl) <| oe [501] [] (GOk.off_v (want := true) hb58 rfl rfl rfl rfl) <| oe [504, 502] [] (GOk.on_eq hb56 rfl rfl rfl (op_pick_f hb58 q0 qb)) <| oe [511, 505, 500] [] (GOk.on_eq hb53 rfl rfl rfl (op_pick_f hb56 q0 q1)) <| oe [512, 511, 500] [] (GOk.on_eq hb53 rfl rfl rfl (op_bin (bin_beql Tryd.underlying4) q0 q1)) <| ov [513, 500] (op_pick_t hb53 q0 q1) <| ov [500] (op_move q0) <| oe [500, 1, 7] [] (GOk.on_eq hb60 rfl rfl rfl (op_load_w 1 Tryd.isAgg23 Tryd.sizeOf23 q0)) <| oe [501, 2, 8] [] (GOk.on_eq hb60 rfl rfl rfl (op_load_w 1 Tryd.isAgg53 Tryd.sizeOf53 q0)) <| oe [502, 501, 500] [9] (GOk.on_eq hb60 rfl rfl rfl (op_call Tryd.call27 (update_Right_ok hr49) ⟨(opc (ec _)), q0, q1, trivial⟩)) <| ov [504, 501] (op_pick_t hb60 q0 q1) <| ov [500] (op_assign q0) .nil) fun _ a w h => ?_
                        exact ⟨r49.1, r49.2, hF, h.sub [0, 1, 2] (by rfl)⟩
                      · replace hF := ff_of hb60 hF
                        refine reg mixed hn hG h [500, 9, 10] (oc [] [] Tryd.call25 (law10_awake_ok hr44) trivial <| ov [500] (op_move q0) <| oe [500, 3] [] (GOk.on_eq hb52 rfl rfl rfl (op_move q0)) <| oe [501, 500] [] (GOk.on_eq hb52 rfl rfl rfl (op_bin bin_eql q0 qi)) <| ov [502, 500] (op_pick_t hb52 q0 q1) <| ov [500] (op_move q0) <| oe [500, 4] [] (GOk.on_eq hb53 rfl rfl rfl (op_move q0)) <| oe [501, 5] [] (GOk.on_eq hb53 rfl rfl rfl (op_move q0)) <| oe [502, 500] [] (GOk.on_eq hb53 rfl rfl rfl (op_move q0)) <| oe [500, 6] [] (GOk.on_eq hb54 rfl rfl rfl (op_move q0)) <| oe [504, 501, 500] [] (GOk.on_eq hb53 rfl rfl rfl (op_pick_f hb54 q0 q1)) <| oe [505, 500] [] (GOk.on_eq hb53 rfl rfl rfl (op_move q0)) <| oe [500, 4] [] (GOk.on_eq hb56 rfl rfl rfl (op_move q0)) <| oe [501, 500] [] (GOk.on_eq hb56 rfl rfl rfl (op_move q0)) <| oe [500] [] (GOk.off_v (want := true) hb58 rfl rfl rfl rfl) <| oe [501] [] (GOk.off_v (want := true) hb58 rfl rfl rfl rfl) <| oe [504, 502] [] (GOk.on_eq hb56 rfl rfl rfl (op_pick_f hb58 q0 qb)) <| oe [511, 505, 500] [] (GOk.on_eq hb53 rfl rfl rfl (op_pick_f hb56 q0 q1)) <| oe [512, 511, 500] [] (GOk.on_eq hb53 rfl rfl rfl (op_bin (bin_beql Tryd.underlying4) q0 q1)) <| ov [513, 500] (op_pick_t hb53 q0 q1) <| ov [500] (op_move q0) <| oe [500] [] (GOk.off_v (want := true) hb60 rfl rfl rfl rfl) <| oe [501] [] (GOk.off_v (want := true) hb60 rfl rfl rfl rfl) <| oe [502] [] (GOk.off_v (want := true) hb60 rfl rfl rfl rfl) <| ov [503] (op_pick_f hb60 q0 qb) <| ov [500] (op_assign q0) .nil) fun _ a w h => ?_
                        exact ⟨false, r18.2, hF, h.sub [0, 2, 1] (by rfl)⟩
              · replace hF := ff_of hb53 hF
                refine reg mixed hn hG h [500, 9, 10] (oc [] [] Tryd.call25 (law10_awake_ok hr44) trivial <| ov [500] (op_move q0) <| oe [500, 3] [] (GOk.on_eq hb52 rfl rfl rfl (op_move q0)) <| oe [501, 500] [] (GOk.on_eq hb52 rfl rfl rfl (op_bin bin_eql q0 qi)) <| ov [502, 500] (op_pick_t hb52 q0 q1) <| ov [500] (op_move q0) <| oe [500] [] (GOk.off_v (want := true) hb53 rfl rfl rfl rfl) <| oe [501] [] (GOk.off_v (want := true) hb53 rfl rfl rfl rfl) <| oe [502] [] (GOk.off_v (want := true) hb53 rfl rfl rfl rfl) <| oe [500] [] (GOk.off_u rfl rfl rfl rfl) <| oe [504] [] (GOk.off_v (want := true) hb53 rfl rfl rfl rfl) <| oe [505] [] (GOk.off_v (want := true) hb53 rfl rfl rfl rfl) <| oe [500] [] (GOk.off_u rfl rfl rfl rfl) <| oe [501] [] (GOk.off_u rfl rfl rfl rfl) <| oe [500] [] (GOk.off_u rfl rfl rfl rfl) <| oe [501] [] (GOk.off_u rfl rfl rfl rfl) <| oe [504] [] (GOk.off_u rfl rfl rfl rfl) <| oe [511] [] (GOk.off_v (want := true) hb53 rfl rfl rfl rfl) <| oe [512] [] (GOk.off_v (want := true) hb53 rfl rfl rfl rfl) <| ov [513] (op_pick_f hb53 q0 qb) <| ov [500] (op_move q0) <| oe [500] [] (GOk.off_v (want := true) rfl rfl rfl rfl rfl) <| oe [501] [] (GOk.off_v (want := true) rfl rfl rfl rfl rfl) <| oe [502] [] (GOk.off_v (want := true) rfl rfl rfl rfl rfl) <| ov [503] (op_pick_f rfl q0 qb) <| ov [500] (op_assign q0) .nil) fun _ a w h => ?_
                exact ⟨false, r18.2, hF, h.sub [0, 2, 1] (by rfl)⟩
            · replace hF := ff_of hb52 hF
              refine reg mixed hn hG h [500, 9, 10] (oc [] [] Tryd.call25 (law10_awake_ok hr44) trivial <| ov [500] (op_move q0) <| oe [500] [] (GOk.off_v (want := true) hb52 rfl rfl rfl rfl) <| oe [501] [] (GOk.off_v (want := true) hb52 rfl rfl rfl rfl) <| ov [502] (op_pick_f hb52 q0 qb) <| ov [500] (op_move q0) <| oe [500] [] (GOk.off_v (want := true) rfl rfl rfl rfl rfl) <| oe [501] [] (GOk.off_v (want := true) rfl rfl rfl rfl rfl) <| oe [502] [] (GOk.off_v (want := true) rfl rfl rfl rfl rfl) <| oe [500] [] (GOk.off_u rfl rfl rfl rfl) <| oe [504] [] (GOk.off_v (want := true) rfl rfl rfl rfl rfl) <| oe [505] [] (GOk.off_v (want := true) rfl rfl rfl rfl rfl) <| oe [500] [] (GOk.off_u rfl rfl rfl rfl) <| oe [501] [] (GOk.off_u rfl rfl rfl rfl) <| oe [500] [] (GOk.off_u rfl rfl rfl rfl) <| oe [501] [] (GOk.off_u rfl rfl rfl rfl) <| oe [504] [] (GOk.off_u rfl rfl rfl rfl) <| oe [511] [] (GOk.off_v (want := true) rfl rfl rfl rfl rfl) <| oe [512] [] (GOk.off_v (want := true) rfl rfl rfl rfl rfl) <| ov [513] (op_pick_f rfl q0 qb) <| ov [500] (op_move q0) <| oe [500] [] (GOk.off_v (want := true) rfl rfl rfl rfl rfl) <| oe [501] [] (GOk.off_v (want := true) rfl rfl rfl rfl rfl) <| oe [502] [] (GOk.off_v (want := true) rfl rfl rfl rfl rfl) <| ov [503] (op_pick_f rfl q0 qb) <| ov [500] (op_assign q0) .nil) fun _ a w h => ?_
              exact ⟨false, r18.2, hF, h.sub [0, 2, 1] (by rfl)⟩
          · clear h hF
            rintro a w ⟨x50, x51, hF, h⟩
            unfold law10_UpdateBinds.j3 at hF
            show Code.wp Tryd.prog _ _ a w
            refine wp_ret ?_
            obtain rfl := Option.some.inj hF
            exact ⟨.inl rfl, ret1 h Tryd.results6 (r_tmp 0 rfl) [] [] rfl rfl rfl⟩
end Go.Proofs.YtamnmljgcmbliaaDoor
