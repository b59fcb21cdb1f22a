/- The functions' Lean twins and contracts, printed by this session's own program: part 6. -/
import Derived.Test.YtamnmljgcmbliaaDoorG5
namespace Go.Proofs.YtamnmljgcmbliaaDoor
open Go Go.RowKit Go.Proofs
set_option maxRecDepth 100000
set_option linter.unusedVariables false
def law10_UpdateDigests.j1 (x8 : Bool) (x9 : Option O_Log) (x10 : Option O_RLog) : Option Bool := some x8
def law10_UpdateDigests (a_0 : Int) (a_1 : List UInt8) (a_2 : List UInt8) (a_3 : Int) : Option Bool := ((law10_awake).bind fun r3 => (if r3 = true then ((update_Claim none a_0 a_1 a_2).bind fun r4 => ((ref10_Claim none a_0 a_1 a_2).bind fun r5 => (if (decide (r4.1 = r5.1)) = true then ((update_Halt r4.2 a_0 a_1 a_3).bind fun r6 => ((ref10_Halt r5.2 a_0 a_1 a_3).bind fun r7 => law10_UpdateDigests.j1 (decide (r6.1 = r7.1)) r6.2 r7.2)) else law10_UpdateDigests.j1 false r4.2 r5.2))) else law10_UpdateDigests.j1 false none none))
theorem law10_UpdateDigests_ok {a_0 : Int} {a_1 : List UInt8} {a_2 : List UInt8} {a_3 : Int} {r : Bool} (hF : law10_UpdateDigests a_0 a_1 a_2 a_3 = some r) : CallOk Tryd.prog KG 7 [(intVP .u32 a_0), (aggVP [bytesCk 32 a_1]), (aggVP [bytesCk 32 a_2]), (intVP .i64 a_3)] [] (fun _ => []) (boolVP r) := by
  refine CallOk.intro 32 Tryd.func7 rfl Tryd.ntmps7 (Nat.le_of_ble_eq_true rfl) ?_
  intro c a w hG hn h
  unfold law10_UpdateDigests at hF
  change SatL c [.slot 0 (intVP .u32 a_0), .slot 1 (aggVP [bytesCk 32 a_1]), .slot 2 (aggVP [bytesCk 32 a_2]), .slot 3 (intVP .i64 a_3)] a w at h
  refine wp_seq ?_
  refine region_do (n := 32) [.slot 5 0 100000 (fun v1_ _ => (lpVP v1_ 0)),
      .res 0 100000 (fun v1_ _ => (lb (v1_) 23 [bytesCk 32 a_1])),
      .slot 6 1 100000 (fun v1_ _ => (lpVP v1_ 0)),
      .res 1 100000 (fun v1_ _ => (lb (v1_) 23 [bytesCk 32 a_2])),
      .slot 8 100000 100000 (fun _ _ => (boolVP false))] [0, 0, 1, 1, 2] [⟨[1], [], [4, 5], [], some 5⟩, ⟨[2], [], [6, 7], [0], some 6⟩, ⟨[], [], [8], [0, 1], some 8⟩] [0, 3, 4, 6, 5, 7] mixed hn hG h (by kernel_rfl) ?_ ?_
  · exact ⟨⟨rfl, fun β => (GOk.plain (op_box (opt 0 rfl) (cells_agg _)) rfl)⟩, ⟨rfl, fun β => (GOk.plain (op_box (opt 0 rfl) (cells_agg _)) rfl)⟩, ⟨rfl, fun β => (GOk.plain (op_assign (opc (bc _))) rfl)⟩, trivial⟩
  clear h
  intro β a w h
  change SatL c [.slot 0 (intVP .u32 a_0), .slot 3 (intVP .i64 a_3), .slot 5 (lpVP (β 0) 0), .slot 6 (lpVP (β 1) 0), .res (lb (β 0) 23 [bytesCk 32 a_1]), .res (lb (β 1) 23 [bytesCk 32 a_2])] a w at h
  generalize β 0 = p1 at h
  generalize β 1 = p2 at h
  clear β
  show Code.wp Tryd.prog _ _ a w
  refine wp_seq ?_
  replace h := h.snoc Log_nil
  replace h := h.sub [0, 1, 2, 3, 4, 5, 6] (by rfl)
  change SatL c [.slot 0 (intVP .u32 a_0), .slot 3 (intVP .i64 a_3), .slot 5 (lpVP p1 0), .slot 6 (lpVP p2 0), .res (lb p1 23 [bytesCk 32 a_1]), .res (lb p2 23 [bytesCk 32 a_2]), .res (Log_e (.pointer none) none)] a w at h
  replace h := h.snoc RLog_nil
  replace h := h.sub [0, 1, 2, 3, 4, 5, 6, 7] (by rfl)
  change SatL c [.slot 0 (intVP .u32 a_0), .slot 3 (intVP .i64 a_3), .slot 5 (lpVP p1 0), .slot 6 (lpVP p2 0), .res (lb p1 23 [bytesCk 32 a_1]), .res (lb p2 23 [bytesCk 32 a_2]), .res (Log_e (.pointer none) none), .res (RLog_e (Value.pointer none) none)] a w at h
  obtain ⟨r3, hr3, hF⟩ := bind_some hF
  refine wp_cut (fun a w => ∃ (x8 : Bool), ∃ (x9 : Option O_Log), ∃ (x10 : Option O_RLog), law10_UpdateDigests.j1 x8 x9 x10 = some r ∧ SatL c [.slot 8 (boolVP x8), .res (Log_e (.pointer none) x9), .res (RLog_e (Value.pointer none) x10)] a w) ?_ ?_
  · rcases Bool.eq_false_or_eq_true r3 with hb11 | hb11
    · replace hF := tt_of hb11 hF
      obtain ⟨r4, hr4, hF⟩ := bind_some hF
      obtain ⟨r5, hr5, hF⟩ := bind_some hF
      rcases Bool.eq_false_or_eq_true (decide (r4.1 = r5.1)) with hb12 | hb12
      · replace hF := tt_of hb12 hF
        obtain ⟨r6, hr6, hF⟩ := bind_some hF
        obtain ⟨r7, hr7, hF⟩ := bind_some hF
        refine region_do (n := 32) [.slot 9 100000 100000 (fun _ _ => (boolVP r3)),
      .slot 10 100000 100000 (fun _ _ => (boolVP r3)),
      .slot 11 100000 100000 (fun _ _ => (intVP .u32 a_0)),
      .slot 12 100000 100000 (fun _ _ => (aggVP [bytesCk 32 a_1])),
      .slot 13 100000 100000 (fun _ _ => (aggVP [bytesCk 32 a_2])),
      .slot 14 100000 100000 (fun _ _ => (aggVP [bytesCk 32 r4.1])),
      .res 100000 100000 (fun _ _ => (Log_e (.pointer none) r4.2)),
      .slot 15 100000 100000 (fun _ _ => (intVP .u32 a_0)),
      .slot 16 100000 100000 (fun _ _ => (aggVP [bytesCk 32 a_1])),
      .slot 17 100000 100000 (fun _ _ => (aggVP [bytesCk 32 a_2])),
      .slot 18 100000 100000 (fun _ _ => (aggVP [bytesCk 32 r5.1])),
      .res 100000 100000 (fun _ _ => (RLog_e (Value.pointer none) r5.2)),
      .slot 19 100000 100000 (fun _ _ => (boolVP (decide (r4.1 = r5.1)))),
      .slot 20 100000 100000 (fun _ _ => (boolVP (decide (r4.1 = r5.1)))),
      .slot 21 100000 100000 (fun _ _ => (boolVP (decide (r4.1 = r5.1)))),
      .slot 22 100000 100000 (fun _ _ => (intVP .u32 a_0)),
      .slot 23 100000 100000 (fun _ _ => (aggVP [bytesCk 32 a_1])),
      .slot 24 100000 100000 (fun _ _ => (intVP .i64 a_3)),
      .slot 25 100000 100000 (fun _ _ => (aggVP [bytesCk 32 r6.1])),
      .res 100000 100000 (fun _ _ => (Log_e (.pointer none) r6.2)),
      .slot 26 100000 100000 (fun _ _ => (intVP .u32 a_0)),
      .slot 27 100000 100000 (fun _ _ => (aggVP [bytesCk 32 a_1])),
      .slot 28 100000 100000 (fun _ _ => (intVP .i64 a_3)),
      .slot 29 100000 100000 (fun _ _ => (aggVP [bytesCk 32 r7.1])),
      .res 100000 100000 (fun _ _ => (RLog_e (Value.pointer none) r7.2)),
      .slot 30 100000 100000 (fun _ _ => (boolVP (decide (r6.1 = r7.1)))),
      .slot 31 100000 100000 (fun _ _ => (boolVP (decide (r6.1 = r7.1)))),
      .slot 8 100000 100000 (fun _ _ => (boolVP (decide (r6.1 = r7.1))))] [0, 1, 2, 3, 4, 5, 5, 6, 7, 8, 9, 9, 10, 11, 12, 13, 14, 15, 16, 16, 17, 18, 19, 20, 20, 21, 22, 23] [⟨[], [], [8], [], some 9⟩, ⟨[8], [], [9], [0], some 10⟩, ⟨[9, 0], [], [10], [0, 1], some 11⟩, ⟨[9, 2, 4], [], [11], [0, 1], some 12⟩, ⟨[9, 3, 5], [], [12], [0, 1], some 13⟩, ⟨[9, 10, 11, 12], [6], [13, 14], [0, 1, 2, 3, 4], some 14⟩, ⟨[9, 0], [], [15], [0, 1], some 15⟩, ⟨[9, 2, 4], [], [16], [0, 1], some 16⟩, ⟨[9, 3, 5], [], [17], [0, 1], some 17⟩, ⟨[9, 15, 16, 17], [7], [18, 19], [0, 1, 2, 3, 4, 5, 6, 7, 8], some 18⟩, ⟨[9, 13, 18], [], [20], [0, 1, 2, 3, 4, 5, 6, 7, 8, 9], some 19⟩, ⟨[9, 20], [], [21], [0, 1, 2, 3, 4, 5, 6, 7, 8, 9, 10], some 20⟩, ⟨[21], [], [22], [0, 1, 2, 3, 4, 5, 6, 7, 8, 9, 10, 11], some 21⟩, ⟨[22, 0], [], [23], [0, 1, 2, 3, 4, 5, 6, 7, 8, 9, 10, 11, 12], some 22⟩, ⟨[22, 2, 4], [], [24], [0, 1, 2, 3, 4, 5, 6, 7, 8, 9, 10, 11, 12], some 23⟩, ⟨[22, 1], [], [25], [0, 1, 2, 3, 4, 5, 6, 7, 8, 9, 10, 11, 12], some 24⟩, ⟨[22, 23, 24, 25], [14], [26, 27], [0, 1, 2, 3, 4, 5, 6, 7, 8, 9, 10, 11, 12, 13, 14, 15], some 25⟩, ⟨[22, 0], [], [28], [0, 1, 2, 3, 4, 5, 6, 7, 8, 9, 10, 11, 12], some 26⟩, ⟨[22, 2, 4], [], [29], [0, 1, 2, 3, 4, 5, 6, 7, 8, 9, 10, 11, 12], some 27⟩, ⟨[22, 1], [], [30], [0, 1, 2, 3, 4, 5, 6, 7, 8, 9, 10, 11, 12], some 28⟩, ⟨[22, 28, 29, 30], [19], [31, 32], [0, 1, 2, 3, 4, 5, 6, 7, 8, 9, 10, 11, 12, 13, 14, 15, 16, 17, 18, 19], some 29⟩, ⟨[22, 26, 31], [], [33], [0, 1, 2, 3, 4, 5, 6, 7, 8, 9, 10, 11, 12, 13, 14, 15, 16, 17, 18, 19, 20], some 30⟩, ⟨[22, 33], [], [34], [0, 1, 2, 3, 4, 5, 6, 7, 8, 9, 10, 11, 12, 13, 14, 15, 16, 17, 18, 19, 20, 21], some 31⟩, ⟨[34], [], [35], [0, 1, 2, 3, 4, 5, 6, 7, 8, 9, 10, 11, 12, 13, 14, 15, 16, 17, 18, 19, 20, 21, 22], some 8⟩] [35, 27, 32] mixed hn hG h (by kernel_rfl) ?_ ?_
        · exact ⟨⟨rfl, fun β => (GOk.plain (op_call Tryd.call25 (law10_awake_ok hr3) trivial) rfl)⟩, ⟨rfl, fun β => (GOk.plain (op_move (opt 0 rfl)) rfl)⟩, ⟨rfl, fun β => (GOk.on_eq hb11 rfl rfl rfl (op_move (opt 0 rfl)))⟩, ⟨rfl, fun β => (GOk.on_eq hb11 rfl rfl rfl (op_load_lb [] [bytesCk 32 a_1] [] 1 Tryd.isAgg23 Tryd.sizeOf23 (opt 0 rfl) rfl rfl rfl))⟩, ⟨rfl, fun β => (GOk.on_eq hb11 rfl rfl rfl (op_load_lb [] [bytesCk 32 a_2] [] 1 Tryd.isAgg23 Tryd.sizeOf23 (opt 0 rfl) rfl rfl rfl))⟩, ⟨rfl, fun β => (GOk.on_eq hb11 rfl rfl rfl (op_call Tryd.call30 (update_Claim_ok hr4) ⟨(opc (ec _)), (opt 0 rfl), (opt 1 rfl), (opt 2 rfl), trivial⟩))⟩, ⟨rfl, fun β => (GOk.on_eq hb11 rfl rfl rfl (op_move (opt 0 rfl)))⟩, ⟨rfl, fun β => (GOk.on_eq hb11 rfl rfl rfl (op_load_lb [] [bytesCk 32 a_1] [] 1 Tryd.isAgg23 Tryd.sizeOf23 (opt 0 rfl) rfl rfl rfl))⟩, ⟨rfl, fun β => (GOk.on_eq hb11 rfl rfl rfl (op_load_lb [] [bytesCk 32 a_2] [] 1 Tryd.isAgg23 Tryd.sizeOf23 (opt 0 rfl) rfl rfl rfl))⟩, ⟨rfl, fun β => (GOk.on_eq hb11 rfl rfl rfl (op_call Tryd.call28 (ref10_Claim_ok hr5) ⟨(opc (ec _)), (opt 0 rfl), (opt 1 rfl), (opt 2 rfl), trivial⟩))⟩, ⟨rfl, fun β => (GOk.on_eq hb11 rfl rfl rfl (op_bin (bin_aeql Tryd.underlying23 Tryd.underlying5 Tryd.type5 Tryd.sizeOf5 Tryd.isAgg5 Tryd.eqGuardType23) (opt 0 rfl) (opt 1 rfl)))⟩, ⟨rfl, fun β => (GOk.plain (op_pick_t hb11 (opt 0 rfl) (opt 1 rfl)) rfl)⟩, ⟨rfl, fun β => (GOk.plain (op_move (opt 0 rfl)) rfl)⟩, ⟨rfl, fun β => (GOk.on_eq hb12 rfl rfl rfl (op_move (opt 0 rfl)))⟩, ⟨rfl, fun β => (GOk.on_eq hb12 rfl rfl rfl (op_load_lb [] [bytesCk 32 a_1] [] 1 Tryd.isAgg23 Tryd.sizeOf23 (opt 0 rfl) rfl rfl rfl))⟩, ⟨rfl, fun β => (GOk.on_eq hb12 rfl rfl rfl (op_move (opt 0 rfl)))⟩, ⟨rfl, fun β => (GOk.on_eq hb12 rfl rfl rfl (op_call Tryd.call31 (update_Halt_ok hr6) ⟨(opc (ec _)), (opt 0 rfl), (opt 1 rfl), (opt 2 rfl), trivial⟩))⟩, ⟨rfl, fun β => (GOk.on_eq hb12 rfl rfl rfl (op_move (opt 0 rfl)))⟩, ⟨rfl, fun β => (GOk.on_eq hb12 rfl rfl rfl (op_load_lb [] [bytesCk 32 a_1] [] 1 Tryd.isAgg23 Tryd.sizeOf23 (opt 0 rfl) rfl rfl rfl))⟩, ⟨rfl, fun β => (GOk.on_eq hb12 rfl rfl rfl (op_move (opt 0 rfl)))⟩, ⟨rfl, fun β => (GOk.on_eq hb12 rfl rfl rfl (op_call Tryd.call32 (ref10_Halt_ok hr7) ⟨(opc (ec _)), (opt 0 rfl), (opt 1 rfl), (opt 2 rfl), trivial⟩))⟩, ⟨rfl, fun β => (GOk.on_eq hb12 rfl rfl rfl (op_bin (bin_aeql Tryd.underlying23 Tryd.underlying5 Tryd.type5 Tryd.sizeOf5 Tryd.isAgg5 Tryd.eqGuardType23) (opt 0 rfl) (opt 1 rfl)))⟩, ⟨rfl, fun β => (GOk.plain (op_pick_t hb12 (opt 0 rfl) (opt 1 rfl)) rfl)⟩, ⟨rfl, fun β => (GOk.plain (op_assign (opt 0 rfl)) rfl)⟩, trivial⟩
        clear h
        intro β a w h
        change SatL c [.slot 8 (boolVP (decide (r6.1 = r7.1))), .res (Log_e (.pointer none) r6.2), .res (RLog_e (Value.pointer none) r7.2)] a w at h
        clear β
        exact ⟨decide (r6.1 = r7.1), r6.2, r7.2, hF, h.sub [0, 1, 2] (by rfl)⟩
      · replace hF := ff_of hb12 hF
        refine region_do (n := 32) [.slot 9 100000 100000 (fun _ _ => (boolVP r3)),
      .slot 10 100000 100000 (fun _ _ => (boolVP r3)),
      .slot 11 100000 100000 (fun _ _ => (intVP .u32 a_0)),
      .slot 12 100000 100000 (fun _ _ => (aggVP [bytesCk 32 a_1])),
      .slot 13 100000 100000 (fun _ _ => (aggVP [bytesCk 32 a_2])),
      .slot 14 100000 100000 (fun _ _ => (aggVP [bytesCk 32 r4.1])),
      .res 100000 100000 (fun _ _ => (Log_e (.pointer none) r4.2)),
      .slot 15 100000 100000 (fun _ _ => (intVP .u32 a_0)),
      .slot 16 100000 100000 (fun _ _ => (aggVP [bytesCk 32 a_1])),
      .slot 17 100000 100000 (fun _ _ => (aggVP [bytesCk 32 a_2])),
      .slot 18 100000 100000 (fun _ _ => (aggVP [bytesCk 32 r5.1])),
      .res 100000 100000 (fun _ _ => (RLog_e (Value.pointer none) r5.2)),
      .slot 19 100000 100000 (fun _ _ => (boolVP (decide (r4.1 = r5.1)))),
      .slot 20 100000 100000 (fun _ _ => (boolVP (decide (r4.1 = r5.1)))),
      .slot 21 100000 100000 (fun _ _ => (boolVP (decide (r4.1 = r5.1)))),
      .slot 22 100000 100000 (fun _ _ => (eqVP undef)),
      .slot 23 100000 100000 (fun _ _ => (eqVP undef)),
      .slot 24 100000 100000 (fun _ _ => (eqVP undef)),
      .slot 25 100000 100000 (fun _ _ => (eqVP undef)),
      .slot 26 100000 100000 (fun _ _ => (eqVP undef)),
      .slot 27 100000 100000 (fun _ _ => (eqVP undef)),
      .slot 28 100000 100000 (fun _ _ => (eqVP undef)),
      .slot 29 100000 100000 (fun _ _ => (eqVP undef)),
      .slot 30 100000 100000 (fun _ _ => (eqVP undef)),
      .slot 31 100000 100000 (fun _ _ => (boolVP false)),
      .slot 8 100000 100000 (fun _ _ => (boolVP false))] [0, 1, 2, 3, 4, 5, 5, 6, 7, 8, 9, 9, 10, 11, 12, 13, 14, 15, 16, 17, 18, 19, 20, 21, 22, 23] [⟨[], [], [8], [], some 9⟩, ⟨[8], [], [9], [0], some 10⟩, ⟨[9, 0], [], [10], [0, 1], some 11⟩, ⟨[9, 2, 4], [], [11], [0, 1], some 12⟩, ⟨[9, 3, 5], [], [12], [0, 1], some 13⟩, ⟨[9, 10, 11, 12], [6], [13, 14], [0, 1, 2, 3, 4], some 14⟩, ⟨[9, 0], [], [15], [0, 1], some 15⟩, ⟨[9, 2, 4], [], [16], [0, 1], some 16⟩, ⟨[9, 3, 5], [], [17], [0, 1], some 17⟩, ⟨[9, 15, 16, 17], [7], [18, 19], [0, 1, 2, 3, 4, 5, 6, 7, 8], some 18⟩, ⟨[9, 13, 18], [], [20], [0, 1, 2, 3, 4, 5, 6, 7, 8, 9], some 19⟩, ⟨[9, 20], [], [21], [0, 1, 2, 3, 4, 5, 6, 7, 8, 9, 10], some 20⟩, ⟨[21], [], [22], [0, 1, 2, 3, 4, 5, 6, 7, 8, 9, 10, 11], some 21⟩, ⟨[22], [], [23], [0, 1, 2, 3, 4, 5, 6, 7, 8, 9, 10, 11, 12], some 22⟩, ⟨[22], [], [24], [0, 1, 2, 3, 4, 5, 6, 7, 8, 9, 10, 11, 12], some 23⟩, ⟨[22], [], [25], [0, 1, 2, 3, 4, 5, 6, 7, 8, 9, 10, 11, 12], some 24⟩, ⟨[22], [], [26], [0, 1, 2, 3, 4, 5, 6, 7, 8, 9, 10, 11, 12, 13, 14, 15], some 25⟩, ⟨[22], [], [27], [0, 1, 2, 3, 4, 5, 6, 7, 8, 9, 10, 11, 12], some 26⟩, ⟨[22], [], [28], [0, 1, 2, 3, 4, 5, 6, 7, 8, 9, 10, 11, 12], some 27⟩, ⟨[22], [], [29], [0, 1, 2, 3, 4, 5, 6, 7, 8, 9, 10, 11, 12], some 28⟩, ⟨[22], [], [30], [0, 1, 2, 3, 4, 5, 6, 7, 8, 9, 10, 11, 12, 13, 14, 15, 16, 17, 18, 19], some 29⟩, ⟨[22], [], [31], [0, 1, 2, 3, 4, 5, 6, 7, 8, 9, 10, 11, 12, 13, 14, 15, 16, 17, 18, 19, 20], some 30⟩, ⟨[22], [], [32], [0, 1, 2, 3, 4, 5, 6, 7, 8, 9, 10, 11, 12, 13, 14, 15, 16, 17, 18, 19, 20, 21], some 31⟩, ⟨[32], [], [33], [0, 1, 2, 3, 4, 5, 6, 7, 8, 9, 10, 11, 12, 13, 14, 15, 16, 17, 18, 19, 20, 21, 22], some 8⟩] [33, 14, 19] mixed hn hG h (by kernel_rfl) ?_ ?_
        · exact ⟨⟨rfl, fun β => (GOk.plain (op_call Tryd.call25 (law10_awake_ok hr3) trivial) rfl)⟩, ⟨rfl, fun β => (GOk.plain (op_move (opt 0 rfl)) rfl)⟩, ⟨rfl, fun β => (GOk.on_eq hb11 rfl rfl rfl (op_move (opt 0 rfl)))⟩, ⟨rfl, fun β => (GOk.on_eq hb11 rfl rfl rfl (op_load_lb [] [bytesCk 32 a_1] [] 1 Tryd.isAgg23 Tryd.sizeOf23 (opt 0 rfl) rfl rfl rfl))⟩, ⟨rfl, fun β => (GOk.on_eq hb11 rfl rfl rfl (op_load_lb [] [bytesCk 32 a_2] [] 1 Tryd.isAgg23 Tryd.sizeOf23 (opt 0 rfl) rfl rfl rfl))⟩, ⟨rfl, fun β => (GOk.on_eq hb11 rfl rfl rfl (op_call Tryd.call30 (update_Claim_ok hr4) ⟨(opc (ec _)), (opt 0 rfl), (opt 1 rfl), (opt 2 rfl), trivial⟩))⟩, ⟨rfl, fun β => (GOk.on_eq hb11 rfl rfl rfl (op_move (opt 0 rfl)))⟩, ⟨rfl, fun β => (GOk.on_eq hb11 rfl rfl rfl (op_load_lb [] [bytesCk 32 a_1] [] 1 Tryd.isAgg23 Tryd.sizeOf23 (opt 0 rfl) rfl rfl rfl))⟩, ⟨rfl, fun β => (GOk.on_eq hb11 rfl rfl rfl (op_load_lb [] [bytesCk 32 a_2] [] 1 Tryd.isAgg23 Tryd.sizeOf23 (opt 0 rfl) rfl rfl rfl))⟩, ⟨rfl, fun β => (GOk.on_eq hb11 rfl rfl rfl (op_call Tryd.call28 (ref10_Claim_ok hr5) ⟨(opc (ec _)), (opt 0 rfl), (opt 1 rfl), (opt 2 rfl), trivial⟩))⟩, ⟨rfl, fun β => (GOk.on_eq hb11 rfl rfl rfl (op_bin (bin_aeql Tryd.underlying23 Tryd.underlying5 Tryd.type5 Tryd.sizeOf5 Tryd.isAgg5 Tryd.eqGuardType23) (opt 0 rfl) (opt 1 rfl)))⟩, ⟨rfl, fun β => (GOk.plain (op_pick_t hb11 (opt 0 rfl) (opt 1 rfl)) rfl)⟩, ⟨rfl, fun β => (GOk.plain (op_move (opt 0 rfl)) rfl)⟩, ⟨rfl, fun β => (GOk.off_v (want := true) hb12 rfl rfl rfl rfl)⟩, ⟨rfl, fun β => (GOk.off_v (want := true) hb12 rfl rfl rfl rfl)⟩, ⟨rfl, fun β => (GOk.off_v (want := true) hb12 rfl rfl rfl rfl)⟩, ⟨rfl, fun β => (GOk.off_v (want := true) hb12 rfl rfl rfl rfl)⟩, ⟨rfl, fun β => (GOk.off_v (want := true) hb12 rfl rfl rfl rfl)⟩, ⟨rfl, fun β => (GOk.off_v (want := true) hb12 rfl rfl rfl rfl)⟩, ⟨rfl, fun β => (GOk.off_v (want := true) hb12 rfl rfl rfl rfl)⟩, ⟨rfl, fun β => (GOk.off_v (want := true) hb12 rfl rfl rfl rfl)⟩, ⟨rfl, fun β => (GOk.off_v (want := true) hb12 rfl rfl rfl rfl)⟩, ⟨rfl, fun β => (GOk.plain (op_pick_f hb12 (opt 0 rfl) (opc (bc _))) rfl)⟩, ⟨rfl, fun β => (GOk.plain (op_assign (opt 0 rfl)) rfl)⟩, trivial⟩
        clear h
        intro β a w h
        change SatL c [.slot 8 (boolVP false), .res (Log_e (.pointer none) r4.2), .res (RLog_e (Value.pointer none) r5.2)] a w at h
        clear β
        exact ⟨false, r4.2, r5.2, hF, h.sub [0, 1, 2] (by rfl)⟩
    · replace hF := ff_of hb11 hF
      refine region_do (n := 32) [.slot 9 100000 100000 (fun _ _ => (boolVP r3)),
      .slot 10 100000 100000 (fun _ _ => (boolVP r3)),
      .slot 11 100000 100000 (fun _ _ => (eqVP undef)),
      .slot 12 100000 100000 (fun _ _ => (eqVP undef)),
      .slot 13 100000 100000 (fun _ _ => (eqVP undef)),
      .slot 14 100000 100000 (fun _ _ => (eqVP undef)),
      .slot 15 100000 100000 (fun _ _ => (eqVP undef)),
      .slot 16 100000 100000 (fun _ _ => (eqVP undef)),
      .slot 17 100000 100000 (fun _ _ => (eqVP undef)),
      .slot 18 100000 100000 (fun _ _ => (eqVP undef)),
      .slot 19 100000 100000 (fun _ _ => (eqVP undef)),
      .slot 20 100000 100000 (fun _ _ => (boolVP false)),
      .slot 21 100000 100000 (fun _ _ => (boolVP false)),
      .slot 22 100000 100000 (fun _ _ => (eqVP undef)),
      .slot 23 100000 100000 (fun _ _ => (eqVP undef)),
      .slot 24 100000 100000 (fun _ _ => (eqVP undef)),
      .slot 25 100000 100000 (fun _ _ => (eqVP undef)),
      .slot 26 100000 100000 (fun _ _ => (eqVP undef)),
      .slot 27 100000 100000 (fun _ _ => (eqVP undef)),
      .slot 28 100000 100000 (fun _ _ => (eqVP undef)),
      .slot 29 100000 100000 (fun _ _ => (eqVP undef)),
      .slot 30 100000 100000 (fun _ _ => (eqVP undef)),
      .slot 31 100000 100000 (fun _ _ => (boolVP false)),
      .slot 8 100000 100000 (fun _ _ => (boolVP false))] [0, 1, 2, 3, 4, 5, 6, 7, 8, 9, 10, 11, 12, 13, 14, 15, 16, 17, 18, 19, 20, 21, 22, 23] [⟨[], [], [8], [], some 9⟩, ⟨[8], [], [9], [0], some 10⟩, ⟨[9], [], [10], [0, 1], some 11⟩, ⟨[9], [], [11], [0, 1], some 12⟩, ⟨[9], [], [12], [0, 1], some 13⟩, ⟨[9], [], [13], [0, 1, 2, 3, 4], some 14⟩, ⟨[9], [], [14], [0, 1], some 15⟩, ⟨[9], [], [15], [0, 1], some 16⟩, ⟨[9], [], [16], [0, 1], some 17⟩, ⟨[9], [], [17], [0, 1, 2, 3, 4, 5, 6, 7, 8], some 18⟩, ⟨[9], [], [18], [0, 1, 2, 3, 4, 5, 6, 7, 8, 9], some 19⟩, ⟨[9], [], [19], [0, 1, 2, 3, 4, 5, 6, 7, 8, 9, 10], some 20⟩, ⟨[19], [], [20], [0, 1, 2, 3, 4, 5, 6, 7, 8, 9, 10, 11], some 21⟩, ⟨[20], [], [21], [0, 1, 2, 3, 4, 5, 6, 7, 8, 9, 10, 11, 12], some 22⟩, ⟨[20], [], [22], [0, 1, 2, 3, 4, 5, 6, 7, 8, 9, 10, 11, 12], some 23⟩, ⟨[20], [], [23], [0, 1, 2, 3, 4, 5, 6, 7, 8, 9, 10, 11, 12], some 24⟩, ⟨[20], [], [24], [0, 1, 2, 3, 4, 5, 6, 7, 8, 9, 10, 11, 12, 13, 14, 15], some 25⟩, ⟨[20], [], [25], [0, 1, 2, 3, 4, 5, 6, 7, 8, 9, 10, 11, 12], some 26⟩, ⟨[20], [], [26], [0, 1, 2, 3, 4, 5, 6, 7, 8, 9, 10, 11, 12], some 27⟩, ⟨[20], [], [27], [0, 1, 2, 3, 4, 5, 6, 7, 8, 9, 10, 11, 12], some 28⟩, ⟨[20], [], [28], [0, 1, 2, 3, 4, 5, 6, 7, 8, 9, 10, 11, 12, 13, 14, 15, 16, 17, 18, 19], some 29⟩, ⟨[20], [], [29], [0, 1, 2, 3, 4, 5, 6, 7, 8, 9, 10, 11, 12, 13, 14, 15, 16, 17, 18, 19, 20], some 30⟩, ⟨[20], [], [30], [0, 1, 2, 3, 4, 5, 6, 7, 8, 9, 10, 11, 12, 13, 14, 15, 16, 17, 18, 19, 20, 21], some 31⟩, ⟨[30], [], [31], [0, 1, 2, 3, 4, 5, 6, 7, 8, 9, 10, 11, 12, 13, 14, 15, 16, 17, 18, 19, 20, 21, 22], some 8⟩] [31, 6, 7] mixed hn hG h (by kernel_rfl) ?_ ?_
      · exact ⟨⟨rfl, fun β => (GOk.plain (op_call Tryd.call25 (law10_awake_ok hr3) trivial) rfl)⟩, ⟨rfl, fun β => (GOk.plain (op_move (opt 0 rfl)) rfl)⟩, ⟨rfl, fun β => (GOk.off_v (want := true) hb11 rfl rfl rfl rfl)⟩, ⟨rfl, fun β => (GOk.off_v (want := true) hb11 rfl rfl rfl rfl)⟩, ⟨rfl, fun β => (GOk.off_v (want := true) hb11 rfl rfl rfl rfl)⟩, ⟨rfl, fun β => (GOk.off_v (want := true) hb11 rfl rfl rfl rfl)⟩, ⟨rfl, fun β => (GOk.off_v (want := true) hb11 rfl rfl rfl rfl)⟩, ⟨rfl, fun β => (GOk.off_v (want := true) hb11 rfl rfl rfl rfl)⟩, ⟨rfl, fun β => (GOk.off_v (want := true) hb11 rfl rfl rfl rfl)⟩, ⟨rfl, fun β => (GOk.off_v (want := true) hb11 rfl rfl rfl rfl)⟩, ⟨rfl, fun β => (GOk.off_v (want := true) hb11 rfl rfl rfl rfl)⟩, ⟨rfl, fun β => (GOk.plain (op_pick_f hb11 (opt 0 rfl) (opc (bc _))) rfl)⟩, ⟨rfl, fun β => (GOk.plain (op_move (opt 0 rfl)) rfl)⟩, ⟨rfl, fun β => (GOk.off_v (want := true) rfl rfl rfl rfl rfl)⟩, ⟨rfl, fun β => (GOk.off_v (want := true) rfl rfl rfl rfl rfl)⟩, ⟨rfl, fun β => (GOk.off_v (want := true) rfl rfl rfl rfl rfl)⟩, ⟨rfl, fun β => (GOk.off_v (want := true) rfl rfl rfl rfl rfl)⟩, ⟨rfl, fun β => (GOk.off_v (want := true) rfl rfl rfl rfl rfl)⟩, ⟨rfl, fun β => (GOk.off_v (want := true) rfl rfl rfl rfl rfl)⟩, ⟨rfl, fun β => (GOk.off_v (want := true) rfl rfl rfl rfl rfl)⟩, ⟨rfl, fun β => (GOk.off_v (want := true) rfl rfl rfl rfl rfl)⟩, ⟨rfl, fun β => (GOk.off_v (want := true) rfl rfl rfl rfl rfl)⟩, ⟨rfl, fun β => (GOk.plain (op_pick_f rfl (opt 0 rfl) (opc (bc _))) rfl)⟩, ⟨rfl, fun β => (GOk.plain (op_assign (opt 0 rfl)) rfl)⟩, trivial⟩
      clear h
      intro β a w h
      change SatL c [.slot 8 (boolVP false), .res (Log_e (.pointer none) none), .res (RLog_e (Value.pointer none) none)] a w at h
      clear β
      exact ⟨false, none, none, hF, h.sub [0, 1, 2] (by rfl)⟩
  · clear h hF
    rintro a w ⟨x8, x9, x10, hF, h⟩
    unfold law10_UpdateDigests.j1 at hF
    show Code.wp Tryd.prog _ _ a w
    refine wp_ret ?_
    obtain rfl := Option.some.inj hF
    exact ⟨.inl rfl, ret1 h Tryd.results7 (r_tmp 0 rfl) [] [] rfl rfl rfl⟩
end Go.Proofs.YtamnmljgcmbliaaDoor
