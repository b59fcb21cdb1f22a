/- The functions' Lean twins and contracts, printed by this session's own program: part 4. -/
import Derived.Test.YtklikgigjdgjaaaGreatDoorRRRG3
namespace Go.Proofs.YtklikgigjdgjaaaGreatDoorRRR
open Go Go.RowKit Go.Proofs
set_option maxRecDepth 100000
set_option maxHeartbeats 4000000
set_option linter.unusedVariables false
def lamport_Opened.b1 (a_1 : List UInt8) (a_2 : List (List UInt8)) (a_3 : List (List UInt8)) (x13 : Int) (x14 : Option O_Log) (x15 : List (List UInt8)) : Option (Flow ((List UInt8) × Bool × (Option O_Log)) (Int × (Option O_Log) × (List (List UInt8)))) := (if (decide (x13 < (32 : Int))) = true then ((lamport_Bit a_1 x13).bind fun r27 => (if (0 : Int) ≤ x13 ∧ x13 < a_2.length then ((lamport_Public x14 (a_2.getD x13.toNat default)).bind fun r29 => (if (0 : Int) ≤ IntKind.wrap .i64 ((IntKind.wrap .i64 (2 * x13)) + r27) ∧ IntKind.wrap .i64 ((IntKind.wrap .i64 (2 * x13)) + r27) < 64 then (if (0 : Int) ≤ x13 ∧ x13 < a_3.length then (if (0 : Int) ≤ IntKind.wrap .i64 ((IntKind.wrap .i64 ((IntKind.wrap .i64 (2 * x13)) + 1)) - r27) ∧ IntKind.wrap .i64 ((IntKind.wrap .i64 ((IntKind.wrap .i64 (2 * x13)) + 1)) - r27) < 64 then some (.cont (IntKind.wrap .i64 (x13 + 1), r29.2, (x15.set (IntKind.wrap .i64 ((IntKind.wrap .i64 (2 * x13)) + r27)).toNat r29.1).set (IntKind.wrap .i64 ((IntKind.wrap .i64 ((IntKind.wrap .i64 (2 * x13)) + 1)) - r27)).toNat (a_3.getD x13.toNat default))) else none) else none) else none)) else none)) else some (.brk (x13, x14, x15)))
def lamport_Opened.j1 (L_0 : Option O_Log) (a_1 : List UInt8) (a_2 : List (List UInt8)) (a_3 : List (List UInt8)) (x3 : Bool) : Option ((List UInt8) × Bool × (Option O_Log)) := (if x3 = true then some ((List.replicate 32 0), false, L_0) else ((loopN (fun s : Int × (Option O_Log) × (List (List UInt8)) => lamport_Opened.b1 a_1 a_2 a_3 s.1 s.2.1 s.2.2) ((32 - 0 : Int).toNat + 2) (0, L_0, (List.replicate 64 (List.replicate 32 0)))).bind fun cr => match cr with | .ret r => some r | .next (y37, y38, y39) => ((lamport_pair y38 y39).bind fun r40 => some (r40.1, true, r40.2))))
def lamport_Opened (L_0 : Option O_Log) (a_1 : List UInt8) (a_2 : List (List UInt8)) (a_3 : List (List UInt8)) : Option ((List UInt8) × Bool × (Option O_Log)) := (if (!decide ((a_2.length : Int) = (32 : Int))) = true then lamport_Opened.j1 L_0 a_1 a_2 a_3 true else lamport_Opened.j1 L_0 a_1 a_2 a_3 (!decide ((a_3.length : Int) = (32 : Int))))
theorem lamport_Opened_ok {p_0 : Value} {L_0 : Option O_Log} {a_1 : List UInt8} {a_2 : List (List UInt8)} {a_3 : List (List UInt8)} {r : (List UInt8) × Bool × (Option O_Log)} (hF : lamport_Opened L_0 a_1 a_2 a_3 = some r) : CallOk Tryz.prog KG 87 [(eqVP p_0), (aggVP [bytesCk 32 a_1]), (slVP (dC 32) a_2), (slVP (dC 32) a_3)] [(Log_e p_0 L_0)] (fun _ => [Log_e p_0 r.2.2]) (tupVP [(aggVP [bytesCk 32 r.1]), (boolVP r.2.1)]) := by
  refine CallOk.intro 53 Tryz.func87 rfl Tryz.ntmps87 (Nat.le_of_ble_eq_true rfl) ?_
  intro c a w hG hn h
  unfold lamport_Opened at hF
  change SatL c [.slot 0 (eqVP p_0), .slot 1 (aggVP [bytesCk 32 a_1]), .slot 2 (slVP (dC 32) a_2), .slot 3 (slVP (dC 32) a_3), .res (Log_e p_0 L_0)] a w at h
  refine regS mixed hn hG h [0, 2, 3, 504, 502, 4, 503, 501] (ob [1] (op_box q0 (cells_agg _)) <| ob [] (op_alloc Tryz.zeroValue23 z23) <| ov [] (op_assign qb) .nil) fun b1 a w h => ?_
  refine wp_seq ?_
  refine wp_seq ?_
  refine wp_cut (fun a w => ∃ (x3 : Bool), lamport_Opened.j1 L_0 a_1 a_2 a_3 x3 = some r ∧ SatL c [.slot 0 (eqVP p_0), .slot 2 (slVP (dC 32) a_2), .slot 3 (slVP (dC 32) a_3), .slot 5 (lpVP (b1 0) 0), .slot 8 (lpVP (b1 1) 0), .slot 20 (boolVP x3), .res (Log_e p_0 L_0), .res (lb (b1 0) 23 [bytesCk 32 a_1]), .res (lb (b1 1) 23 [bytesCk 32 (List.replicate 32 0)])] a w) ?_ ?_
  · rcases Bool.eq_false_or_eq_true (!decide ((a_2.length : Int) = (32 : Int))) with hb41 | hb41
    · replace hF := tt_of hb41 hF
      refine reg mixed hn hG h [0, 1, 2, 3, 4, 500, 5, 6, 7] (ov [1] (op_move q0) <| ov [500] (op_len_sl Tryz.underlying27 q0) <| ov [500] (op_bin bin_neq q0 qi) <| ov [500] (op_move q0) <| oe [500] [] (GOk.off_v (want := false) hb41 rfl rfl rfl rfl) <| oe [501] [] (GOk.off_v (want := false) hb41 rfl rfl rfl rfl) <| oe [502] [] (GOk.off_v (want := false) hb41 rfl rfl rfl rfl) <| ov [503] (op_pick_t hb41 q0 qb) .nil) fun _ a w h => ?_
      exact ⟨true, hF, h.sub [0, 1, 2, 3, 4, 5, 6, 7, 8] (by rfl)⟩
    · replace hF := ff_of hb41 hF
      refine reg mixed hn hG h [0, 1, 2, 3, 4, 500, 5, 6, 7] (ov [1] (op_move q0) <| ov [500] (op_len_sl Tryz.underlying27 q0) <| ov [500] (op_bin bin_neq q0 qi) <| ov [500] (op_move q0) <| oe [500, 2] [] (GOk.on_eq hb41 rfl rfl rfl (op_move q0)) <| oe [501, 500] [] (GOk.on_eq hb41 rfl rfl rfl (op_len_sl Tryz.underlying27 q0)) <| oe [502, 500] [] (GOk.on_eq hb41 rfl rfl rfl (op_bin bin_neq q0 qi)) <| ov [503, 500] (op_pick_f hb41 q0 q1) .nil) fun _ a w h => ?_
      exact ⟨!decide ((a_3.length : Int) = (32 : Int)), hF, h.sub [0, 1, 2, 3, 4, 5, 6, 7, 8] (by rfl)⟩
  · clear h hF
    rintro a w ⟨x3, hF, h⟩
    unfold lamport_Opened.j1 at hF
    show Code.wp Tryz.prog _ _ a w
    refine cnd h hF 5 [4, 6, 8] [0, 1, 2, 3, 4, 6, 7, 8] (fun hb4 hF h => ?_) (fun hb4 hF h => ?_)
    · refine regS mixed hn hG h [0, 500, 1, 501] (ov [] (build0 Tryz.zeroValue23 Tryz.underlying23 Tryz.sizeOf5 z23) <| ou [0, 500] 2 (op_store_w Tryz.sizeOf23 q0 q1 (cells_agg _)) <| ov [] (op_assign qb) .nil) fun _ a w h => ?_
      refine wp_ret ?_
      obtain rfl := Option.some.inj hF
      exact ⟨.inl rfl, retn h (rs := [.cell 8 23, .tmp 9]) (Vs := [(aggVP [bytesCk 32 (List.replicate 32 0)]), (boolVP false)]) Tryz.results87 (by decide) ⟨(r_cell 0 3 rfl rfl Tryz.isAgg23 Tryz.sizeOf23 rfl), (r_tmp 1 rfl), trivial⟩ [2] [(Log_e p_0 L_0)] rfl rfl rfl⟩
    · refine wp_skip ?_
      show Code.wp Tryz.prog _ _ a w
      refine regS mixed hn hG h [0, 1, 2, 3, 4, 501, 5, 6, 7, 500] (ob [] (op_alloc Tryz.zeroValue90 z90) .nil) fun b5 a w h => ?_
      refine wp_seq ?_
      refine regS mixed hn hG h [0, 1, 2, 3, 4, 5, 500, 6, 7, 8, 9] (ov [] (op_move qi) .nil) fun _ a w h => ?_
      refine wp_block ?_
      obtain ⟨cr33, hl34, hF⟩ := bind_some hF
      refine wp_mono (wp_loopN (R := (List UInt8) × Bool × (Option O_Log)) (S := Int × (Option O_Log) × (List (List UInt8))) (fun s a w => SatL c [.slot 0 (eqVP p_0), .slot 2 (slVP (dC 32) a_2), .slot 3 (slVP (dC 32) a_3), .slot 5 (lpVP (b1 0) 0), .slot 8 (lpVP (b1 1) 0), .slot 10 (lpVP (b5 0) 0), .slot 22 (intVP .i64 s.1), .res (Log_e p_0 s.2.1), .res (lb (b1 0) 23 [bytesCk 32 a_1]), .res (lb (b1 1) 23 [bytesCk 32 (List.replicate 32 0)]), .res (lb (b5 0) 90 [arrCk 64 32 (dC 32) (lens_dC 32) s.2.2])] a w) (fun res e a w => match res with | .next s => e = .exit 0 ∧ SatL c [.slot 0 (eqVP p_0), .slot 8 (lpVP (b1 1) 0), .slot 10 (lpVP (b5 0) 0), .res (Log_e p_0 s.2.1), .res (lb (b1 1) 23 [bytesCk 32 (List.replicate 32 0)]), .res (lb (b5 0) 90 [arrCk 64 32 (dC 32) (lens_dC 32) s.2.2])] a w | .ret r => e = .ret ∧ RetOk Tryz.prog Tryz.f87 c (tupVP [(aggVP [bytesCk 32 r.1]), (boolVP r.2.1)]) (fun _ => [Log_e p_0 r.2.2]) a w) ?_ _ (0, L_0, (List.replicate 64 (List.replicate 32 0))) _ _ _ (h.sub [0, 1, 2, 3, 4, 5, 6, 7, 8, 9, 10] (by rfl)) hl34) ?_
      · clear hl34 hF h
        intro s a w o h hF
        obtain ⟨x13, x14, x15⟩ := s
        change lamport_Opened.b1 a_1 a_2 a_3 x13 x14 x15 = some o at hF
        unfold lamport_Opened.b1 at hF
        change SatL c [.slot 0 (eqVP p_0), .slot 2 (slVP (dC 32) a_2), .slot 3 (slVP (dC 32) a_3), .slot 5 (lpVP (b1 0) 0), .slot 8 (lpVP (b1 1) 0), .slot 10 (lpVP (b5 0) 0), .slot 22 (intVP .i64 x13), .res (Log_e p_0 x14), .res (lb (b1 0) 23 [bytesCk 32 a_1]), .res (lb (b1 1) 23 [bytesCk 32 (List.replicate 32 0)]), .res (lb (b5 0) 90 [arrCk 64 32 (dC 32) (lens_dC 32) x15])] a w at h
        refine regS mixed hn hG h [0, 1, 2, 3, 4, 5, 6, 500, 7, 8, 9, 10] (ov [6] (op_bin bin_lss q0 qi) .nil) fun _ a w h => ?_
        refine wp_seq ?_
        refine cnd h hF 7 [0, 1, 2, 3, 4, 5, 6, 8, 9, 10, 11] [0, 1, 2, 3, 4, 5, 6, 8, 9, 10, 11] (fun hb26 hF h => ?_) (fun hb26 hF h => ?_)
        · refine wp_skip ?_
          show Code.wp Tryz.prog _ _ a w
          refine wp_seq ?_
          refine wp_block ?_
          refine regS mixed hn hG h [0, 1, 2, 3, 4, 5, 500, 6, 7, 8, 9, 10] (ov [6] (op_move q0) <| ov [500] (op_assign q0) .nil) fun _ a w h => ?_
          obtain ⟨r27, hr27, hF⟩ := bind_some hF
          refine regS mixed hn hG h [0, 1, 2, 3, 4, 5, 6, 500, 7, 8, 9, 10, 11] (ov [3, 9] (op_load_w 1 Tryz.isAgg23 Tryz.sizeOf23 q0) <| ov [6] (op_move q0) <| oc [501, 500] [] Tryz.call80 (lamport_Bit_ok hr27) ⟨q0, q1, trivial⟩ <| ov [500] (op_assign q0) .nil) fun _ a w h => ?_
          obtain ⟨hv28, hF⟩ := ite_some hF
          obtain ⟨r29, hr29, hF⟩ := bind_some hF
          obtain ⟨hv30, hF⟩ := ite_some hF
          refine regS mixed hn hG h [0, 1, 2, 3, 4, 5, 6, 7, 8, 10, 11, 500, 502] (ov [6] (op_move q0) <| ov [500] (op_bin bin_mul qi q0) <| ov [7] (op_move q0) <| ov [501, 500] (op_bin bin_add q0 q1) <| ov [0] (op_move q0) <| ov [1] (op_move q0) <| ov [6] (op_move q0) <| ov [501, 500] (op_indexAddr_sl Tryz.underlying27 Tryz.sizeOf23 (lens_dC 32) q0 q1 hv28) <| ov [500] (op_load_pp [bytesCk 32 (a_2.getD x13.toNat default)] [] Tryz.isAgg23 Tryz.sizeOf23 q0 rfl) <| oc [504, 500] [9] Tryz.call34 (lamport_Public_ok hr29) ⟨q0, q1, trivial⟩ <| ov [5, 507] (op_indexAddr_lb Tryz.underlying90 Tryz.sizeOf23 q0 q1 hv30) <| ou [500, 502] 12 (op_store_lbA (i := IntKind.wrap .i64 ((IntKind.wrap .i64 (2 * x13)) + r27)) [] [] Tryz.sizeOf23 q0 q1 rfl hv30) .nil) fun _ a w h => ?_
          obtain ⟨hv31, hF⟩ := ite_some hF
          obtain ⟨hv32, hF⟩ := ite_some hF
          refine reg mixed hn hG h [0, 1, 2, 3, 4, 5, 8, 9, 10, 500, 12] (ov [6] (op_move q0) <| ov [500] (op_bin bin_mul qi q0) <| ov [500] (op_bin bin_add q0 qi) <| ov [7] (op_move q0) <| ov [501, 500] (op_bin bin_sub q0 q1) <| ov [2] (op_move q0) <| ov [6] (op_move q0) <| ov [501, 500] (op_indexAddr_sl Tryz.underlying27 Tryz.sizeOf23 (lens_dC 32) q0 q1 hv31) <| ov [500] (op_load_pp [bytesCk 32 (a_3.getD x13.toNat default)] [] Tryz.isAgg23 Tryz.sizeOf23 q0 rfl) <| ov [5, 504] (op_indexAddr_lb Tryz.underlying90 Tryz.sizeOf23 q0 q1 hv32) <| ou [500, 501] 11 (op_store_lbA (i := IntKind.wrap .i64 ((IntKind.wrap .i64 ((IntKind.wrap .i64 (2 * x13)) + 1)) - r27)) [] [] Tryz.sizeOf23 q0 q1 rfl hv32) .nil) fun _ a w h => ?_
          show Code.wp Tryz.prog _ _ a w
          refine reg mixed hn hG h [0, 1, 2, 3, 4, 5, 500, 7, 8, 9, 10] (ov [6] (op_bin bin_add q0 qi) <| od [500] 6 (op_move q0) .nil) fun _ a w h => ?_
          obtain rfl := Option.some.inj hF
          exact ⟨rfl, h.sub [0, 1, 2, 3, 4, 5, 6, 10, 7, 8, 9] (by rfl)⟩
        · refine wp_exit ?_
          obtain rfl := Option.some.inj hF
          exact ⟨exit_ne _, rfl, h.sub [0, 4, 5, 7, 9, 10] (by rfl)⟩
      · clear hl34
        intro e a w hq
        cases cr33 with
        | ret r35 =>
          obtain ⟨rfl, hq⟩ := hq
          obtain rfl := Option.some.inj hF
          exact ⟨.inl rfl, hq⟩
        | next s36 =>
          obtain ⟨y37, y38, y39⟩ := s36
          obtain ⟨rfl, h⟩ := hq
          change SatL c [.slot 0 (eqVP p_0), .slot 8 (lpVP (b1 1) 0), .slot 10 (lpVP (b5 0) 0), .res (Log_e p_0 y38), .res (lb (b1 1) 23 [bytesCk 32 (List.replicate 32 0)]), .res (lb (b5 0) 90 [arrCk 64 32 (dC 32) (lens_dC 32) y39])] a w at h
          refine inBlock_at ?_
          show Code.wp Tryz.prog _ _ a w
          obtain ⟨r40, hr40, hF⟩ := bind_some hF
          refine regS mixed hn hG h [1, 500, 501, 502] (ov [0] (op_move q0) <| ov [2, 5] (op_load_w 1 Tryz.isAgg90 Tryz.sizeOf90 q0 (hn := by simp only [lensC, lensN, one, bytesCk, arrCk, intsCk])) <| oc [501, 500] [3] Tryz.call36 (lamport_pair_ok hr40) ⟨q0, q1, trivial⟩ <| ou [1, 501] 4 (op_store_w Tryz.sizeOf23 q0 q1 (cells_agg _)) <| ov [] (op_assign qb) .nil) fun _ a w h => ?_
          refine wp_ret ?_
          obtain rfl := Option.some.inj hF
          exact ⟨.inl rfl, retn h (rs := [.cell 8 23, .tmp 9]) (Vs := [(aggVP [bytesCk 32 r40.1]), (boolVP true)]) Tryz.results87 (by decide) ⟨(r_cell 0 2 rfl rfl Tryz.isAgg23 Tryz.sizeOf23 rfl), (r_tmp 1 rfl), trivial⟩ [3] [(Log_e p_0 r40.2)] rfl rfl rfl⟩

def keys_Climb.j1 (x10 : Int) (x11 : Int) (x30 : List UInt8) (x31 : Option O_Log) : Option (Flow ((List UInt8) × (Option O_Log)) (Int × Int × (Option O_Log) × (List UInt8))) := some (.cont (shr .i64 x10 1, IntKind.wrap .i64 (x11 + 1), x31, x30))
def keys_Climb.b1 (a_3 : List (List UInt8)) (x10 : Int) (x11 : Int) (x12 : Option O_Log) (x13 : List UInt8) : Option (Flow ((List UInt8) × (Option O_Log)) (Int × Int × (Option O_Log) × (List UInt8))) := (if (decide (x11 < (a_3.length : Int))) = true then (if (0 : Int) ≤ x11 ∧ x11 < a_3.length then (if (decide ((bits .and .i64 x10 1) = (1 : Int))) = true then ((digest_Log_Two x12 4 (a_3.getD x11.toNat default) x13).bind fun r33 => keys_Climb.j1 x10 x11 r33.1 r33.2) else ((digest_Log_Two x12 4 x13 (a_3.getD x11.toNat default)).bind fun r34 => keys_Climb.j1 x10 x11 r34.1 r34.2)) else none) else some (.brk (x10, x11, x12, x13)))
def keys_Climb (L_0 : Option O_Log) (a_1 : List UInt8) (a_2 : Int) (a_3 : List (List UInt8)) : Option ((List UInt8) × (Option O_Log)) := ((loopN (fun s : Int × Int × (Option O_Log) × (List UInt8) => keys_Climb.b1 a_3 s.1 s.2.1 s.2.2.1 s.2.2.2) (((a_3.length : Int) - 0 : Int).toNat + 2) (a_2, 0, L_0, a_1)).bind fun cr => match cr with | .ret r => some r | .next (y39, y40, y41, y42) => some (y42, y41))
theorem keys_Climb_ok {p_0 : Value} {L_0 : Option O_Log} {a_1 : List UInt8} {a_2 : Int} {a_3 : List (List UInt8)} {r : (List UInt8) × (Option O_Log)} (hF : keys_Climb L_0 a_1 a_2 a_3 = some r) : CallOk Tryz.prog KG 88 [(eqVP p_0), (aggVP [bytesCk 32 a_1]), (intVP .i64 a_2), (slVP (dC 32) a_3)] [(Log_e p_0 L_0)] (fun _ => [Log_e p_0 r.2]) (aggVP [bytesCk 32 r.1]) := by
  refine CallOk.intro 32 Tryz.func88 rfl Tryz.ntmps88 (Nat.le_of_ble_eq_true rfl) ?_
  intro c a w hG hn h
  unfold keys_Climb at hF
  change SatL c [.slot 0 (eqVP p_0), .slot 1 (aggVP [bytesCk 32 a_1]), .slot 2 (intVP .i64 a_2), .slot 3 (slVP (dC 32) a_3), .res (Log_e p_0 L_0)] a w at h
  refine regS mixed hn hG h [0, 2, 3, 503, 501, 4, 502, 500] (ob [1] (op_box q0 (cells_agg _)) <| ob [] (op_alloc Tryz.zeroValue23 z23) .nil) fun b1 a w h => ?_
  refine wp_seq ?_
  refine regS mixed hn hG h [0, 1, 3, 4, 502, 501, 500, 5, 6, 7] (ov [2] (op_move q0) <| ov [500] (op_len_sl Tryz.underlying27 q0) <| ov [] (op_move qi) .nil) fun _ a w h => ?_
  refine wp_block ?_
  obtain ⟨cr35, hl36, hF⟩ := bind_some hF
  refine wp_mono (wp_loopN (R := (List UInt8) × (Option O_Log)) (S := Int × Int × (Option O_Log) × (List UInt8)) (fun s a w => SatL c [.slot 0 (eqVP p_0), .slot 2 (intVP .i64 s.1), .slot 5 (lpVP (b1 0) 0), .slot 8 (lpVP (b1 1) 0), .slot 11 (slVP (dC 32) a_3), .slot 12 (intVP .i64 (a_3.length : Int)), .slot 13 (intVP .i64 s.2.1), .res (Log_e p_0 s.2.2.1), .res (lb (b1 0) 23 [bytesCk 32 s.2.2.2]), .res (lb (b1 1) 23 [bytesCk 32 (List.replicate 32 0)])] a w) (fun res e a w => match res with | .next s => e = .exit 0 ∧ SatL c [.slot 5 (lpVP (b1 0) 0), .slot 8 (lpVP (b1 1) 0), .res (Log_e p_0 s.2.2.1), .res (lb (b1 0) 23 [bytesCk 32 s.2.2.2]), .res (lb (b1 1) 23 [bytesCk 32 (List.replicate 32 0)])] a w | .ret r => e = .ret ∧ RetOk Tryz.prog Tryz.f88 c (aggVP [bytesCk 32 r.1]) (fun _ => [Log_e p_0 r.2]) a w) ?_ _ (a_2, 0, L_0, a_1) _ _ _ (h.sub [0, 1, 2, 3, 4, 5, 6, 7, 8, 9] (by rfl)) hl36) ?_
  · clear hl36 hF h
    intro s a w o h hF
    obtain ⟨x10, x11, x12, x13⟩ := s
    change keys_Climb.b1 a_3 x10 x11 x12 x13 = some o at hF
    unfold keys_Climb.b1 at hF
    change SatL c [.slot 0 (eqVP p_0), .slot 2 (intVP .i64 x10), .slot 5 (lpVP (b1 0) 0), .slot 8 (lpVP (b1 1) 0), .slot 11 (slVP (dC 32) a_3), .slot 12 (intVP .i64 (a_3.length : Int)), .slot 13 (intVP .i64 x11), .res (Log_e p_0 x12), .res (lb (b1 0) 23 [bytesCk 32 x13]), .res (lb (b1 1) 23 [bytesCk 32 (List.replicate 32 0)])] a w at h
    refine regS mixed hn hG h [0, 1, 2, 3, 4, 5, 6, 500, 7, 8, 9] (ov [6, 5] (op_bin bin_lss q0 q1) .nil) fun _ a w h => ?_
    refine wp_seq ?_
    refine cnd h hF 7 [0, 1, 2, 3, 4, 5, 6, 8, 9, 10] [0, 1, 2, 3, 4, 5, 6, 8, 9, 10] (fun hb25 hF h => ?_) (fun hb25 hF h => ?_)
    · refine wp_skip ?_
      show Code.wp Tryz.prog _ _ a w
      refine wp_seq ?_
      refine wp_block ?_
      obtain ⟨hv26, hF⟩ := ite_some hF
      refine regS mixed hn hG h [0, 1, 2, 3, 502, 4, 5, 6, 7, 8, 9, 500] (ov [4, 6] (op_indexAddr_sl Tryz.underlying27 Tryz.sizeOf23 (lens_dC 32) q0 q1 hv26) <| ov [500] (op_load_pp [bytesCk 32 (a_3.getD x11.toNat default)] [] Tryz.isAgg23 Tryz.sizeOf23 q0 rfl) <| ob [] (op_alloc Tryz.zeroValue23 z23) <| og [501, 502] [500] [.res 2 100000 (fun v1_ _ => (lb (v1_) 23 [bytesCk 32 (a_3.getD x11.toNat default)]))] (GOk.plain (op_store_w Tryz.sizeOf23 q0 q1 (cells_agg _)) rfl) .nil) fun b27 a w h => ?_
      refine wp_seq ?_
      refine regS mixed hn hG h [0, 1, 2, 3, 4, 5, 6, 7, 500, 8, 9, 10, 11] (ov [1] (op_move q0) <| ov [500] (op_bin bin_and q0 qi) <| ov [500] (op_bin bin_eql q0 qi) .nil) fun _ a w h => ?_
      refine wp_cut (fun a w => ∃ (x30 : List UInt8), ∃ (x31 : Option O_Log), keys_Climb.j1 x10 x11 x30 x31 = some o ∧ SatL c [.slot 0 (eqVP p_0), .slot 2 (intVP .i64 x10), .slot 5 (lpVP (b1 0) 0), .slot 8 (lpVP (b1 1) 0), .slot 11 (slVP (dC 32) a_3), .slot 12 (intVP .i64 (a_3.length : Int)), .slot 13 (intVP .i64 x11), .res (lb (b1 0) 23 [bytesCk 32 x30]), .res (lb (b1 1) 23 [bytesCk 32 (List.replicate 32 0)]), .res (Log_e p_0 x31)] a w) ?_ ?_
      · refine cnd h hF 8 [0, 1, 2, 3, 4, 5, 6, 7, 9, 10, 11, 12] [0, 1, 2, 3, 4, 5, 6, 7, 9, 10, 11, 12] (fun hb32 hF h => ?_) (fun hb32 hF h => ?_)
        · obtain ⟨r33, hr33, hF⟩ := bind_some hF
          refine reg mixed hn hG h [0, 1, 2, 3, 5, 6, 7, 500, 10, 501] (ov [0] (op_move q0) <| ov [4, 11] (op_load_w 1 Tryz.isAgg23 Tryz.sizeOf23 q0) <| ov [2, 9] (op_load_w 1 Tryz.isAgg23 Tryz.sizeOf23 q0) <| oc [502, 501, 500] [8] Tryz.call37 (digest_Log_Two_ok hr33) ⟨q0, qi, q1, q2, trivial⟩ <| ou [2, 501] 9 (op_store_w Tryz.sizeOf23 q0 q1 (cells_agg _)) .nil) fun _ a w h => ?_
          exact ⟨r33.1, r33.2, hF, h.sub [0, 1, 2, 3, 4, 5, 6, 7, 8, 9] (by rfl)⟩
        · obtain ⟨r34, hr34, hF⟩ := bind_some hF
          refine reg mixed hn hG h [0, 1, 2, 3, 5, 6, 7, 500, 10, 501] (ov [0] (op_move q0) <| ov [2, 9] (op_load_w 1 Tryz.isAgg23 Tryz.sizeOf23 q0) <| ov [4, 11] (op_load_w 1 Tryz.isAgg23 Tryz.sizeOf23 q0) <| oc [502, 501, 500] [8] Tryz.call37 (digest_Log_Two_ok hr34) ⟨q0, qi, q1, q2, trivial⟩ <| ou [2, 501] 9 (op_store_w Tryz.sizeOf23 q0 q1 (cells_agg _)) .nil) fun _ a w h => ?_
          exact ⟨r34.1, r34.2, hF, h.sub [0, 1, 2, 3, 4, 5, 6, 7, 8, 9] (by rfl)⟩
      · clear h hF
        rintro a w ⟨x30, x31, hF, h⟩
        unfold keys_Climb.j1 at hF
        show Code.wp Tryz.prog _ _ a w
        refine reg mixed hn hG h [0, 500, 2, 3, 4, 5, 6, 7, 8, 9] (ov [1] (op_move q0) <| ov [500] (op_bin (bin_shru rfl) q0 qi) <| od [500] 1 (op_assign q0) .nil) fun _ a w h => ?_
        show Code.wp Tryz.prog _ _ a w
        refine reg mixed hn hG h [0, 1, 2, 3, 4, 5, 500, 7, 8, 9] (ov [6] (op_bin bin_add q0 qi) <| od [500] 6 (op_move q0) .nil) fun _ a w h => ?_
        obtain rfl := Option.some.inj hF
        exact ⟨rfl, h.sub [0, 1, 2, 3, 4, 5, 6, 9, 7, 8] (by rfl)⟩
    · refine wp_exit ?_
      obtain rfl := Option.some.inj hF
      exact ⟨exit_ne _, rfl, h.sub [2, 3, 7, 8, 9] (by rfl)⟩
  · clear hl36
    intro e a w hq
    cases cr35 with
    | ret r37 =>
      obtain ⟨rfl, hq⟩ := hq
      obtain rfl := Option.some.inj hF
      exact ⟨.inl rfl, hq⟩
    | next s38 =>
      obtain ⟨y39, y40, y41, y42⟩ := s38
      obtain ⟨rfl, h⟩ := hq
      change SatL c [.slot 5 (lpVP (b1 0) 0), .slot 8 (lpVP (b1 1) 0), .res (Log_e p_0 y41), .res (lb (b1 0) 23 [bytesCk 32 y42]), .res (lb (b1 1) 23 [bytesCk 32 (List.replicate 32 0)])] a w at h
      refine inBlock_at ?_
      show Code.wp Tryz.prog _ _ a w
      refine regS mixed hn hG h [1, 2, 500] (ov [0, 3] (op_load_w 1 Tryz.isAgg23 Tryz.sizeOf23 q0) <| ou [1, 500] 4 (op_store_w Tryz.sizeOf23 q0 q1 (cells_agg _)) .nil) fun _ a w h => ?_
      refine wp_ret ?_
      obtain rfl := Option.some.inj hF
      exact ⟨.inl rfl, ret1 h Tryz.results88 (r_cell 0 2 rfl rfl Tryz.isAgg23 Tryz.sizeOf23 rfl) [1] [(Log_e p_0 y41)] rfl rfl rfl⟩

def keys_Verify.j2 (x9 : Bool) (x10 : Option O_Log) : Option (Bool × (Option O_Log)) := some (x9, x10)
def keys_Verify.j1 (L_0 : Option O_Log) (a_1 : List UInt8) (a_2 : List UInt8) (a_3 : S_api_Sig) (x4 : Bool) : Option (Bool × (Option O_Log)) := (if x4 = true then some (false, L_0) else ((lamport_Opened L_0 a_2 a_3.f_Parts a_3.f_Others).bind fun r6 => (if r6.2.1 = true then ((keys_Climb r6.2.2 r6.1 a_3.f_Index a_3.f_Path).bind fun r8 => keys_Verify.j2 (decide (r8.1 = a_1)) r8.2) else keys_Verify.j2 false r6.2.2)))
def keys_Verify (L_0 : Option O_Log) (a_1 : List UInt8) (a_2 : List UInt8) (a_3 : S_api_Sig) : Option (Bool × (Option O_Log)) := (if (decide (a_3.f_Index < (0 : Int))) = true then keys_Verify.j1 L_0 a_1 a_2 a_3 true else (if (decide ((16 : Int) ≤ a_3.f_Index)) = true then keys_Verify.j1 L_0 a_1 a_2 a_3 true else keys_Verify.j1 L_0 a_1 a_2 a_3 (!decide ((a_3.f_Path.length : Int) = (4 : Int)))))
theorem keys_Verify_ok {p_0 : Value} {L_0 : Option O_Log} {a_1 : List UInt8} {a_2 : List UInt8} {a_3 : S_api_Sig} {r : Bool × (Option O_Log)} (hF : keys_Verify L_0 a_1 a_2 a_3 = some r) : CallOk Tryz.prog KG 70 [(eqVP p_0), (aggVP [bytesCk 32 a_1]), (aggVP [bytesCk 32 a_2]), (aggVP [one (intVP .i64 a_3.f_Index), one (slVP (dC 32) a_3.f_Parts), one (slVP (dC 32) a_3.f_Others), one (slVP (dC 32) a_3.f_Path)])] [(Log_e p_0 L_0)] (fun _ => [Log_e p_0 r.2]) (boolVP r.1) := by
  refine CallOk.intro 47 Tryz.func70 rfl Tryz.ntmps70 (Nat.le_of_ble_eq_true rfl) ?_
  intro c a w hG hn h
  unfold keys_Verify at hF
  change SatL c [.slot 0 (eqVP p_0), .slot 1 (aggVP [bytesCk 32 a_1]), .slot 2 (aggVP [bytesCk 32 a_2]), .slot 3 (aggVP [one (intVP .i64 a_3.f_Index), one (slVP (dC 32) a_3.f_Parts), one (slVP (dC 32) a_3.f_Others), one (slVP (dC 32) a_3.f_Path)]), .res (Log_e p_0 L_0)] a w at h
  refine regS mixed hn hG h [0, 506, 504, 502, 4, 505, 503, 501] (ob [1] (op_box q0 (cells_agg _)) <| ob [2] (op_box q0 (cells_agg _)) <| ob [3] (op_box q0 (cells_agg _)) <| ov [] (op_assign qb) .nil) fun b1 a w h => ?_
  refine wp_seq ?_
  refine wp_seq ?_
  refine wp_cut (fun a w => ∃ (x4 : Bool), keys_Verify.j1 L_0 a_1 a_2 a_3 x4 = some r ∧ SatL c [.slot 0 (eqVP p_0), .slot 5 (lpVP (b1 0) 0), .slot 6 (lpVP (b1 1) 0), .slot 7 (lpVP (b1 2) 0), .slot 24 (boolVP x4), .res (Log_e p_0 L_0), .res (lb (b1 0) 23 [bytesCk 32 a_1]), .res (lb (b1 1) 23 [bytesCk 32 a_2]), .res (lb (b1 2) 46 [one (intVP .i64 a_3.f_Index), one (slVP (dC 32) a_3.f_Parts), one (slVP (dC 32) a_3.f_Others), one (slVP (dC 32) a_3.f_Path)])] a w) ?_ ?_
  · rcases Bool.eq_false_or_eq_true (decide (a_3.f_Index < (0 : Int))) with hb12 | hb12
    · replace hF := tt_of hb12 hF
      refine reg mixed hn hG h [0, 1, 2, 3, 500, 4, 5, 6, 7] (ov [3] (op_fieldAddr_lbm (p := (b1 2)) (n := 1) 0 0 Tryz.underlying46 rfl Tryz.sizeOf3 (by decide) q0 rfl) <| ov [500, 7] (op_load_lb1 [] [one (slVP (dC 32) a_3.f_Parts), one (slVP (dC 32) a_3.f_Others), one (slVP (dC 32) a_3.f_Path)] 1 Tryz.isAgg3 q0 rfl rfl) <| ov [500] (op_bin bin_lss q0 qi) <| ov [500] (op_move q0) <| oe [500] [] (GOk.off_v (want := false) hb12 rfl rfl rfl rfl) <| oe [501] [] (GOk.off_v (want := false) hb12 rfl rfl rfl rfl) <| oe [502] [] (GOk.off_v (want := false) hb12 rfl rfl rfl rfl) <| ov [503] (op_pick_t hb12 q0 qb) <| ov [500] (op_move q0) <| oe [500] [] (GOk.off_v (want := false) rfl rfl rfl rfl rfl) <| oe [501] [] (GOk.off_v (want := false) rfl rfl rfl rfl rfl) <| oe [502] [] (GOk.off_v (want := false) rfl rfl rfl rfl rfl) <| oe [503] [] (GOk.off_v (want := false) rfl rfl rfl rfl rfl) <| ov [504] (op_pick_t rfl q0 qb) .nil) fun _ a w h => ?_
      exact ⟨true, hF, h.sub [0, 1, 2, 3, 4, 5, 6, 7, 8] (by rfl)⟩
    · replace hF := ff_of hb12 hF
      rcases Bool.eq_false_or_eq_true (decide ((16 : Int) ≤ a_3.f_Index)) with hb13 | hb13
      · replace hF := tt_of hb13 hF
        refine reg mixed hn hG h [0, 1, 2, 3, 500, 4, 5, 6, 7] (ov [3] (op_fieldAddr_lbm (p := (b1 2)) (n := 1) 0 0 Tryz.underlying46 rfl Tryz.sizeOf3 (by decide) q0 rfl) <| ov [500, 7] (op_load_lb1 [] [one (slVP (dC 32) a_3.f_Parts), one (slVP (dC 32) a_3.f_Others), one (slVP (dC 32) a_3.f_Path)] 1 Tryz.isAgg3 q0 rfl rfl) <| ov [500] (op_bin bin_lss q0 qi) <| ov [500] (op_move q0) <| oe [500, 3] [] (GOk.on_eq hb12 rfl rfl rfl (op_fieldAddr_lbm (p := (b1 2)) (n := 1) 0 0 Tryz.underlying46 rfl Tryz.sizeOf3 (by decide) q0 rfl)) <| oe [501, 500, 7] [] (GOk.on_eq hb12 rfl rfl rfl (op_load_lb1 [] [one (slVP (dC 32) a_3.f_Parts), one (slVP (dC 32) a_3.f_Others), one (slVP (dC 32) a_3.f_Path)] 1 Tryz.isAgg3 q0 rfl rfl)) <| oe [502, 500] [] (GOk.on_eq hb12 rfl rfl rfl (op_bin bin_geq q0 qi)) <| ov [503, 500] (op_pick_f hb12 q0 q1) <| ov [500] (op_move q0) <| oe [500] [] (GOk.off_v (want := false) hb13 rfl rfl rfl rfl) <| oe [501] [] (GOk.off_v (want := false) hb13 rfl rfl rfl rfl) <| oe [502] [] (GOk.off_v (want := false) hb13 rfl rfl rfl rfl) <| oe [503] [] (GOk.off_v (want := false) hb13 rfl rfl rfl rfl) <| ov [504] (op_pick_t hb13 q0 qb) .nil) fun _ a w h => ?_
        exact ⟨true, hF, h.sub [0, 1, 2, 3, 4, 5, 6, 7, 8] (by rfl)⟩
      · replace hF := ff_of hb13 hF
        refine reg mixed hn hG h [0, 1, 2, 3, 500, 4, 5, 6, 7] (ov [3] (op_fieldAddr_lbm (p := (b1 2)) (n := 1) 0 0 Tryz.underlying46 rfl Tryz.sizeOf3 (by decide) q0 rfl) <| ov [500, 7] (op_load_lb1 [] [one (slVP (dC 32) a_3.f_Parts), one (slVP (dC 32) a_3.f_Others), one (slVP (dC 32) a_3.f_Path)] 1 Tryz.isAgg3 q0 rfl rfl) <| ov [500] (op_bin bin_lss q0 qi) <| ov [500] (op_move q0) <| oe [500, 3] [] (GOk.on_eq hb12 rfl rfl rfl (op_fieldAddr_lbm (p := (b1 2)) (n := 1) 0 0 Tryz.underlying46 rfl Tryz.sizeOf3 (by decide) q0 rfl)) <| oe [501, 500, 7] [] (GOk.on_eq hb12 rfl rfl rfl (op_load_lb1 [] [one (slVP (dC 32) a_3.f_Parts), one (slVP (dC 32) a_3.f_Others), one (slVP (dC 32) a_3.f_Path)] 1 Tryz.isAgg3 q0 rfl rfl)) <| oe [502, 500] [] (GOk.on_eq hb12 rfl rfl rfl (op_bin bin_geq q0 qi)) <| ov [503, 500] (op_pick_f hb12 q0 q1) <| ov [500] (op_move q0) <| oe [500, 3] [] (GOk.on_eq hb13 rfl rfl rfl (op_fieldAddr_lbm (p := (b1 2)) (n := 1) 0 3 Tryz.underlying46 rfl Tryz.sizeOf27 (by decide) q0 rfl)) <| oe [501, 500, 7] [] (GOk.on_eq hb13 rfl rfl rfl (op_load_lb1 [one (intVP .i64 a_3.f_Index), one (slVP (dC 32) a_3.f_Parts), one (slVP (dC 32) a_3.f_Others)] [] 1 Tryz.isAgg27 q0 rfl rfl)) <| oe [502, 500] [] (GOk.on_eq hb13 rfl rfl rfl (op_len_sl Tryz.underlying27 q0)) <| oe [503, 500] [] (GOk.on_eq hb13 rfl rfl rfl (op_bin bin_neq q0 qi)) <| ov [504, 500] (op_pick_f hb13 q0 q1) .nil) fun _ a w h => ?_
        exact ⟨!decide ((a_3.f_Path.length : Int) = (4 : Int)), hF, h.sub [0, 1, 2, 3, 4, 5, 6, 7, 8] (by rfl)⟩
  · clear h hF
    rintro a w ⟨x4, hF, h⟩
    unfold keys_Verify.j1 at hF
    show Code.wp Tryz.prog _ _ a w
    refine cnd h hF 4 [5] [0, 1, 2, 3, 5, 6, 7, 8] (fun hb5 hF h => ?_) (fun hb5 hF h => ?_)
    · refine regS mixed hn hG h [500, 0] (ov [] (op_assign qb) .nil) fun _ a w h => ?_
      refine wp_ret ?_
      obtain rfl := Option.some.inj hF
      exact ⟨.inl rfl, ret1 h Tryz.results70 (r_tmp 0 rfl) [1] [(Log_e p_0 L_0)] rfl rfl rfl⟩
    · refine wp_skip ?_
      show Code.wp Tryz.prog _ _ a w
      obtain ⟨r6, hr6, hF⟩ := bind_some hF
      refine regS mixed hn hG h [0, 1, 3, 503, 500, 5, 7, 507, 501] (ov [0] (op_move q0) <| ov [2, 6] (op_load_w 1 Tryz.isAgg23 Tryz.sizeOf23 q0) <| ov [3] (op_fieldAddr_lbm (p := (b1 2)) (n := 1) 0 1 Tryz.underlying46 rfl Tryz.sizeOf27 (by decide) q0 rfl) <| ov [500, 7] (op_load_lb1 [one (intVP .i64 a_3.f_Index)] [one (slVP (dC 32) a_3.f_Others), one (slVP (dC 32) a_3.f_Path)] 1 Tryz.isAgg27 q0 rfl rfl) <| ov [3] (op_fieldAddr_lbm (p := (b1 2)) (n := 1) 0 2 Tryz.underlying46 rfl Tryz.sizeOf27 (by decide) q0 rfl) <| ov [500, 7] (op_load_lb1 [one (intVP .i64 a_3.f_Index), one (slVP (dC 32) a_3.f_Parts)] [one (slVP (dC 32) a_3.f_Path)] 1 Tryz.isAgg27 q0 rfl rfl) <| oc [505, 504, 502, 500] [4] Tryz.call87 (lamport_Opened_ok hr6) ⟨q0, q1, q2, q3, trivial⟩ <| ov [501] (op_move q0) <| ov [500] (op_extract q0 rfl) <| ov [501] (op_extract q0 rfl) <| ob [] (op_alloc Tryz.zeroValue23 z23) <| og [501, 503] [500] [.res 10 100000 (fun v1_ _ => (lb (v1_) 23 [bytesCk 32 r6.1]))] (GOk.plain (op_store_w Tryz.sizeOf23 q0 q1 (cells_agg _)) rfl) <| ov [503] (op_assign q0) .nil) fun b7 a w h => ?_
      refine wp_seq ?_
      refine wp_cut (fun a w => ∃ (x9 : Bool), ∃ (x10 : Option O_Log), keys_Verify.j2 x9 x10 = some r ∧ SatL c [.slot 8 (boolVP x9), .res (Log_e p_0 x10)] a w) ?_ ?_
      · rcases Bool.eq_false_or_eq_true r6.2.1 with hb11 | hb11
        · replace hF := tt_of hb11 hF
          obtain ⟨r8, hr8, hF⟩ := bind_some hF
          refine reg mixed hn hG h [500, 504] (ov [4] (op_move q0) <| ov [500] (op_move q0) <| oe [500, 0] [] (GOk.on_eq hb11 rfl rfl rfl (op_move q0)) <| oe [501, 3, 8] [] (GOk.on_eq hb11 rfl rfl rfl (op_load_w 1 Tryz.isAgg23 Tryz.sizeOf23 q0)) <| oe [502, 2] [] (GOk.on_eq hb11 rfl rfl rfl (op_fieldAddr_lbm (p := (b1 2)) (n := 1) 0 0 Tryz.underlying46 rfl Tryz.sizeOf3 (by decide) q0 rfl)) <| oe [503, 500, 6] [] (GOk.on_eq hb11 rfl rfl rfl (op_load_lb1 [] [one (slVP (dC 32) a_3.f_Parts), one (slVP (dC 32) a_3.f_Others), one (slVP (dC 32) a_3.f_Path)] 1 Tryz.isAgg3 q0 rfl rfl)) <| oe [504, 2] [] (GOk.on_eq hb11 rfl rfl rfl (op_fieldAddr_lbm (p := (b1 2)) (n := 1) 0 3 Tryz.underlying46 rfl Tryz.sizeOf27 (by decide) q0 rfl)) <| oe [505, 500, 6] [] (GOk.on_eq hb11 rfl rfl rfl (op_load_lb1 [one (intVP .i64 a_3.f_Index), one (slVP (dC 32) a_3.f_Parts), one (slVP (dC 32) a_3.f_Others)] [] 1 Tryz.isAgg27 q0 rfl rfl)) <| oe [506, 505, 504, 502, 500] [7] (GOk.on_eq hb11 rfl rfl rfl (op_call Tryz.call88 (keys_Climb_ok hr8) ⟨q0, q1, q2, q3, trivial⟩)) <| oe [508, 1, 5] [] (GOk.on_eq hb11 rfl rfl rfl (op_load_w 1 Tryz.isAgg23 Tryz.sizeOf23 q0)) <| oe [509, 502, 500] [] (GOk.on_eq hb11 rfl rfl rfl (op_bin (bin_aeql Tryz.underlying23 Tryz.underlying5 Tryz.type5 Tryz.sizeOf5 Tryz.isAgg5 Tryz.eqGuardType23) q0 q1)) <| ov [510, 500] (op_pick_t hb11 q0 q1) <| ov [500] (op_assign q0) .nil) fun _ a w h => ?_
          exact ⟨decide (r8.1 = a_1), r8.2, hF, h.sub [0, 1] (by rfl)⟩
        · replace hF := ff_of hb11 hF
          refine reg mixed hn hG h [500, 7] (ov [4] (op_move q0) <| ov [500] (op_move q0) <| oe [500] [] (GOk.off_v (want := true) hb11 rfl rfl rfl rfl) <| oe [501] [] (GOk.off_v (want := true) hb11 rfl rfl rfl rfl) <| oe [502] [] (GOk.off_v (want := true) hb11 rfl rfl rfl rfl) <| oe [503] [] (GOk.off_v (want := true) hb11 rfl rfl rfl rfl) <| oe [504] [] (GOk.off_v (want := true) hb11 rfl rfl rfl rfl) <| oe [505] [] (GOk.off_v (want := true) hb11 rfl rfl rfl rfl) <| oe [506] [] (GOk.off_v (want := true) hb11 rfl rfl rfl rfl) <| oe [507] [] (GOk.off_v (want := true) hb11 rfl rfl rfl rfl) <| oe [508] [] (GOk.off_v (want := true) hb11 rfl rfl rfl rfl) <| ov [509] (op_pick_f hb11 q0 qb) <| ov [500] (op_assign q0) .nil) fun _ a w h => ?_
          exact ⟨false, r6.2.2, hF, h.sub [0, 1] (by rfl)⟩
      · clear h hF
        rintro a w ⟨x9, x10, hF, h⟩
        unfold keys_Verify.j2 at hF
        show Code.wp Tryz.prog _ _ a w
        refine wp_ret ?_
        obtain rfl := Option.some.inj hF
        exact ⟨.inl rfl, ret1 h Tryz.results70 (r_tmp 0 rfl) [1] [(Log_e p_0 x10)] rfl rfl rfl⟩

def update_Right (L_0 : Option O_Log) (a_1 : List UInt8) (a_2 : S_api_Update) : Option (Bool × (Option O_Log)) := ((update_Claim L_0 a_2.f_Home a_2.f_Old a_2.f_New).bind fun r3 => ((keys_Verify r3.2 a_1 r3.1 a_2.f_Sig).bind fun r4 => some (r4.1, r4.2)))
theorem update_Right_ok {p_0 : Value} {L_0 : Option O_Log} {a_1 : List UInt8} {a_2 : S_api_Update} {r : Bool × (Option O_Log)} (hF : update_Right L_0 a_1 a_2 = some r) : CallOk Tryz.prog KG 50 [(eqVP p_0), (aggVP [bytesCk 32 a_1]), (aggVP [one (intVP .u32 a_2.f_Home), bytesCk 32 a_2.f_Old, bytesCk 32 a_2.f_New, one (intVP .i64 a_2.f_Sig.f_Index), one (slVP (dC 32) a_2.f_Sig.f_Parts), one (slVP (dC 32) a_2.f_Sig.f_Others), one (slVP (dC 32) a_2.f_Sig.f_Path)])] [(Log_e p_0 L_0)] (fun _ => [Log_e p_0 r.2]) (boolVP r.1) := by
  refine CallOk.intro 20 Tryz.func50 rfl Tryz.ntmps50 (Nat.le_of_ble_eq_true rfl) ?_
  intro c a w hG hn h
  unfold update_Right at hF
  change SatL c [.slot 0 (eqVP p_0), .slot 1 (aggVP [bytesCk 32 a_1]), .slot 2 (aggVP [one (intVP .u32 a_2.f_Home), bytesCk 32 a_2.f_Old, bytesCk 32 a_2.f_New, one (intVP .i64 a_2.f_Sig.f_Index), one (slVP (dC 32) a_2.f_Sig.f_Parts), one (slVP (dC 32) a_2.f_Sig.f_Others), one (slVP (dC 32) a_2.f_Sig.f_Path)]), .res (Log_e p_0 L_0)] a w at h
  refine regS mixed hn hG h [0, 504, 502, 3, 503, 501] (ob [1] (op_box q0 (cells_agg _)) <| ob [2] (op_box q0 (cells_agg _)) <| ov [] (op_assign qb) .nil) fun b1 a w h => ?_
  obtain ⟨r3, hr3, hF⟩ := bind_some hF
  obtain ⟨r4, hr4, hF⟩ := bind_some hF
  refine regS mixed hn hG h [500, 501] (ov [0] (op_move q0) <| ov [1, 4] (op_load_w 1 Tryz.isAgg23 Tryz.sizeOf23 q0) <| ov [0] (op_move q0) <| ov [2] (op_fieldAddr_lbm (p := (b1 1)) (n := 1) 0 0 Tryz.underlying48 rfl Tryz.sizeOf31 (by decide) q0 rfl) <| ov [500, 5] (op_load_lb1 [] [bytesCk 32 a_2.f_Old, bytesCk 32 a_2.f_New, one (intVP .i64 a_2.f_Sig.f_Index), one (slVP (dC 32) a_2.f_Sig.f_Parts), one (slVP (dC 32) a_2.f_Sig.f_Others), one (slVP (dC 32) a_2.f_Sig.f_Path)] 1 Tryz.isAgg31 q0 rfl rfl) <| ov [2] (op_fieldAddr_lbm (p := (b1 1)) (n := 32) 0 1 Tryz.underlying48 rfl Tryz.sizeOf23 (by decide) q0 rfl) <| ov [500, 5] (op_load_lb [one (intVP .u32 a_2.f_Home)] [bytesCk 32 a_2.f_Old] [bytesCk 32 a_2.f_New, one (intVP .i64 a_2.f_Sig.f_Index), one (slVP (dC 32) a_2.f_Sig.f_Parts), one (slVP (dC 32) a_2.f_Sig.f_Others), one (slVP (dC 32) a_2.f_Sig.f_Path)] 1 Tryz.isAgg23 Tryz.sizeOf23 q0 rfl rfl rfl) <| ov [2] (op_fieldAddr_lbm (p := (b1 1)) (n := 32) 0 33 Tryz.underlying48 rfl Tryz.sizeOf23 (by decide) q0 rfl) <| ov [500, 5] (op_load_lb [one (intVP .u32 a_2.f_Home), bytesCk 32 a_2.f_Old] [bytesCk 32 a_2.f_New] [one (intVP .i64 a_2.f_Sig.f_Index), one (slVP (dC 32) a_2.f_Sig.f_Parts), one (slVP (dC 32) a_2.f_Sig.f_Others), one (slVP (dC 32) a_2.f_Sig.f_Path)] 1 Tryz.isAgg23 Tryz.sizeOf23 q0 rfl rfl rfl) <| oc [506, 504, 502, 500] [3] Tryz.call25 (update_Claim_ok hr3) ⟨q0, q1, q2, q3, trivial⟩ <| ov [2] (op_fieldAddr_lbm (p := (b1 1)) (n := 4) 0 65 Tryz.underlying48 rfl Tryz.sizeOf46 (by decide) q0 rfl) <| ov [500, 5] (op_load_lb [one (intVP .u32 a_2.f_Home), bytesCk 32 a_2.f_Old, bytesCk 32 a_2.f_New] [one (intVP .i64 a_2.f_Sig.f_Index), one (slVP (dC 32) a_2.f_Sig.f_Parts), one (slVP (dC 32) a_2.f_Sig.f_Others), one (slVP (dC 32) a_2.f_Sig.f_Path)] [] 1 Tryz.isAgg46 Tryz.sizeOf46 q0 rfl rfl rfl) <| oc [512, 511, 503, 500] [502] Tryz.call70 (keys_Verify_ok hr4) ⟨q0, q1, q2, q3, trivial⟩ <| ov [501] (op_assign q0) .nil) fun _ a w h => ?_
  refine wp_ret ?_
  obtain rfl := Option.some.inj hF
  exact ⟨.inl rfl, ret1 h Tryz.results50 (r_tmp 0 rfl) [1] [(Log_e p_0 r4.2)] rfl rfl rfl⟩

def replica_trusted (L_0 : Option O_Log) (a_1 : S_api_Replica) (a_2 : S_api_Update) : Option (Int × (Option O_Log)) := ((replica_open a_1).bind fun r3 => (if (!decide (r3 = (0 : Int))) = true then some (r3, L_0) else (if (!decide (a_2.f_Home = a_1.f_Chain)) = true then some (38, L_0) else (if (!decide (a_2.f_Old = a_1.f_Committed)) = true then some (32, L_0) else ((update_Right L_0 a_1.f_Updater a_2).bind fun r7 => (if (!r7.1) = true then some (21, r7.2) else some (0, r7.2)))))))
theorem replica_trusted_ok {p_0 : Value} {L_0 : Option O_Log} {a_1 : S_api_Replica} {a_2 : S_api_Update} {r : Int × (Option O_Log)} (hF : replica_trusted L_0 a_1 a_2 = some r) : CallOk Tryz.prog KG 27 [(eqVP p_0), (aggVP [one (intVP .u32 a_1.f_Chain), one (intVP .u32 a_1.f_Here), bytesCk 32 a_1.f_Updater, one (slVP (dC 32) a_1.f_Watchers), one (intVP .u64 a_1.f_Window), bytesCk 32 a_1.f_Committed, one (slVP S_api_Timed.ck a_1.f_Roots), one (slVP S_api_State.ck a_1.f_States), one (boolVP a_1.f_Failed), one (boolVP a_1.f_Cut)]), (aggVP [one (intVP .u32 a_2.f_Home), bytesCk 32 a_2.f_Old, bytesCk 32 a_2.f_New, one (intVP .i64 a_2.f_Sig.f_Index), one (slVP (dC 32) a_2.f_Sig.f_Parts), one (slVP (dC 32) a_2.f_Sig.f_Others), one (slVP (dC 32) a_2.f_Sig.f_Path)])] [(Log_e p_0 L_0)] (fun _ => [Log_e p_0 r.2]) (intVP .i64 r.1) := by
  refine CallOk.intro 32 Tryz.func27 rfl Tryz.ntmps27 (Nat.le_of_ble_eq_true rfl) ?_
  intro c a w hG hn h
  unfold replica_trusted at hF
  change SatL c [.slot 0 (eqVP p_0), .slot 1 (aggVP [one (intVP .u32 a_1.f_Chain), one (intVP .u32 a_1.f_Here), bytesCk 32 a_1.f_Updater, one (slVP (dC 32) a_1.f_Watchers), one (intVP .u64 a_1.f_Window), bytesCk 32 a_1.f_Committed, one (slVP S_api_Timed.ck a_1.f_Roots), one (slVP S_api_State.ck a_1.f_States), one (boolVP a_1.f_Failed), one (boolVP a_1.f_Cut)]), .slot 2 (aggVP [one (intVP .u32 a_2.f_Home), bytesCk 32 a_2.f_Old, bytesCk 32 a_2.f_New, one (intVP .i64 a_2.f_Sig.f_Index), one (slVP (dC 32) a_2.f_Sig.f_Parts), one (slVP (dC 32) a_2.f_Sig.f_Others), one (slVP (dC 32) a_2.f_Sig.f_Path)]), .res (Log_e p_0 L_0)] a w at h
  refine regS mixed hn hG h [0, 504, 502, 3, 503, 501] (ob [1] (op_box q0 (cells_agg _)) <| ob [2] (op_box q0 (cells_agg _)) <| ov [] (op_assign qi) .nil) fun b1 a w h => ?_
  refine wp_seq ?_
  obtain ⟨r3, hr3, hF⟩ := bind_some hF
  refine regS mixed hn hG h [0, 1, 2, 500, 3, 4, 5] (ov [1, 4] (op_load_w 1 Tryz.isAgg36 Tryz.sizeOf36 q0) <| oc [500] [] Tryz.call49 (replica_open_ok hr3) ⟨q0, trivial⟩ <| ov [500] (op_assign q0) .nil) fun _ a w h => ?_
  refine regS mixed hn hG h [0, 1, 2, 3, 500, 4, 5, 6] (ov [3] (op_move q0) <| ov [500] (op_bin bin_neq q0 qi) .nil) fun _ a w h => ?_
  refine cnd h hF 4 [3, 5] [0, 1, 2, 5, 6, 7] (fun hb4 hF h => ?_) (fun hb4 hF h => ?_)
  · refine regS mixed hn hG h [500, 1] (ov [0] (op_move q0) <| ov [500] (op_assign q0) .nil) fun _ a w h => ?_
    refine wp_ret ?_
    obtain rfl := Option.some.inj hF
    exact ⟨.inl rfl, ret1 h Tryz.results27 (r_tmp 0 rfl) [1] [(Log_e p_0 L_0)] rfl rfl rfl⟩
  · refine wp_skip ?_
    show Code.wp Tryz.prog _ _ a w
    refine wp_seq ?_
    refine wp_block ?_
    refine regS mixed hn hG h [0, 1, 2, 500, 3, 4, 5] (ov [2] (op_fieldAddr_lbm (p := (b1 1)) (n := 1) 0 0 Tryz.underlying48 rfl Tryz.sizeOf31 (by decide) q0 rfl) <| ov [500, 5] (op_load_lb1 [] [bytesCk 32 a_2.f_Old, bytesCk 32 a_2.f_New, one (intVP .i64 a_2.f_Sig.f_Index), one (slVP (dC 32) a_2.f_Sig.f_Parts), one (slVP (dC 32) a_2.f_Sig.f_Others), one (slVP (dC 32) a_2.f_Sig.f_Path)] 1 Tryz.isAgg31 q0 rfl rfl) <| ov [1] (op_fieldAddr_lbm (p := (b1 0)) (n := 1) 0 0 Tryz.underlying36 rfl Tryz.sizeOf31 (by decide) q0 rfl) <| ov [500, 4] (op_load_lb1 [] [one (intVP .u32 a_1.f_Here), bytesCk 32 a_1.f_Updater, one (slVP (dC 32) a_1.f_Watchers), one (intVP .u64 a_1.f_Window), bytesCk 32 a_1.f_Committed, one (slVP S_api_Timed.ck a_1.f_Roots), one (slVP S_api_State.ck a_1.f_States), one (boolVP a_1.f_Failed), one (boolVP a_1.f_Cut)] 1 Tryz.isAgg31 q0 rfl rfl) <| ov [502, 500] (op_bin bin_neq q0 q1) <| ov [500] (op_assign q0) .nil) fun _ a w h => ?_
    refine cnd h hF 3 [4] [0, 1, 2, 4, 5, 6] (fun hb5 hF h => ?_) (fun hb5 hF h => ?_)
    · refine regS mixed hn hG h [500, 0] (ov [] (op_assign qi) .nil) fun _ a w h => ?_
      refine wp_ret ?_
      obtain rfl := Option.some.inj hF
      exact ⟨.inl rfl, ret1 h Tryz.results27 (r_tmp 0 rfl) [1] [(Log_e p_0 L_0)] rfl rfl rfl⟩
    · refine regS mixed hn hG h [0, 1, 2, 500, 3, 4, 5] (ov [2] (op_fieldAddr_lbm (p := (b1 1)) (n := 32) 0 1 Tryz.underlying48 rfl Tryz.sizeOf23 (by decide) q0 rfl) <| ov [500, 5] (op_load_lb [one (intVP .u32 a_2.f_Home)] [bytesCk 32 a_2.f_Old] [bytesCk 32 a_2.f_New, one (intVP .i64 a_2.f_Sig.f_Index), one (slVP (dC 32) a_2.f_Sig.f_Parts), one (slVP (dC 32) a_2.f_Sig.f_Others), one (slVP (dC 32) a_2.f_Sig.f_Path)] 1 Tryz.isAgg23 Tryz.sizeOf23 q0 rfl rfl rfl) <| ov [1] (op_fieldAddr_lbm (p := (b1 0)) (n := 32) 0 36 Tryz.underlying36 rfl Tryz.sizeOf23 (by decide) q0 rfl) <| ov [500, 4] (op_load_lb [one (intVP .u32 a_1.f_Chain), one (intVP .u32 a_1.f_Here), bytesCk 32 a_1.f_Updater, one (slVP (dC 32) a_1.f_Watchers), one (intVP .u64 a_1.f_Window)] [bytesCk 32 a_1.f_Committed] [one (slVP S_api_Timed.ck a_1.f_Roots), one (slVP S_api_State.ck a_1.f_States), one (boolVP a_1.f_Failed), one (boolVP a_1.f_Cut)] 1 Tryz.isAgg23 Tryz.sizeOf23 q0 rfl rfl rfl) <| ov [502, 500] (op_bin (bin_aneq Tryz.underlying23 Tryz.underlying5 Tryz.type5 Tryz.sizeOf5 Tryz.isAgg5 Tryz.eqGuardType23) q0 q1) <| ov [500] (op_assign q0) .nil) fun _ a w h => ?_
      refine cnd h hF 3 [4] [0, 1, 2, 4, 5, 6] (fun hb6 hF h => ?_) (fun hb6 hF h => ?_)
      · refine regS mixed hn hG h [500, 0] (ov [] (op_assign qi) .nil) fun _ a w h => ?_
        refine wp_ret ?_
        obtain rfl := Option.some.inj hF
        exact ⟨.inl rfl, ret1 h Tryz.results27 (r_tmp 0 rfl) [1] [(Log_e p_0 L_0)] rfl rfl rfl⟩
      · obtain ⟨r7, hr7, hF⟩ := bind_some hF
        refine regS mixed hn hG h [500, 502] (ov [0] (op_move q0) <| ov [1] (op_fieldAddr_lbm (p := (b1 0)) (n := 32) 0 2 Tryz.underlying36 rfl Tryz.sizeOf23 (by decide) q0 rfl) <| ov [500, 4] (op_load_lb [one (intVP .u32 a_1.f_Chain), one (intVP .u32 a_1.f_Here)] [bytesCk 32 a_1.f_Updater] [one (slVP (dC 32) a_1.f_Watchers), one (intVP .u64 a_1.f_Window), bytesCk 32 a_1.f_Committed, one (slVP S_api_Timed.ck a_1.f_Roots), one (slVP S_api_State.ck a_1.f_States), one (boolVP a_1.f_Failed), one (boolVP a_1.f_Cut)] 1 Tryz.isAgg23 Tryz.sizeOf23 q0 rfl rfl rfl) <| ov [2, 5] (op_load_w 1 Tryz.isAgg48 Tryz.sizeOf48 q0) <| oc [503, 501, 500] [3] Tryz.call50 (update_Right_ok hr7) ⟨q0, q1, q2, trivial⟩ <| ov [501] (op_un (un_not _) q0) <| ov [500] (op_assign q0) .nil) fun _ a w h => ?_
        refine cnd h hF 0 [1] [1] (fun hb8 hF h => ?_) (fun hb8 hF h => ?_)
        · refine regS mixed hn hG h [500, 0] (ov [] (op_assign qi) .nil) fun _ a w h => ?_
          refine wp_ret ?_
          obtain rfl := Option.some.inj hF
          exact ⟨.inl rfl, ret1 h Tryz.results27 (r_tmp 0 rfl) [1] [(Log_e p_0 r7.2)] rfl rfl rfl⟩
        · refine wp_skip ?_
          show Code.wp Tryz.prog _ _ a w
          refine regS mixed hn hG h [500, 0] (ov [] (op_assign qi) .nil) fun _ a w h => ?_
          refine wp_ret ?_
          obtain rfl := Option.some.inj hF
          exact ⟨.inl rfl, ret1 h Tryz.results27 (r_tmp 0 rfl) [1] [(Log_e p_0 r7.2)] rfl rfl rfl⟩

def slices_IndexFunc_api_Timed.b1 (a_0 : List (S_api_Timed)) (a_1 : ((S_api_Timed)) → Option (Bool)) (x5 : Int) : Option (Flow Int Int) := (if (decide (x5 < (a_0.length : Int))) = true then (if (0 : Int) ≤ x5 ∧ x5 < a_0.length then ((a_1 (a_0.getD x5.toNat default)).bind fun r13 => (if r13 = true then some (.ret x5) else some (.cont (IntKind.wrap .i64 (x5 + 1))))) else none) else some (.brk x5))
def slices_IndexFunc_api_Timed (a_0 : List (S_api_Timed)) (a_1 : ((S_api_Timed)) → Option (Bool)) : Option Int := ((loopN (fun s : Int => slices_IndexFunc_api_Timed.b1 a_0 a_1 s) (((a_0.length : Int) - 0 : Int).toNat + 2) 0).bind fun cr => match cr with | .ret r => some r | .next y19 => some (-1 : Int))
theorem slices_IndexFunc_api_Timed_ok {a_0 : List (S_api_Timed)} {a_1 : ((S_api_Timed)) → Option (Bool)} {r : Int} (hF : slices_IndexFunc_api_Timed a_0 a_1 = some r) : CallOk Tryz.prog KG 51 [(slVP S_api_Timed.ck a_0), (fnVP Tryz.prog KG (fun x : S_api_Timed => [(aggVP [bytesCk 32 x.f_Root, one (intVP .u64 x.f_At)])]) (fun r : Bool => (boolVP r)) a_1)] [] (fun _ => []) (intVP .i64 r) := by
  refine CallOk.intro 19 Tryz.func51 rfl Tryz.ntmps51 (Nat.le_of_ble_eq_true rfl) ?_
  intro c a w hG hn h
  unfold slices_IndexFunc_api_Timed at hF
  change SatL c [.slot 0 (slVP S_api_Timed.ck a_0), .slot 1 (fnVP Tryz.prog KG (fun x : S_api_Timed => [(aggVP [bytesCk 32 x.f_Root, one (intVP .u64 x.f_At)])]) (fun r : Bool => (boolVP r)) a_1)] a w at h
  refine regS mixed hn hG h [0, 1] (ov [] (op_assign qi) .nil) fun _ a w h => ?_
  refine wp_seq ?_
  refine regS mixed hn hG h [0, 1, 501, 500] (ov [0] (op_move q0) <| ov [500] (op_len_sl Tryz.underlying33 q0) <| ov [] (op_move qi) .nil) fun _ a w h => ?_
  refine wp_block ?_
  obtain ⟨cr15, hl16, hF⟩ := bind_some hF
  refine wp_mono (wp_loopN (R := Int) (S := Int) (fun s a w => SatL c [.slot 0 (slVP S_api_Timed.ck a_0), .slot 1 (fnVP Tryz.prog KG (fun x : S_api_Timed => [(aggVP [bytesCk 32 x.f_Root, one (intVP .u64 x.f_At)])]) (fun r : Bool => (boolVP r)) a_1), .slot 7 (intVP .i64 (a_0.length : Int)), .slot 8 (intVP .i64 s)] a w) (fun res e a w => match res with | .next s => e = .exit 0 ∧ SatL c [] a w | .ret r => e = .ret ∧ RetOk Tryz.prog Tryz.f51 c (intVP .i64 r) (fun _ => []) a w) ?_ _ 0 _ _ _ (h.sub [0, 1, 2, 3] (by rfl)) hl16) ?_
  · clear hl16 hF h
    intro x5 a w o h hF
    change slices_IndexFunc_api_Timed.b1 a_0 a_1 x5 = some o at hF
    unfold slices_IndexFunc_api_Timed.b1 at hF
    change SatL c [.slot 0 (slVP S_api_Timed.ck a_0), .slot 1 (fnVP Tryz.prog KG (fun x : S_api_Timed => [(aggVP [bytesCk 32 x.f_Root, one (intVP .u64 x.f_At)])]) (fun r : Bool => (boolVP r)) a_1), .slot 7 (intVP .i64 (a_0.length : Int)), .slot 8 (intVP .i64 x5)] a w at h
    refine regS mixed hn hG h [0, 1, 2, 3, 500] (ov [3, 2] (op_bin bin_lss q0 q1) .nil) fun _ a w h => ?_
    refine wp_seq ?_
    refine cnd h hF 4 [0, 1, 2, 3] [0, 1, 2, 3] (fun hb11 hF h => ?_) (fun hb11 hF h => ?_)
    · refine wp_skip ?_
      show Code.wp Tryz.prog _ _ a w
      refine wp_seq ?_
      refine wp_block ?_
      refine regS mixed hn hG h [0, 1, 500, 2, 3] (ov [3] (op_move q0) <| ov [500] (op_assign q0) .nil) fun _ a w h => ?_
      obtain ⟨hv12, hF⟩ := ite_some hF
      obtain ⟨r13, hr13, hF⟩ := bind_some hF
      refine regS mixed hn hG h [0, 1, 2, 3, 4, 500] (ov [1] (op_move q0) <| ov [0] (op_move q0) <| ov [2] (op_move q0) <| ov [501, 500] (op_indexAddr_sl Tryz.underlying33 Tryz.sizeOf86 S_api_Timed.lens q0 q1 hv12) <| ov [500] (op_load_pp [bytesCk 32 ((a_0.getD x5.toNat default).f_Root), one (intVP .u64 ((a_0.getD x5.toNat default).f_At))] [] Tryz.isAgg86 Tryz.sizeOf86 q0 rfl) <| ov [504, 500] (op_callfn (A := (fun x : S_api_Timed => [(aggVP [bytesCk 32 x.f_Root, one (intVP .u64 x.f_At)])])) (B := (fun r : Bool => (boolVP r))) (g := a_1) (x := (a_0.getD x5.toNat default)) q0 ⟨q1, trivial⟩ hr13) .nil) fun _ a w h => ?_
      refine cnd h hF 5 [2] [0, 1, 3, 4] (fun hb14 hF h => ?_) (fun hb14 hF h => ?_)
      · refine regS mixed hn hG h [500] (ov [0] (op_move q0) <| ov [500] (op_assign q0) .nil) fun _ a w h => ?_
        refine wp_ret ?_
        obtain rfl := Option.some.inj hF
        exact ⟨ret_ne, rfl, ret1 h Tryz.results51 (r_tmp 0 rfl) [] [] rfl rfl rfl⟩
      · refine wp_skip ?_
        show Code.wp Tryz.prog _ _ a w
        refine reg mixed hn hG h [0, 1, 2, 500] (ov [3] (op_bin bin_add q0 qi) <| od [500] 3 (op_move q0) .nil) fun _ a w h => ?_
        obtain rfl := Option.some.inj hF
        exact ⟨rfl, h.sub [0, 1, 2, 3] (by rfl)⟩
    · refine wp_exit ?_
      obtain rfl := Option.some.inj hF
      exact ⟨exit_ne _, rfl, h.sub [] (by rfl)⟩
  · clear hl16
    intro e a w hq
    cases cr15 with
    | ret r17 =>
      obtain ⟨rfl, hq⟩ := hq
      obtain rfl := Option.some.inj hF
      exact ⟨.inl rfl, hq⟩
    | next y19 =>
      obtain ⟨rfl, h⟩ := hq
      change SatL c [] a w at h
      refine inBlock_at ?_
      show Code.wp Tryz.prog _ _ a w
      refine regS mixed hn hG h [500] (ov [] (op_assign qi) .nil) fun _ a w h => ?_
      refine wp_ret ?_
      obtain rfl := Option.some.inj hF
      exact ⟨.inl rfl, ret1 h Tryz.results51 (r_tmp 0 rfl) [] [] rfl rfl rfl⟩

def replica_root_1 (a_0 : S_api_Timed) (c_1 : List UInt8) : Option Bool := some (decide (a_0.f_Root = c_1))
theorem replica_root_1_ok {a_0 : S_api_Timed} {c_1 : List UInt8} {r : Bool} (hF : replica_root_1 a_0 c_1 = some r) : CallOk Tryz.prog KG 52 [(aggVP [bytesCk 32 a_0.f_Root, one (intVP .u64 a_0.f_At)]), (ppVP [bytesCk 32 c_1])] [] (fun _ => []) (boolVP r) := by
  refine CallOk.intro 8 Tryz.func52 rfl Tryz.ntmps52 (Nat.le_of_ble_eq_true rfl) ?_
  intro c a w hG hn h
  unfold replica_root_1 at hF
  change SatL c [.slot 0 (aggVP [bytesCk 32 a_0.f_Root, one (intVP .u64 a_0.f_At)]), .slot 1 (ppVP [bytesCk 32 c_1])] a w at h
  refine regS mixed hn hG h [1, 502, 501] (ob [0] (op_box q0 (cells_agg _)) <| ov [] (op_assign qb) .nil) fun b1 a w h => ?_
  refine regS mixed hn hG h [500] (ov [1] (op_fieldAddr_lbm (p := (b1 0)) (n := 32) 0 0 Tryz.underlying86 rfl Tryz.sizeOf23 (by decide) q0 rfl) <| ov [500, 2] (op_load_lb [] [bytesCk 32 a_0.f_Root] [one (intVP .u64 a_0.f_At)] 1 Tryz.isAgg23 Tryz.sizeOf23 q0 rfl rfl rfl) <| ov [0] (op_load_pp [bytesCk 32 c_1] [] Tryz.isAgg23 Tryz.sizeOf23 q0 rfl) <| ov [501, 500] (op_bin (bin_aeql Tryz.underlying23 Tryz.underlying5 Tryz.type5 Tryz.sizeOf5 Tryz.isAgg5 Tryz.eqGuardType23) q0 q1) <| ov [500] (op_assign q0) .nil) fun _ a w h => ?_
  refine wp_ret ?_
  obtain rfl := Option.some.inj hF
  exact ⟨.inl rfl, ret1 h Tryz.results52 (r_tmp 0 rfl) [] [] rfl rfl rfl⟩

def replica_root (a_0 : S_api_Replica) (a_1 : List UInt8) : Option Int := ((slices_IndexFunc_api_Timed a_0.f_Roots (fun x : S_api_Timed => replica_root_1 x a_1)).bind fun r3 => some r3)
theorem replica_root_ok {a_0 : S_api_Replica} {a_1 : List UInt8} {r : Int} (hF : replica_root a_0 a_1 = some r) : CallOk Tryz.prog KG 28 [(aggVP [one (intVP .u32 a_0.f_Chain), one (intVP .u32 a_0.f_Here), bytesCk 32 a_0.f_Updater, one (slVP (dC 32) a_0.f_Watchers), one (intVP .u64 a_0.f_Window), bytesCk 32 a_0.f_Committed, one (slVP S_api_Timed.ck a_0.f_Roots), one (slVP S_api_State.ck a_0.f_States), one (boolVP a_0.f_Failed), one (boolVP a_0.f_Cut)]), (aggVP [bytesCk 32 a_1])] [] (fun _ => []) (intVP .i64 r) := by
  refine CallOk.intro 9 Tryz.func28 rfl Tryz.ntmps28 (Nat.le_of_ble_eq_true rfl) ?_
  intro c a w hG hn h
  unfold replica_root at hF
  change SatL c [.slot 0 (aggVP [one (intVP .u32 a_0.f_Chain), one (intVP .u32 a_0.f_Here), bytesCk 32 a_0.f_Updater, one (slVP (dC 32) a_0.f_Watchers), one (intVP .u64 a_0.f_Window), bytesCk 32 a_0.f_Committed, one (slVP S_api_Timed.ck a_0.f_Roots), one (slVP S_api_State.ck a_0.f_States), one (boolVP a_0.f_Failed), one (boolVP a_0.f_Cut)]), .slot 1 (aggVP [bytesCk 32 a_1])] a w at h
  refine regS mixed hn hG h [504, 502, 503, 501] (ob [0] (op_box q0 (cells_agg _)) <| ob [1] (op_box q0 (cells_agg _)) <| ov [] (op_assign qi) .nil) fun b1 a w h => ?_
  replace h := h.publish 3 rfl
  replace h := h.factslot 1 3 rfl rfl
  replace h := h.sub [0, 1, 2] (by rfl)
  change SatL c [.slot 2 (lpVP (b1 0) 0), .slot 3 (ppVP [bytesCk 32 a_1]), .res (lb (b1 0) 36 [one (intVP .u32 a_0.f_Chain), one (intVP .u32 a_0.f_Here), bytesCk 32 a_0.f_Updater, one (slVP (dC 32) a_0.f_Watchers), one (intVP .u64 a_0.f_Window), bytesCk 32 a_0.f_Committed, one (slVP S_api_Timed.ck a_0.f_Roots), one (slVP S_api_State.ck a_0.f_States), one (boolVP a_0.f_Failed), one (boolVP a_0.f_Cut)])] a w at h
  obtain ⟨r3, hr3, hF⟩ := bind_some hF
  refine regS mixed hn hG h [500] (ov [0] (op_fieldAddr_lbm (p := (b1 0)) (n := 1) 0 68 Tryz.underlying36 rfl Tryz.sizeOf33 (by decide) q0 rfl) <| ov [500, 2] (op_load_lb1 [one (intVP .u32 a_0.f_Chain), one (intVP .u32 a_0.f_Here), bytesCk 32 a_0.f_Updater, one (slVP (dC 32) a_0.f_Watchers), one (intVP .u64 a_0.f_Window), bytesCk 32 a_0.f_Committed] [one (slVP S_api_State.ck a_0.f_States), one (boolVP a_0.f_Failed), one (boolVP a_0.f_Cut)] 1 Tryz.isAgg33 q0 rfl rfl) <| ov [1] (op_makeFunc_pp (A := (fun x : S_api_Timed => [(aggVP [bytesCk 32 x.f_Root, one (intVP .u64 x.f_At)])])) (B := (fun r : Bool => (boolVP r))) (g := (fun x : S_api_Timed => replica_root_1 x a_1)) (Cs := [(ppVP [bytesCk 32 a_1])]) Tryz.call52 (fun x r h => replica_root_1_ok h) ⟨q0, trivial⟩) <| oc [501, 500] [] Tryz.call51 (slices_IndexFunc_api_Timed_ok hr3) ⟨q0, q1, trivial⟩ <| ov [500] (op_assign q0) .nil) fun _ a w h => ?_
  refine wp_ret ?_
  obtain rfl := Option.some.inj hF
  exact ⟨.inl rfl, ret1 h Tryz.results28 (r_tmp 0 rfl) [] [] rfl rfl rfl⟩

def amount_Add (a_0 : Int) (a_1 : Int) : Option (Int × Int) := (if (decide (((a_0 + a_1 + 0) / 18446744073709551616) = (0 : Int))) = true then some ((a_0 + a_1 + 0) % 18446744073709551616, 0) else some (0, 10))
theorem amount_Add_ok {a_0 : Int} {a_1 : Int} {r : Int × Int} (hF : amount_Add a_0 a_1 = some r) : CallOk Tryz.prog KG 29 [(intVP .u64 a_0), (intVP .u64 a_1)] [] (fun _ => []) (tupVP [(intVP .u64 r.1), (intVP .i64 r.2)]) := by
  refine CallOk.intro 17 Tryz.func29 rfl Tryz.ntmps29 (Nat.le_of_ble_eq_true rfl) ?_
  intro c a w hG hn h
  unfold amount_Add at hF
  change SatL c [.slot 0 (intVP .u64 a_0), .slot 1 (intVP .u64 a_1)] a w at h
  refine regS mixed hn hG h [0, 1] (ov [] (op_assign qi) <| ov [] (op_assign qi) .nil) fun _ a w h => ?_
  refine wp_seq ?_
  refine regS mixed hn hG h [501, 500] (ov [0] (op_move q0) <| ov [1] (op_move q0) <| ov [501, 500] (op_add64 add64_run q0 q1 qi (by decide)) <| ov [500] (op_move q0) <| ov [500] (op_extract q0 rfl) <| ov [501] (op_extract q0 rfl) <| ov [501] (op_assign q0) <| ov [501] (op_assign q0) .nil) fun _ a w h => ?_
  refine regS mixed hn hG h [0, 500] (ov [1] (op_move q0) <| ov [500] (op_bin bin_eql q0 qi) .nil) fun _ a w h => ?_
  refine cnd h hF 1 [0] [] (fun hb1 hF h => ?_) (fun hb1 hF h => ?_)
  · refine regS mixed hn hG h [501, 500] (ov [0] (op_move q0) <| ov [500] (op_assign q0) <| ov [] (op_assign qi) .nil) fun _ a w h => ?_
    refine wp_ret ?_
    obtain rfl := Option.some.inj hF
    exact ⟨.inl rfl, retn h (rs := [.tmp 4, .tmp 5]) (Vs := [(intVP .u64 ((a_0 + a_1 + 0) % 18446744073709551616)), (intVP .i64 0)]) Tryz.results29 (by decide) ⟨(r_tmp 0 rfl), (r_tmp 1 rfl), trivial⟩ [] [] rfl rfl rfl⟩
  · refine wp_skip ?_
    show Code.wp Tryz.prog _ _ a w
    refine regS mixed hn hG h [501, 500] (ov [] (op_assign qi) <| ov [] (op_assign qi) .nil) fun _ a w h => ?_
    refine wp_ret ?_
    obtain rfl := Option.some.inj hF
    exact ⟨.inl rfl, retn h (rs := [.tmp 4, .tmp 5]) (Vs := [(intVP .u64 0), (intVP .i64 10)]) Tryz.results29 (by decide) ⟨(r_tmp 0 rfl), (r_tmp 1 rfl), trivial⟩ [] [] rfl rfl rfl⟩

def slices_Clone_api_Timed (a_0 : List (S_api_Timed)) : Option (List (S_api_Timed)) := (if a_0.length * 40 ≤ 140737488355328 then some a_0 else none)
theorem slices_Clone_api_Timed_ok {a_0 r : List (S_api_Timed)} (hF : slices_Clone_api_Timed a_0 = some r) : CallOk Tryz.prog KG 30 [(slVP S_api_Timed.ck a_0)] [] (fun _ => []) (slVP S_api_Timed.ck r) := by
  unfold slices_Clone_api_Timed at hF
  obtain ⟨hv1, hF⟩ := ite_some hF
  obtain rfl := Option.some.inj hF
  refine CallOk.intro 8 Tryz.func30 rfl Tryz.ntmps30 (Nat.le_of_ble_eq_true rfl) ?_
  intro c a w hG hn h
  change SatL c [.slot 0 (slVP S_api_Timed.ck a_0)] a w at h
  refine wp_seq ?_
  refine region_do (n := 8) [.slot 2 100000 100000 (fun _ _ => (eqVP (.slice none 0 0)))] [0] [⟨[], [], [1], [], some 2⟩] [0] mixed hn hG h (by kernel_rfl) ?_ ?_
  · exact ⟨⟨rfl, fun β => (GOk.plain (op_assign (opc (ec _))) rfl)⟩, trivial⟩
  clear h
  intro β a w h
  change SatL c [.slot 0 (slVP S_api_Timed.ck a_0)] a w at h
  clear β
  show Code.wp Tryz.prog _ _ a w
  refine wp_seq ?_
  refine wp_seq ?_
  refine region_do (n := 8) [.slot 3 100000 100000 (fun _ _ => (slVP S_api_Timed.ck a_0)), .slot 4 100000 100000 (fun _ _ => (nilqVP a_0))] [0, 1] [⟨[0], [], [1], [], some 3⟩, ⟨[1], [], [2], [0], some 4⟩] [0, 2] mixed hn hG h (by kernel_rfl) ?_ ?_
  · exact ⟨⟨rfl, fun β => (GOk.plain (op_move (opt 0 rfl)) rfl)⟩, ⟨rfl, fun β => (GOk.plain (op_bin (bin_slnil Tryz.underlying33) (opt 0 rfl) (opc (ec _))) rfl)⟩, trivial⟩
  clear h
  intro β a w h
  change SatL c [.slot 0 (slVP S_api_Timed.ck a_0), .slot 4 (nilqVP a_0)] a w at h
  clear β
  show Code.wp Tryz.prog _ _ a w
  obtain ⟨b0, hb0, h⟩ := h.nilq 1 rfl
  change SatL c [.slot 0 (slVP S_api_Timed.ck a_0), .slot 4 (boolVP b0)] a w at h
  refine cond_L h 1 rfl (fun hb => ?_) (fun hb => ?_)
  · obtain rfl := hb0 hb
    replace h := h.sub [] (by rfl)
    change SatL c [] a w at h
    refine wp_seq ?_
    refine region_do (n := 8) [.slot 2 100000 100000 (fun _ _ => (eqVP (.slice none 0 0)))] [0] [⟨[], [], [0], [], some 2⟩] [0] mixed hn hG h (by kernel_rfl) ?_ ?_
    · exact ⟨⟨rfl, fun β => (GOk.plain (op_assign (opc (ec _))) rfl)⟩, trivial⟩
    clear h
    intro β a w h
    change SatL c [.slot 2 (eqVP (.slice none 0 0))] a w at h
    clear β
    show Code.wp Tryz.prog _ _ a w
    refine wp_ret ?_
    exact ⟨.inl rfl, ret1 h Tryz.results30 (r_nil 0 rfl) [] [] rfl rfl rfl⟩
  · replace h := h.sub [0] (by rfl)
    change SatL c [.slot 0 (slVP S_api_Timed.ck a_0)] a w at h
    refine wp_skip ?_
    show Code.wp Tryz.prog _ _ a w
    refine wp_seq ?_
    refine region_do (n := 8) [.slot 5 100000 100000 (fun _ _ => empVP), .slot 6 100000 100000 (fun _ _ => (slVP S_api_Timed.ck a_0)), .slot 7 100000 100000 (fun _ _ => (slVP S_api_Timed.ck a_0)), .slot 2 100000 100000 (fun _ _ => (slVP S_api_Timed.ck a_0))] [0, 1, 2, 3] [⟨[], [], [1], [], some 5⟩, ⟨[0], [], [2], [0], some 6⟩, ⟨[1, 2], [], [3], [0, 1], some 7⟩, ⟨[3], [], [4], [0, 1, 2], some 2⟩] [4] mixed hn hG h (by kernel_rfl) ?_ ?_
    · exact ⟨⟨rfl, fun β => (GOk.plain (op_lit0 Tryz.underlying33 Tryz.sizeOf86 Tryz.zeroValue86) rfl)⟩, ⟨rfl, fun β => (GOk.plain (op_move (opt 0 rfl)) rfl)⟩, ⟨rfl, fun β => (GOk.plain (op_append_emp (i := Tryz.t86) Tryz.underlying33 Tryz.type86 rfl S_api_Timed.lens (by decide) rfl (opt 0 rfl) (opt 1 rfl) hv1) rfl)⟩, ⟨rfl, fun β => (GOk.plain (op_assign (opt 0 rfl)) rfl)⟩, trivial⟩
    clear h
    intro β a w h
    change SatL c [.slot 2 (slVP S_api_Timed.ck a_0)] a w at h
    clear β
    show Code.wp Tryz.prog _ _ a w
    refine wp_ret ?_
    exact ⟨.inl rfl, ret1 h Tryz.results30 (r_tmp 0 rfl) [] [] rfl rfl rfl⟩
theorem slices_Clone_api_Timed_own {a_0 r : List (S_api_Timed)} (hF : slices_Clone_api_Timed a_0 = some r) : CallOk Tryz.prog KG 30 [(slVP S_api_Timed.ck a_0)] [] (fun v => [own v 86 33 S_api_Timed.ck r]) anyVP := by
  unfold slices_Clone_api_Timed at hF
  obtain ⟨hv1, hF⟩ := ite_some hF
  obtain rfl := Option.some.inj hF
  refine CallOk.intro 8 Tryz.func30 rfl Tryz.ntmps30 (Nat.le_of_ble_eq_true rfl) ?_
  intro c a w hG hn h
  change SatL c [.slot 0 (slVP S_api_Timed.ck a_0)] a w at h
  have hm : a_0.length ≤ mxl := h.slotp 0 rfl (fun _ _ q => q.1)
  refine wp_seq ?_
  refine region_do (n := 8) [.slot 2 100000 100000 (fun _ _ => (eqVP (.slice none 0 0)))] [0] [⟨[], [], [1], [], some 2⟩] [0] mixed hn hG h (by kernel_rfl) ?_ ?_
  · exact ⟨⟨rfl, fun β => (GOk.plain (op_assign (opc (ec _))) rfl)⟩, trivial⟩
  clear h
  intro β a w h
  change SatL c [.slot 0 (slVP S_api_Timed.ck a_0)] a w at h
  clear β
  show Code.wp Tryz.prog _ _ a w
  refine wp_seq ?_
  refine wp_seq ?_
  refine region_do (n := 8) [.slot 3 100000 100000 (fun _ _ => (slVP S_api_Timed.ck a_0)), .slot 4 100000 100000 (fun _ _ => (nilqVP a_0))] [0, 1] [⟨[0], [], [1], [], some 3⟩, ⟨[1], [], [2], [0], some 4⟩] [0, 2] mixed hn hG h (by kernel_rfl) ?_ ?_
  · exact ⟨⟨rfl, fun β => (GOk.plain (op_move (opt 0 rfl)) rfl)⟩, ⟨rfl, fun β => (GOk.plain (op_bin (bin_slnil Tryz.underlying33) (opt 0 rfl) (opc (ec _))) rfl)⟩, trivial⟩
  clear h
  intro β a w h
  change SatL c [.slot 0 (slVP S_api_Timed.ck a_0), .slot 4 (nilqVP a_0)] a w at h
  clear β
  show Code.wp Tryz.prog _ _ a w
  obtain ⟨b0, hb0, h⟩ := h.nilq 1 rfl
  change SatL c [.slot 0 (slVP S_api_Timed.ck a_0), .slot 4 (boolVP b0)] a w at h
  refine cond_L h 1 rfl (fun hb => ?_) (fun hb => ?_)
  · obtain rfl := hb0 hb
    replace h := h.sub [] (by rfl)
    change SatL c [] a w at h
    refine wp_seq ?_
    refine region_do (n := 8) [.slot 2 100000 100000 (fun _ _ => (eqVP (.slice none 0 0)))] [0] [⟨[], [], [0], [], some 2⟩] [0] mixed hn hG h (by kernel_rfl) ?_ ?_
    · exact ⟨⟨rfl, fun β => (GOk.plain (op_assign (opc (ec _))) rfl)⟩, trivial⟩
    clear h
    intro β a w h
    change SatL c [.slot 2 (eqVP (.slice none 0 0))] a w at h
    clear β
    replace h := h.nilown 86 33 S_api_Timed.ck
    show Code.wp Tryz.prog _ _ a w
    refine wp_ret ?_
    exact ⟨.inl rfl, ret1v (p := .slice none 0 0) h Tryz.results30 (r_tmp 0 rfl) [1] _ rfl rfl rfl⟩
  · replace h := h.sub [0] (by rfl)
    change SatL c [.slot 0 (slVP S_api_Timed.ck a_0)] a w at h
    refine wp_skip ?_
    show Code.wp Tryz.prog _ _ a w
    refine wp_seq ?_
    refine region_do (n := 8) [.slot 5 0 100000 (fun v _ => (eqVP v)), .res 0 100000 (fun v _ => (own v 86 33 S_api_Timed.ck ([] : List (S_api_Timed)))), .slot 6 100000 100000 (fun _ _ => (slVP S_api_Timed.ck a_0)), .slot 7 2 100000 (fun v _ => (eqVP v)), .res 2 100000 (fun v _ => (own v 86 33 S_api_Timed.ck (([] : List (S_api_Timed)) ++ a_0))), .slot 2 2 100000 (fun v _ => (eqVP v))] [0, 0, 1, 2, 2, 3] [⟨[], [], [1, 2], [], some 5⟩, ⟨[0], [], [3], [0], some 6⟩, ⟨[1, 3], [2], [4, 5], [0, 1], some 7⟩, ⟨[4], [], [6], [0, 1, 2], some 2⟩] [6, 5] mixed hn hG h (by kernel_rfl) ?_ ?_
    · exact ⟨⟨rfl, fun β => (GOk.plain (op_lit0O Tryz.underlying33 Tryz.sizeOf86 Tryz.zeroValue86) rfl)⟩, ⟨rfl, fun β => (GOk.plain (op_move (opt 0 rfl)) rfl)⟩, ⟨rfl, fun β => (GOk.plain (op_ownAppend (i := Tryz.t86) Tryz.underlying33 Tryz.type86 rfl S_api_Timed.lens (by decide) rfl (opt 0 rfl) (opt 1 rfl) ⟨by simpa using hm, by rw [List.length_nil, Nat.zero_add]; exact hv1⟩) rfl)⟩, ⟨rfl, fun β => (GOk.plain (op_assign (V := eqVP (β 2)) (opt 0 rfl)) rfl)⟩, trivial⟩
    clear h
    intro β a w h
    change SatL c [.slot 2 (eqVP (β 2)), .res (own (β 2) 86 33 S_api_Timed.ck a_0)] a w at h
    generalize β 2 = p at h
    clear β
    show Code.wp Tryz.prog _ _ a w
    refine wp_ret ?_
    exact ⟨.inl rfl, ret1v (p := p) h Tryz.results30 (r_tmp 0 rfl) [1] _ rfl rfl rfl⟩

def replica_Accept.j2 (a_3 : S_api_Update) (r4 : Int × (Option O_Log)) (x16 : S_api_Replica) : Option (S_api_Replica × Int × (Option O_Log)) := some ((S_api_Replica.mk x16.f_Chain x16.f_Here x16.f_Updater x16.f_Watchers x16.f_Window a_3.f_New x16.f_Roots x16.f_States x16.f_Failed x16.f_Cut), 0, r4.2)
def replica_Accept.j1 (a_1 : S_api_Replica) (a_2 : Int) (a_3 : S_api_Update) (r4 : Int × (Option O_Log)) (r6 : Int) (x7 : Bool) : Option (S_api_Replica × Int × (Option O_Log)) := (if x7 = true then some (a_1, 6, r4.2) else ((amount_Add a_2 a_1.f_Window).bind fun r9 => (if (!decide (r9.2 = (0 : Int))) = true then some (a_1, r9.2, r4.2) else ((slices_Clone_api_Timed a_1.f_Roots).bind fun r11 => (if (decide ((0 : Int) ≤ r6)) = true then (if (0 : Int) ≤ r6 ∧ r6 < r11.length then replica_Accept.j2 a_3 r4 (S_api_Replica.mk a_1.f_Chain a_1.f_Here a_1.f_Updater a_1.f_Watchers a_1.f_Window a_1.f_Committed (r11.set r6.toNat (S_api_Timed.mk ((r11.getD r6.toNat default).f_Root) r9.1)) a_1.f_States a_1.f_Failed a_1.f_Cut) else none) else (if r11.length + [(S_api_Timed.mk a_3.f_New r9.1)].length ≤ mxl ∧ (r11.length + [(S_api_Timed.mk a_3.f_New r9.1)].length) * 40 ≤ 140737488355328 then replica_Accept.j2 a_3 r4 (S_api_Replica.mk a_1.f_Chain a_1.f_Here a_1.f_Updater a_1.f_Watchers a_1.f_Window a_1.f_Committed (r11 ++ [(S_api_Timed.mk a_3.f_New r9.1)]) a_1.f_States a_1.f_Failed a_1.f_Cut) else none))))))
def replica_Accept (L_0 : Option O_Log) (a_1 : S_api_Replica) (a_2 : Int) (a_3 : S_api_Update) : Option (S_api_Replica × Int × (Option O_Log)) := ((replica_trusted L_0 a_1 a_3).bind fun r4 => (if (!decide (r4.1 = (0 : Int))) = true then some (a_1, r4.1, r4.2) else ((replica_root a_1 a_3.f_New).bind fun r6 => (if (decide (r6 < (0 : Int))) = true then replica_Accept.j1 a_1 a_2 a_3 r4 r6 (decide ((256 : Int) ≤ (a_1.f_Roots.length : Int))) else replica_Accept.j1 a_1 a_2 a_3 r4 r6 false))))
theorem replica_Accept_ok {p_0 : Value} {L_0 : Option O_Log} {a_1 : S_api_Replica} {a_2 : Int} {a_3 : S_api_Update} {r : S_api_Replica × Int × (Option O_Log)} (hF : replica_Accept L_0 a_1 a_2 a_3 = some r) : CallOk Tryz.prog KG 14 [(eqVP p_0), (aggVP [one (intVP .u32 a_1.f_Chain), one (intVP .u32 a_1.f_Here), bytesCk 32 a_1.f_Updater, one (slVP (dC 32) a_1.f_Watchers), one (intVP .u64 a_1.f_Window), bytesCk 32 a_1.f_Committed, one (slVP S_api_Timed.ck a_1.f_Roots), one (slVP S_api_State.ck a_1.f_States), one (boolVP a_1.f_Failed), one (boolVP a_1.f_Cut)]), (intVP .u64 a_2), (aggVP [one (intVP .u32 a_3.f_Home), bytesCk 32 a_3.f_Old, bytesCk 32 a_3.f_New, one (intVP .i64 a_3.f_Sig.f_Index), one (slVP (dC 32) a_3.f_Sig.f_Parts), one (slVP (dC 32) a_3.f_Sig.f_Others), one (slVP (dC 32) a_3.f_Sig.f_Path)])] [(Log_e p_0 L_0)] (fun _ => [Log_e p_0 r.2.2]) (tupVP [(aggVP [one (intVP .u32 r.1.f_Chain), one (intVP .u32 r.1.f_Here), bytesCk 32 r.1.f_Updater, one (slVP (dC 32) r.1.f_Watchers), one (intVP .u64 r.1.f_Window), bytesCk 32 r.1.f_Committed, one (slVP S_api_Timed.ck r.1.f_Roots), one (slVP S_api_State.ck r.1.f_States), one (boolVP r.1.f_Failed), one (boolVP r.1.f_Cut)]), (intVP .i64 r.2.1)]) := by
  refine CallOk.intro 71 Tryz.func14 rfl Tryz.ntmps14 (Nat.le_of_ble_eq_true rfl) ?_
  intro c a w hG hn h
  unfold replica_Accept at hF
  change SatL c [.slot 0 (eqVP p_0), .slot 1 (aggVP [one (intVP .u32 a_1.f_Chain), one (intVP .u32 a_1.f_Here), bytesCk 32 a_1.f_Updater, one (slVP (dC 32) a_1.f_Watchers), one (intVP .u64 a_1.f_Window), bytesCk 32 a_1.f_Committed, one (slVP S_api_Timed.ck a_1.f_Roots), one (slVP S_api_State.ck a_1.f_States), one (boolVP a_1.f_Failed), one (boolVP a_1.f_Cut)]), .slot 2 (intVP .u64 a_2), .slot 3 (aggVP [one (intVP .u32 a_3.f_Home), bytesCk 32 a_3.f_Old, bytesCk 32 a_3.f_New, one (intVP .i64 a_3.f_Sig.f_Index), one (slVP (dC 32) a_3.f_Sig.f_Parts), one (slVP (dC 32) a_3.f_Sig.f_Others), one (slVP (dC 32) a_3.f_Sig.f_Path)]), .res (Log_e p_0 L_0)] a w at h
  refine regS mixed hn hG h [0, 2, 506, 504, 502, 4, 505, 503, 501] (ob [1] (op_box q0 (cells_agg _)) <| ob [3] (op_box q0 (cells_agg _)) <| ob [] (op_alloc Tryz.zeroValue36 z36) <| ov [] (op_assign qi) .nil) fun b1 a w h => ?_
  refine wp_seq ?_
  obtain ⟨r4, hr4, hF⟩ := bind_some hF
  refine regS mixed hn hG h [1, 2, 3, 4, 500, 6, 7, 8, 501] (ov [0] (op_move q0) <| ov [2, 6] (op_load_w 1 Tryz.isAgg36 Tryz.sizeOf36 q0) <| ov [3, 7] (op_load_w 1 Tryz.isAgg48 Tryz.sizeOf48 q0) <| oc [502, 501, 500] [5] Tryz.call27 (replica_trusted_ok hr4) ⟨q0, q1, q2, trivial⟩ <| ov [501] (op_assign q0) .nil) fun _ a w h => ?_
  refine regS mixed hn hG h [0, 1, 2, 3, 4, 500, 5, 6, 7, 8] (ov [4] (op_move q0) <| ov [500] (op_bin bin_neq q0 qi) .nil) fun _ a w h => ?_
  refine cnd h hF 5 [1, 3, 4, 6, 8, 9] [0, 1, 2, 3, 6, 7, 8, 9] (fun hb5 hF h => ?_) (fun hb5 hF h => ?_)
  · refine regS mixed hn hG h [1, 500, 501, 5] (ov [0, 3] (op_load_w 1 Tryz.isAgg36 Tryz.sizeOf36 q0) <| ov [2] (op_move q0) <| ou [1, 501] 4 (op_store_w Tryz.sizeOf36 q0 q1 (cells_agg _)) <| ov [501] (op_assign q0) .nil) fun _ a w h => ?_
    refine wp_ret ?_
    obtain rfl := Option.some.inj hF
    exact ⟨.inl rfl, retn h (rs := [.cell 8 36, .tmp 9]) (Vs := [(aggVP [one (intVP .u32 a_1.f_Chain), one (intVP .u32 a_1.f_Here), bytesCk 32 a_1.f_Updater, one (slVP (dC 32) a_1.f_Watchers), one (intVP .u64 a_1.f_Window), bytesCk 32 a_1.f_Committed, one (slVP S_api_Timed.ck a_1.f_Roots), one (slVP S_api_State.ck a_1.f_States), one (boolVP a_1.f_Failed), one (boolVP a_1.f_Cut)]), (intVP .i64 r4.1)]) Tryz.results14 (by decide) ⟨(r_cell 0 2 rfl rfl Tryz.isAgg36 Tryz.sizeOf36 rfl), (r_tmp 1 rfl), trivial⟩ [3] [(Log_e p_0 r4.2)] rfl rfl rfl⟩
  · refine wp_skip ?_
    show Code.wp Tryz.prog _ _ a w
    obtain ⟨r6, hr6, hF⟩ := bind_some hF
    refine regS mixed hn hG h [0, 1, 2, 3, 500, 4, 5, 6, 7] (ov [1, 4] (op_load_w 1 Tryz.isAgg36 Tryz.sizeOf36 q0) <| ov [2] (op_fieldAddr_lbm (p := (b1 1)) (n := 32) 0 33 Tryz.underlying48 rfl Tryz.sizeOf23 (by decide) q0 rfl) <| ov [500, 5] (op_load_lb [one (intVP .u32 a_3.f_Home), bytesCk 32 a_3.f_Old] [bytesCk 32 a_3.f_New] [one (intVP .i64 a_3.f_Sig.f_Index), one (slVP (dC 32) a_3.f_Sig.f_Parts), one (slVP (dC 32) a_3.f_Sig.f_Others), one (slVP (dC 32) a_3.f_Sig.f_Path)] 1 Tryz.isAgg23 Tryz.sizeOf23 q0 rfl rfl rfl) <| oc [502, 500] [] Tryz.call28 (replica_root_ok hr6) ⟨q0, q1, trivial⟩ <| ov [500] (op_assign q0) .nil) fun _ a w h => ?_
    refine wp_seq ?_
    refine wp_seq ?_
    refine wp_cut (fun a w => ∃ (x7 : Bool), replica_Accept.j1 a_1 a_2 a_3 r4 r6 x7 = some r ∧ SatL c [.slot 2 (intVP .u64 a_2), .slot 5 (lpVP (b1 0) 0), .slot 7 (lpVP (b1 1) 0), .slot 8 (lpVP (b1 2) 0), .slot 11 (intVP .i64 r6), .slot 33 (boolVP x7), .res (lb (b1 0) 36 [one (intVP .u32 a_1.f_Chain), one (intVP .u32 a_1.f_Here), bytesCk 32 a_1.f_Updater, one (slVP (dC 32) a_1.f_Watchers), one (intVP .u64 a_1.f_Window), bytesCk 32 a_1.f_Committed, one (slVP S_api_Timed.ck a_1.f_Roots), one (slVP S_api_State.ck a_1.f_States), one (boolVP a_1.f_Failed), one (boolVP a_1.f_Cut)]), .res (lb (b1 1) 48 [one (intVP .u32 a_3.f_Home), bytesCk 32 a_3.f_Old, bytesCk 32 a_3.f_New, one (intVP .i64 a_3.f_Sig.f_Index), one (slVP (dC 32) a_3.f_Sig.f_Parts), one (slVP (dC 32) a_3.f_Sig.f_Others), one (slVP (dC 32) a_3.f_Sig.f_Path)]), .res (lb (b1 2) 36 [one (intVP .u32 ((S_api_Replica.mk (0 : Int) (0 : Int) (List.replicate 32 0) [] (0 : Int) (List.replicate 32 0) [] [] false false).f_Chain)), one (intVP .u32 ((S_api_Replica.mk (0 : Int) (0 : Int) (List.replicate 32 0) [] (0 : Int) (List.replicate 32 0) [] [] false false).f_Here)), bytesCk 32 ((S_api_Replica.mk (0 : Int) (0 : Int) (List.replicate 32 0) [] (0 : Int) (List.replicate 32 0) [] [] false false).f_Updater), one (slVP (dC 32) ((S_api_Replica.mk (0 : Int) (0 : Int) (List.replicate 32 0) [] (0 : Int) (List.replicate 32 0) [] [] false false).f_Watchers)), one (intVP .u64 ((S_api_Replica.mk (0 : Int) (0 : Int) (List.replicate 32 0) [] (0 : Int) (List.replicate 32 0) [] [] false false).f_Window)), bytesCk 32 ((S_api_Replica.mk (0 : Int) (0 : Int) (List.replicate 32 0) [] (0 : Int) (List.replicate 32 0) [] [] false false).f_Committed), one (slVP S_api_Timed.ck ((S_api_Replica.mk (0 : Int) (0 : Int) (List.replicate 32 0) [] (0 : Int) (List.replicate 32 0) [] [] false false).f_Roots)), one (slVP S_api_State.ck ((S_api_Replica.mk (0 : Int) (0 : Int) (List.replicate 32 0) [] (0 : Int) (List.replicate 32 0) [] [] false false).f_States)), one (boolVP ((S_api_Replica.mk (0 : Int) (0 : Int) (List.replicate 32 0) [] (0 : Int) (List.replicate 32 0) [] [] false false).f_Failed)), one (boolVP ((S_api_Replica.mk (0 : Int) (0 : Int) (List.replicate 32 0) [] (0 : Int) (List.replicate 32 0) [] [] false false).f_Cut))]), .res (Log_e p_0 r4.2)] a w) ?_ ?_
    · rcases Bool.eq_false_or_eq_true (decide (r6 < (0 : Int))) with hb21 | hb21
      · replace hF := tt_of hb21 hF
        refine reg mixed hn hG h [0, 1, 2, 3, 4, 500, 5, 6, 7, 8] (ov [4] (op_move q0) <| ov [500] (op_bin bin_lss q0 qi) <| ov [500] (op_move q0) <| oe [500, 1] [] (GOk.on_eq hb21 rfl rfl rfl (op_fieldAddr_lbm (p := (b1 0)) (n := 1) 0 68 Tryz.underlying36 rfl Tryz.sizeOf33 (by decide) q0 rfl)) <| oe [501, 500, 5] [] (GOk.on_eq hb21 rfl rfl rfl (op_load_lb1 [one (intVP .u32 a_1.f_Chain), one (intVP .u32 a_1.f_Here), bytesCk 32 a_1.f_Updater, one (slVP (dC 32) a_1.f_Watchers), one (intVP .u64 a_1.f_Window), bytesCk 32 a_1.f_Committed] [one (slVP S_api_State.ck a_1.f_States), one (boolVP a_1.f_Failed), one (boolVP a_1.f_Cut)] 1 Tryz.isAgg33 q0 rfl rfl)) <| oe [502, 500] [] (GOk.on_eq hb21 rfl rfl rfl (op_len_sl Tryz.underlying33 q0)) <| oe [503, 500] [] (GOk.on_eq hb21 rfl rfl rfl (op_bin bin_geq q0 qi)) <| ov [504, 500] (op_pick_t hb21 q0 q1) .nil) fun _ a w h => ?_
        exact ⟨decide ((256 : Int) ≤ (a_1.f_Roots.length : Int)), hF, h.sub [0, 1, 2, 3, 4, 5, 6, 7, 8, 9] (by rfl)⟩
      · replace hF := ff_of hb21 hF
        refine reg mixed hn hG h [0, 1, 2, 3, 4, 500, 5, 6, 7, 8] (ov [4] (op_move q0) <| ov [500] (op_bin bin_lss q0 qi) <| ov [500] (op_move q0) <| oe [500] [] (GOk.off_v (want := true) hb21 rfl rfl rfl rfl) <| oe [501] [] (GOk.off_v (want := true) hb21 rfl rfl rfl rfl) <| oe [502] [] (GOk.off_v (want := true) hb21 rfl rfl rfl rfl) <| oe [503] [] (GOk.off_v (want := true) hb21 rfl rfl rfl rfl) <| ov [504] (op_pick_f hb21 q0 qb) .nil) fun _ a w h => ?_
        exact ⟨false, hF, h.sub [0, 1, 2, 3, 4, 5, 6, 7, 8, 9] (by rfl)⟩
    · clear h hF
      rintro a w ⟨x7, hF, h⟩
      unfold replica_Accept.j1 at hF
      show Code.wp Tryz.prog _ _ a w
      refine cnd h hF 5 [1, 3, 6, 8, 9] [0, 1, 2, 3, 4, 6, 7, 8, 9] (fun hb8 hF h => ?_) (fun hb8 hF h => ?_)
      · refine regS mixed hn hG h [1, 500, 501, 4] (ov [0, 2] (op_load_w 1 Tryz.isAgg36 Tryz.sizeOf36 q0) <| ou [1, 500] 3 (op_store_w Tryz.sizeOf36 q0 q1 (cells_agg _)) <| ov [] (op_assign qi) .nil) fun _ a w h => ?_
        refine wp_ret ?_
        obtain rfl := Option.some.inj hF
        exact ⟨.inl rfl, retn h (rs := [.cell 8 36, .tmp 9]) (Vs := [(aggVP [one (intVP .u32 a_1.f_Chain), one (intVP .u32 a_1.f_Here), bytesCk 32 a_1.f_Updater, one (slVP (dC 32) a_1.f_Watchers), one (intVP .u64 a_1.f_Window), bytesCk 32 a_1.f_Committed, one (slVP S_api_Timed.ck a_1.f_Roots), one (slVP S_api_State.ck a_1.f_States), one (boolVP a_1.f_Failed), one (boolVP a_1.f_Cut)]), (intVP .i64 6)]) Tryz.results14 (by decide) ⟨(r_cell 0 2 rfl rfl Tryz.isAgg36 Tryz.sizeOf36 rfl), (r_tmp 1 rfl), trivial⟩ [3] [(Log_e p_0 r4.2)] rfl rfl rfl⟩
      · refine wp_skip ?_
        show Code.wp Tryz.prog _ _ a w
        obtain ⟨r9, hr9, hF⟩ := bind_some hF
        refine regS mixed hn hG h [1, 2, 3, 4, 501, 500, 5, 6, 7, 8] (ov [0] (op_move q0) <| ov [1] (op_fieldAddr_lbm (p := (b1 0)) (n := 1) 0 35 Tryz.underlying36 rfl Tryz.sizeOf32 (by decide) q0 rfl) <| ov [500, 5] (op_load_lb1 [one (intVP .u32 a_1.f_Chain), one (intVP .u32 a_1.f_Here), bytesCk 32 a_1.f_Updater, one (slVP (dC 32) a_1.f_Watchers)] [bytesCk 32 a_1.f_Committed, one (slVP S_api_Timed.ck a_1.f_Roots), one (slVP S_api_State.ck a_1.f_States), one (boolVP a_1.f_Failed), one (boolVP a_1.f_Cut)] 1 Tryz.isAgg32 q0 rfl rfl) <| oc [502, 500] [] Tryz.call29 (amount_Add_ok hr9) ⟨q0, q1, trivial⟩ <| ov [500] (op_move q0) <| ov [500] (op_extract q0 rfl) <| ov [501] (op_extract q0 rfl) <| ov [501] (op_assign q0) <| ov [501] (op_assign q0) .nil) fun _ a w h => ?_
        refine wp_seq ?_
        refine regS mixed hn hG h [0, 1, 2, 3, 4, 5, 500, 6, 7, 8, 9] (ov [5] (op_move q0) <| ov [500] (op_bin bin_neq q0 qi) .nil) fun _ a w h => ?_
        refine cnd h hF 6 [0, 2, 5, 7, 9, 10] [0, 1, 2, 3, 4, 7, 8, 9, 10] (fun hb10 hF h => ?_) (fun hb10 hF h => ?_)
        · refine regS mixed hn hG h [1, 500, 501, 5] (ov [0, 3] (op_load_w 1 Tryz.isAgg36 Tryz.sizeOf36 q0) <| ov [2] (op_move q0) <| ou [1, 501] 4 (op_store_w Tryz.sizeOf36 q0 q1 (cells_agg _)) <| ov [501] (op_assign q0) .nil) fun _ a w h => ?_
          refine wp_ret ?_
          obtain rfl := Option.some.inj hF
          exact ⟨.inl rfl, retn h (rs := [.cell 8 36, .tmp 9]) (Vs := [(aggVP [one (intVP .u32 a_1.f_Chain), one (intVP .u32 a_1.f_Here), bytesCk 32 a_1.f_Updater, one (slVP (dC 32) a_1.f_Watchers), one (intVP .u64 a_1.f_Window), bytesCk 32 a_1.f_Committed, one (slVP S_api_Timed.ck a_1.f_Roots), one (slVP S_api_State.ck a_1.f_States), one (boolVP a_1.f_Failed), one (boolVP a_1.f_Cut)]), (intVP .i64 r9.2)]) Tryz.results14 (by decide) ⟨(r_cell 0 2 rfl rfl Tryz.isAgg36 Tryz.sizeOf36 rfl), (r_tmp 1 rfl), trivial⟩ [3] [(Log_e p_0 r4.2)] rfl rfl rfl⟩
        · refine wp_skip ?_
          show Code.wp Tryz.prog _ _ a w
          obtain ⟨r11, hr11, hF⟩ := bind_some hF
          refine regS mixed hn hG h [0, 1, 2, 3, 4, 500, 6, 7, 8, 502] (ov [0] (op_fieldAddr_lbm (p := (b1 0)) (n := 1) 0 68 Tryz.underlying36 rfl Tryz.sizeOf33 (by decide) q0 rfl) <| ov [500, 5] (op_load_lb1 [one (intVP .u32 a_1.f_Chain), one (intVP .u32 a_1.f_Here), bytesCk 32 a_1.f_Updater, one (slVP (dC 32) a_1.f_Watchers), one (intVP .u64 a_1.f_Window), bytesCk 32 a_1.f_Committed] [one (slVP S_api_State.ck a_1.f_States), one (boolVP a_1.f_Failed), one (boolVP a_1.f_Cut)] 1 Tryz.isAgg33 q0 rfl rfl) <| og [500] [] [.slot 48 2 100000 (fun v1_ _ => (eqVP v1_)), .res 2 100000 (fun v1_ _ => (own (v1_) 86 33 S_api_Timed.ck r11))] (GOk.plain (op_callv Tryz.call30 (slices_Clone_api_Timed_own hr11) ⟨q0, trivial⟩) rfl) <| ov [0] (op_fieldAddr_lbm (p := (b1 0)) (n := 1) 0 68 Tryz.underlying36 rfl Tryz.sizeOf33 (by decide) q0 rfl) <| og [500, 502, 501] [5] [.res 2 100000 (fun v1_ _ => (lb (b1 0) 36 [one (intVP .u32 a_1.f_Chain), one (intVP .u32 a_1.f_Here), bytesCk 32 a_1.f_Updater, one (slVP (dC 32) a_1.f_Watchers), one (intVP .u64 a_1.f_Window), bytesCk 32 a_1.f_Committed, one (eqVP (v1_)), one (slVP S_api_State.ck a_1.f_States), one (boolVP a_1.f_Failed), one (boolVP a_1.f_Cut)]))] (fun {β} => (GOk.plain (op_store_lb [one (intVP .u32 a_1.f_Chain), one (intVP .u32 a_1.f_Here), bytesCk 32 a_1.f_Updater, one (slVP (dC 32) a_1.f_Watchers), one (intVP .u64 a_1.f_Window), bytesCk 32 a_1.f_Committed] [one (slVP S_api_Timed.ck a_1.f_Roots)] [one (slVP S_api_State.ck a_1.f_States), one (boolVP a_1.f_Failed), one (boolVP a_1.f_Cut)] [one (eqVP ((β 2)))] Tryz.sizeOf33 q0 (opone 1 2 rfl rfl own_one) (cells_h _) rfl rfl rfl) rfl)) .nil) fun b12 a w h => ?_
          refine wp_seq ?_
          refine regS mixed hn hG h [0, 1, 2, 3, 4, 500, 5, 6, 7, 8, 9] (ov [3] (op_move q0) <| ov [500] (op_bin bin_geq q0 qi) .nil) fun _ a w h => ?_
          refine wp_cut (fun a w => ∃ (x16 : S_api_Replica), replica_Accept.j2 a_3 r4 x16 = some r ∧ SatL c [.slot 5 (lpVP (b1 0) 0), .slot 7 (lpVP (b1 1) 0), .slot 8 (lpVP (b1 2) 0), .res (lb (b1 0) 36 [one (intVP .u32 x16.f_Chain), one (intVP .u32 x16.f_Here), bytesCk 32 x16.f_Updater, one (slVP (dC 32) x16.f_Watchers), one (intVP .u64 x16.f_Window), bytesCk 32 x16.f_Committed, one (slVP S_api_Timed.ck x16.f_Roots), one (slVP S_api_State.ck x16.f_States), one (boolVP x16.f_Failed), one (boolVP x16.f_Cut)]), .res (lb (b1 1) 48 [one (intVP .u32 a_3.f_Home), bytesCk 32 a_3.f_Old, bytesCk 32 a_3.f_New, one (intVP .i64 a_3.f_Sig.f_Index), one (slVP (dC 32) a_3.f_Sig.f_Parts), one (slVP (dC 32) a_3.f_Sig.f_Others), one (slVP (dC 32) a_3.f_Sig.f_Path)]), .res (lb (b1 2) 36 [one (intVP .u32 ((S_api_Replica.mk (0 : Int) (0 : Int) (List.replicate 32 0) [] (0 : Int) (List.replicate 32 0) [] [] false false).f_Chain)), one (intVP .u32 ((S_api_Replica.mk (0 : Int) (0 : Int) (List.replicate 32 0) [] (0 : Int) (List.replicate 32 0) [] [] false false).f_Here)), bytesCk 32 ((S_api_Replica.mk (0 : Int) (0 : Int) (List.replicate 32 0) [] (0 : Int) (List.replicate 32 0) [] [] false false).f_Updater), one (slVP (dC 32) ((S_api_Replica.mk (0 : Int) (0 : Int) (List.replicate 32 0) [] (0 : Int) (List.replicate 32 0) [] [] false false).f_Watchers)), one (intVP .u64 ((S_api_Replica.mk (0 : Int) (0 : Int) (List.replicate 32 0) [] (0 : Int) (List.replicate 32 0) [] [] false false).f_Window)), bytesCk 32 ((S_api_Replica.mk (0 : Int) (0 : Int) (List.replicate 32 0) [] (0 : Int) (List.replicate 32 0) [] [] false false).f_Committed), one (slVP S_api_Timed.ck ((S_api_Replica.mk (0 : Int) (0 : Int) (List.replicate 32 0) [] (0 : Int) (List.replicate 32 0) [] [] false false).f_Roots)), one (slVP S_api_State.ck ((S_api_Replica.mk (0 : Int) (0 : Int) (List.replicate 32 0) [] (0 : Int) (List.replicate 32 0) [] [] false false).f_States)), one (boolVP ((S_api_Replica.mk (0 : Int) (0 : Int) (List.replicate 32 0) [] (0 : Int) (List.replicate 32 0) [] [] false false).f_Failed)), one (boolVP ((S_api_Replica.mk (0 : Int) (0 : Int) (List.replicate 32 0) [] (0 : Int) (List.replicate 32 0) [] [] false false).f_Cut))]), .res (Log_e p_0 r4.2)] a w) ?_ ?_
          · refine cnd h hF 5 [0, 1, 2, 3, 4, 6, 7, 8, 9, 10] [0, 1, 2, 4, 6, 7, 8, 9, 10] (fun hb17 hF h => ?_) (fun hb17 hF h => ?_)
            · obtain ⟨hv18, hF⟩ := ite_some hF
              refine reg mixed hn hG h [0, 1, 2, 5, 6, 7, 8, 500] (ov [0] (op_fieldAddr_lbm (p := (b1 0)) (n := 1) 0 68 Tryz.underlying36 rfl Tryz.sizeOf33 (by decide) q0 rfl) <| ov [500, 5] (op_load_lb1 [one (intVP .u32 a_1.f_Chain), one (intVP .u32 a_1.f_Here), bytesCk 32 a_1.f_Updater, one (slVP (dC 32) a_1.f_Watchers), one (intVP .u64 a_1.f_Window), bytesCk 32 a_1.f_Committed] [one (slVP S_api_State.ck a_1.f_States), one (boolVP a_1.f_Failed), one (boolVP a_1.f_Cut)] 1 Tryz.isAgg33 q0 rfl rfl) <| ov [3] (op_move q0) <| ov [4] (op_move q0) <| ov [502, 9, 501] (op_indexAddr_own 0 1 Tryz.underlying33 Tryz.sizeOf86 rfl rfl q2 hv18) <| ov [500] (op_fieldAddr_own (n := 1) (r6.toNat * 33) (r6.toNat * 33 + 32) Tryz.underlying86 rfl Tryz.sizeOf32 (by decide) q0 rfl) <| ou [500, 502] 9 (op_store_own (i := r6) (c := S_api_Timed.ck) (z := (S_api_Timed.mk ((r11.getD r6.toNat default).f_Root) r9.1)) S_api_Timed.lens [bytesCk 32 ((r11.getD r6.toNat default).f_Root)] [one (intVP .u64 ((r11.getD r6.toNat default).f_At))] [] [one (intVP .u64 r9.1)] Tryz.sizeOf32 q0 q1 (cells_one (one_int _ _)) rfl rfl rfl rfl rfl hv18) .nil) fun _ a w h => ?_
              replace h := h.ownacc 7 rfl
              change SatL c [.slot 5 (lpVP (b1 0) 0), .slot 7 (lpVP (b1 1) 0), .slot 8 (lpVP (b1 2) 0), .res (lb (b1 0) 36 [one (intVP .u32 a_1.f_Chain), one (intVP .u32 a_1.f_Here), bytesCk 32 a_1.f_Updater, one (slVP (dC 32) a_1.f_Watchers), one (intVP .u64 a_1.f_Window), bytesCk 32 a_1.f_Committed, one (eqVP (b12 2)), one (slVP S_api_State.ck a_1.f_States), one (boolVP a_1.f_Failed), one (boolVP a_1.f_Cut)]), .res (lb (b1 1) 48 [one (intVP .u32 a_3.f_Home), bytesCk 32 a_3.f_Old, bytesCk 32 a_3.f_New, one (intVP .i64 a_3.f_Sig.f_Index), one (slVP (dC 32) a_3.f_Sig.f_Parts), one (slVP (dC 32) a_3.f_Sig.f_Others), one (slVP (dC 32) a_3.f_Sig.f_Path)]), .res (lb (b1 2) 36 [one (intVP .u32 ((S_api_Replica.mk (0 : Int) (0 : Int) (List.replicate 32 0) [] (0 : Int) (List.replicate 32 0) [] [] false false).f_Chain)), one (intVP .u32 ((S_api_Replica.mk (0 : Int) (0 : Int) (List.replicate 32 0) [] (0 : Int) (List.replicate 32 0) [] [] false false).f_Here)), bytesCk 32 ((S_api_Replica.mk (0 : Int) (0 : Int) (List.replicate 32 0) [] (0 : Int) (List.replicate 32 0) [] [] false false).f_Updater), one (slVP (dC 32) ((S_api_Replica.mk (0 : Int) (0 : Int) (List.replicate 32 0) [] (0 : Int) (List.replicate 32 0) [] [] false false).f_Watchers)), one (intVP .u64 ((S_api_Replica.mk (0 : Int) (0 : Int) (List.replicate 32 0) [] (0 : Int) (List.replicate 32 0) [] [] false false).f_Window)), bytesCk 32 ((S_api_Replica.mk (0 : Int) (0 : Int) (List.replicate 32 0) [] (0 : Int) (List.replicate 32 0) [] [] false false).f_Committed), one (slVP S_api_Timed.ck ((S_api_Replica.mk (0 : Int) (0 : Int) (List.replicate 32 0) [] (0 : Int) (List.replicate 32 0) [] [] false false).f_Roots)), one (slVP S_api_State.ck ((S_api_Replica.mk (0 : Int) (0 : Int) (List.replicate 32 0) [] (0 : Int) (List.replicate 32 0) [] [] false false).f_States)), one (boolVP ((S_api_Replica.mk (0 : Int) (0 : Int) (List.replicate 32 0) [] (0 : Int) (List.replicate 32 0) [] [] false false).f_Failed)), one (boolVP ((S_api_Replica.mk (0 : Int) (0 : Int) (List.replicate 32 0) [] (0 : Int) (List.replicate 32 0) [] [] false false).f_Cut))]), .res (Log_e p_0 r4.2), .res (acc (b12 2) 86 33 S_api_Timed.ck (r11.set r6.toNat (S_api_Timed.mk ((r11.getD r6.toNat default).f_Root) r9.1)))] a w at h
              replace h := h.unsep 3 7 rfl rfl (by decide)
              replace h := h.conv 3 rfl (settle (pre := [one (intVP .u32 a_1.f_Chain), one (intVP .u32 a_1.f_Here), bytesCk 32 a_1.f_Updater, one (slVP (dC 32) a_1.f_Watchers), one (intVP .u64 a_1.f_Window), bytesCk 32 a_1.f_Committed]) (post := [one (slVP S_api_State.ck a_1.f_States), one (boolVP a_1.f_Failed), one (boolVP a_1.f_Cut)]))
              replace h := h.sep 3 rfl
              replace h := h.sub [0, 1, 2, 3, 4, 5, 6] (by rfl)
              change SatL c [.slot 5 (lpVP (b1 0) 0), .slot 7 (lpVP (b1 1) 0), .slot 8 (lpVP (b1 2) 0), .res (lb (b1 0) 36 [one (intVP .u32 a_1.f_Chain), one (intVP .u32 a_1.f_Here), bytesCk 32 a_1.f_Updater, one (slVP (dC 32) a_1.f_Watchers), one (intVP .u64 a_1.f_Window), bytesCk 32 a_1.f_Committed, one (slVP S_api_Timed.ck (r11.set r6.toNat (S_api_Timed.mk ((r11.getD r6.toNat default).f_Root) r9.1))), one (slVP S_api_State.ck a_1.f_States), one (boolVP a_1.f_Failed), one (boolVP a_1.f_Cut)]), .res (lb (b1 1) 48 [one (intVP .u32 a_3.f_Home), bytesCk 32 a_3.f_Old, bytesCk 32 a_3.f_New, one (intVP .i64 a_3.f_Sig.f_Index), one (slVP (dC 32) a_3.f_Sig.f_Parts), one (slVP (dC 32) a_3.f_Sig.f_Others), one (slVP (dC 32) a_3.f_Sig.f_Path)]), .res (lb (b1 2) 36 [one (intVP .u32 ((S_api_Replica.mk (0 : Int) (0 : Int) (List.replicate 32 0) [] (0 : Int) (List.replicate 32 0) [] [] false false).f_Chain)), one (intVP .u32 ((S_api_Replica.mk (0 : Int) (0 : Int) (List.replicate 32 0) [] (0 : Int) (List.replicate 32 0) [] [] false false).f_Here)), bytesCk 32 ((S_api_Replica.mk (0 : Int) (0 : Int) (List.replicate 32 0) [] (0 : Int) (List.replicate 32 0) [] [] false false).f_Updater), one (slVP (dC 32) ((S_api_Replica.mk (0 : Int) (0 : Int) (List.replicate 32 0) [] (0 : Int) (List.replicate 32 0) [] [] false false).f_Watchers)), one (intVP .u64 ((S_api_Replica.mk (0 : Int) (0 : Int) (List.replicate 32 0) [] (0 : Int) (List.replicate 32 0) [] [] false false).f_Window)), bytesCk 32 ((S_api_Replica.mk (0 : Int) (0 : Int) (List.replicate 32 0) [] (0 : Int) (List.replicate 32 0) [] [] false false).f_Committed), one (slVP S_api_Timed.ck ((S_api_Replica.mk (0 : Int) (0 : Int) (List.replicate 32 0) [] (0 : Int) (List.replicate 32 0) [] [] false false).f_Roots)), one (slVP S_api_State.ck ((S_api_Replica.mk (0 : Int) (0 : Int) (List.replicate 32 0) [] (0 : Int) (List.replicate 32 0) [] [] false false).f_States)), one (boolVP ((S_api_Replica.mk (0 : Int) (0 : Int) (List.replicate 32 0) [] (0 : Int) (List.replicate 32 0) [] [] false false).f_Failed)), one (boolVP ((S_api_Replica.mk (0 : Int) (0 : Int) (List.replicate 32 0) [] (0 : Int) (List.replicate 32 0) [] [] false false).f_Cut))]), .res (Log_e p_0 r4.2)] a w at h
              exact ⟨(S_api_Replica.mk a_1.f_Chain a_1.f_Here a_1.f_Updater a_1.f_Watchers a_1.f_Window a_1.f_Committed (r11.set r6.toNat (S_api_Timed.mk ((r11.getD r6.toNat default).f_Root) r9.1)) a_1.f_States a_1.f_Failed a_1.f_Cut), hF, h.sub [0, 1, 2, 3, 4, 5, 6] (by rfl)⟩
            · obtain ⟨hv19, hF⟩ := ite_some hF
              refine reg mixed hn hG h [0, 1, 2, 500, 5, 6, 7, 502] (ov [0] (op_fieldAddr_lbm (p := (b1 0)) (n := 1) 0 68 Tryz.underlying36 rfl Tryz.sizeOf33 (by decide) q0 rfl) <| ov [500, 4] (op_load_lb1 [one (intVP .u32 a_1.f_Chain), one (intVP .u32 a_1.f_Here), bytesCk 32 a_1.f_Updater, one (slVP (dC 32) a_1.f_Watchers), one (intVP .u64 a_1.f_Window), bytesCk 32 a_1.f_Committed] [one (slVP S_api_State.ck a_1.f_States), one (boolVP a_1.f_Failed), one (boolVP a_1.f_Cut)] 1 Tryz.isAgg33 q0 rfl rfl) <| ov [1] (op_fieldAddr_lbm (p := (b1 1)) (n := 32) 0 33 Tryz.underlying48 rfl Tryz.sizeOf23 (by decide) q0 rfl) <| ov [500, 5] (op_load_lb [one (intVP .u32 a_3.f_Home), bytesCk 32 a_3.f_Old] [bytesCk 32 a_3.f_New] [one (intVP .i64 a_3.f_Sig.f_Index), one (slVP (dC 32) a_3.f_Sig.f_Parts), one (slVP (dC 32) a_3.f_Sig.f_Others), one (slVP (dC 32) a_3.f_Sig.f_Path)] 1 Tryz.isAgg23 Tryz.sizeOf23 q0 rfl rfl rfl) <| ov [3] (op_move q0) <| ov [501, 500] (op_build [(0, .tmp 61), (1, .tmp 62)] rfl bu86 z86 ⟨[], [bytesCk 32 (List.replicate 32 0)], [one (intVP .u64 (0 : Int))], [bytesCk 32 a_3.f_New], _, rfl, rfl, rfl, q0, (cells_agg _), ⟨[bytesCk 32 a_3.f_New], [one (intVP .u64 (0 : Int))], [], [one (intVP .u64 r9.1)], _, rfl, rfl, rfl, q1, (cells_one (one_int _ _)), rfl⟩⟩) <| ov [500] (op_lit (xs := [.tmp 63]) (ys := [(S_api_Timed.mk a_3.f_New r9.1)]) _ rfl Tryz.underlying33 Tryz.sizeOf86 Tryz.zeroValue86 rfl rfl (by decide) (by decide) ⟨⟨_, q0, (cells_agg _)⟩, trivial⟩ S_api_Timed.lens) <| og [505, 500] [8] [.slot 65 7 100000 (fun v1_ _ => (eqVP v1_)), .res 7 100000 (fun v1_ _ => (own (v1_) 86 33 S_api_Timed.ck (r11 ++ [(S_api_Timed.mk a_3.f_New r9.1)])))] (GOk.plain (op_ownAppend (i := Tryz.t86) Tryz.underlying33 Tryz.type86 rfl S_api_Timed.lens (by decide) rfl q0 q1 hv19) rfl) <| ov [0] (op_fieldAddr_lbm (p := (b1 0)) (n := 1) 0 68 Tryz.underlying36 rfl Tryz.sizeOf33 (by decide) q0 rfl) <| og [500, 502, 501] [4] [.res 7 100000 (fun v1_ _ => (lb (b1 0) 36 [one (intVP .u32 a_1.f_Chain), one (intVP .u32 a_1.f_Here), bytesCk 32 a_1.f_Updater, one (slVP (dC 32) a_1.f_Watchers), one (intVP .u64 a_1.f_Window), bytesCk 32 a_1.f_Committed, one (eqVP (v1_)), one (slVP S_api_State.ck a_1.f_States), one (boolVP a_1.f_Failed), one (boolVP a_1.f_Cut)]))] (fun {β} => (GOk.plain (op_store_lb [one (intVP .u32 a_1.f_Chain), one (intVP .u32 a_1.f_Here), bytesCk 32 a_1.f_Updater, one (slVP (dC 32) a_1.f_Watchers), one (intVP .u64 a_1.f_Window), bytesCk 32 a_1.f_Committed] [one (eqVP (b12 2))] [one (slVP S_api_State.ck a_1.f_States), one (boolVP a_1.f_Failed), one (boolVP a_1.f_Cut)] [one (eqVP ((β 7)))] Tryz.sizeOf33 q0 (opone 1 2 rfl rfl own_one) (cells_h _) rfl rfl rfl) rfl)) .nil) fun b20 a w h => ?_
              replace h := h.ownacc 7 rfl
              change SatL c [.slot 5 (lpVP (b1 0) 0), .slot 7 (lpVP (b1 1) 0), .slot 8 (lpVP (b1 2) 0), .res (lb (b1 0) 36 [one (intVP .u32 a_1.f_Chain), one (intVP .u32 a_1.f_Here), bytesCk 32 a_1.f_Updater, one (slVP (dC 32) a_1.f_Watchers), one (intVP .u64 a_1.f_Window), bytesCk 32 a_1.f_Committed, one (eqVP (b20 7)), one (slVP S_api_State.ck a_1.f_States), one (boolVP a_1.f_Failed), one (boolVP a_1.f_Cut)]), .res (lb (b1 1) 48 [one (intVP .u32 a_3.f_Home), bytesCk 32 a_3.f_Old, bytesCk 32 a_3.f_New, one (intVP .i64 a_3.f_Sig.f_Index), one (slVP (dC 32) a_3.f_Sig.f_Parts), one (slVP (dC 32) a_3.f_Sig.f_Others), one (slVP (dC 32) a_3.f_Sig.f_Path)]), .res (lb (b1 2) 36 [one (intVP .u32 ((S_api_Replica.mk (0 : Int) (0 : Int) (List.replicate 32 0) [] (0 : Int) (List.replicate 32 0) [] [] false false).f_Chain)), one (intVP .u32 ((S_api_Replica.mk (0 : Int) (0 : Int) (List.replicate 32 0) [] (0 : Int) (List.replicate 32 0) [] [] false false).f_Here)), bytesCk 32 ((S_api_Replica.mk (0 : Int) (0 : Int) (List.replicate 32 0) [] (0 : Int) (List.replicate 32 0) [] [] false false).f_Updater), one (slVP (dC 32) ((S_api_Replica.mk (0 : Int) (0 : Int) (List.replicate 32 0) [] (0 : Int) (List.replicate 32 0) [] [] false false).f_Watchers)), one (intVP .u64 ((S_api_Replica.mk (0 : Int) (0 : Int) (List.replicate 32 0) [] (0 : Int) (List.replicate 32 0) [] [] false false).f_Window)), bytesCk 32 ((S_api_Replica.mk (0 : Int) (0 : Int) (List.replicate 32 0) [] (0 : Int) (List.replicate 32 0) [] [] false false).f_Committed), one (slVP S_api_Timed.ck ((S_api_Replica.mk (0 : Int) (0 : Int) (List.replicate 32 0) [] (0 : Int) (List.replicate 32 0) [] [] false false).f_Roots)), one (slVP S_api_State.ck ((S_api_Replica.mk (0 : Int) (0 : Int) (List.replicate 32 0) [] (0 : Int) (List.replicate 32 0) [] [] false false).f_States)), one (boolVP ((S_api_Replica.mk (0 : Int) (0 : Int) (List.replicate 32 0) [] (0 : Int) (List.replicate 32 0) [] [] false false).f_Failed)), one (boolVP ((S_api_Replica.mk (0 : Int) (0 : Int) (List.replicate 32 0) [] (0 : Int) (List.replicate 32 0) [] [] false false).f_Cut))]), .res (Log_e p_0 r4.2), .res (acc (b20 7) 86 33 S_api_Timed.ck (r11 ++ [(S_api_Timed.mk a_3.f_New r9.1)]))] a w at h
              replace h := h.unsep 3 7 rfl rfl (by decide)
              replace h := h.conv 3 rfl (settle (pre := [one (intVP .u32 a_1.f_Chain), one (intVP .u32 a_1.f_Here), bytesCk 32 a_1.f_Updater, one (slVP (dC 32) a_1.f_Watchers), one (intVP .u64 a_1.f_Window), bytesCk 32 a_1.f_Committed]) (post := [one (slVP S_api_State.ck a_1.f_States), one (boolVP a_1.f_Failed), one (boolVP a_1.f_Cut)]))
              replace h := h.sep 3 rfl
              replace h := h.sub [0, 1, 2, 3, 4, 5, 6] (by rfl)
              change SatL c [.slot 5 (lpVP (b1 0) 0), .slot 7 (lpVP (b1 1) 0), .slot 8 (lpVP (b1 2) 0), .res (lb (b1 0) 36 [one (intVP .u32 a_1.f_Chain), one (intVP .u32 a_1.f_Here), bytesCk 32 a_1.f_Updater, one (slVP (dC 32) a_1.f_Watchers), one (intVP .u64 a_1.f_Window), bytesCk 32 a_1.f_Committed, one (slVP S_api_Timed.ck (r11 ++ [(S_api_Timed.mk a_3.f_New r9.1)])), one (slVP S_api_State.ck a_1.f_States), one (boolVP a_1.f_Failed), one (boolVP a_1.f_Cut)]), .res (lb (b1 1) 48 [one (intVP .u32 a_3.f_Home), bytesCk 32 a_3.f_Old, bytesCk 32 a_3.f_New, one (intVP .i64 a_3.f_Sig.f_Index), one (slVP (dC 32) a_3.f_Sig.f_Parts), one (slVP (dC 32) a_3.f_Sig.f_Others), one (slVP (dC 32) a_3.f_Sig.f_Path)]), .res (lb (b1 2) 36 [one (intVP .u32 ((S_api_Replica.mk (0 : Int) (0 : Int) (List.replicate 32 0) [] (0 : Int) (List.replicate 32 0) [] [] false false).f_Chain)), one (intVP .u32 ((S_api_Replica.mk (0 : Int) (0 : Int) (List.replicate 32 0) [] (0 : Int) (List.replicate 32 0) [] [] false false).f_Here)), bytesCk 32 ((S_api_Replica.mk (0 : Int) (0 : Int) (List.replicate 32 0) [] (0 : Int) (List.replicate 32 0) [] [] false false).f_Updater), one (slVP (dC 32) ((S_api_Replica.mk (0 : Int) (0 : Int) (List.replicate 32 0) [] (0 : Int) (List.replicate 32 0) [] [] false false).f_Watchers)), one (intVP .u64 ((S_api_Replica.mk (0 : Int) (0 : Int) (List.replicate 32 0) [] (0 : Int) (List.replicate 32 0) [] [] false false).f_Window)), bytesCk 32 ((S_api_Replica.mk (0 : Int) (0 : Int) (List.replicate 32 0) [] (0 : Int) (List.replicate 32 0) [] [] false false).f_Committed), one (slVP S_api_Timed.ck ((S_api_Replica.mk (0 : Int) (0 : Int) (List.replicate 32 0) [] (0 : Int) (List.replicate 32 0) [] [] false false).f_Roots)), one (slVP S_api_State.ck ((S_api_Replica.mk (0 : Int) (0 : Int) (List.replicate 32 0) [] (0 : Int) (List.replicate 32 0) [] [] false false).f_States)), one (boolVP ((S_api_Replica.mk (0 : Int) (0 : Int) (List.replicate 32 0) [] (0 : Int) (List.replicate 32 0) [] [] false false).f_Failed)), one (boolVP ((S_api_Replica.mk (0 : Int) (0 : Int) (List.replicate 32 0) [] (0 : Int) (List.replicate 32 0) [] [] false false).f_Cut))]), .res (Log_e p_0 r4.2)] a w at h
              exact ⟨(S_api_Replica.mk a_1.f_Chain a_1.f_Here a_1.f_Updater a_1.f_Watchers a_1.f_Window a_1.f_Committed (r11 ++ [(S_api_Timed.mk a_3.f_New r9.1)]) a_1.f_States a_1.f_Failed a_1.f_Cut), hF, h.sub [0, 1, 2, 3, 4, 5, 6] (by rfl)⟩
          · clear h hF
            rintro a w ⟨x16, hF, h⟩
            unfold replica_Accept.j2 at hF
            show Code.wp Tryz.prog _ _ a w
            refine regS mixed hn hG h [0, 2, 500, 5, 6] (ov [1] (op_fieldAddr_lbm (p := (b1 1)) (n := 32) 0 33 Tryz.underlying48 rfl Tryz.sizeOf23 (by decide) q0 rfl) <| ov [500, 4] (op_load_lb [one (intVP .u32 a_3.f_Home), bytesCk 32 a_3.f_Old] [bytesCk 32 a_3.f_New] [one (intVP .i64 a_3.f_Sig.f_Index), one (slVP (dC 32) a_3.f_Sig.f_Parts), one (slVP (dC 32) a_3.f_Sig.f_Others), one (slVP (dC 32) a_3.f_Sig.f_Path)] 1 Tryz.isAgg23 Tryz.sizeOf23 q0 rfl rfl rfl) <| ov [0] (op_fieldAddr_lbm (p := (b1 0)) (n := 32) 0 36 Tryz.underlying36 rfl Tryz.sizeOf23 (by decide) q0 rfl) <| ou [500, 501] 3 (op_store_lb [one (intVP .u32 x16.f_Chain), one (intVP .u32 x16.f_Here), bytesCk 32 x16.f_Updater, one (slVP (dC 32) x16.f_Watchers), one (intVP .u64 x16.f_Window)] [bytesCk 32 x16.f_Committed] [one (slVP S_api_Timed.ck x16.f_Roots), one (slVP S_api_State.ck x16.f_States), one (boolVP x16.f_Failed), one (boolVP x16.f_Cut)] [bytesCk 32 a_3.f_New] Tryz.sizeOf23 q0 q1 (cells_agg _) rfl rfl rfl) .nil) fun _ a w h => ?_
            refine regS mixed hn hG h [1, 500, 501, 4] (ov [0, 2] (op_load_w 1 Tryz.isAgg36 Tryz.sizeOf36 q0) <| ou [1, 500] 3 (op_store_w Tryz.sizeOf36 q0 q1 (cells_agg _)) <| ov [] (op_assign qi) .nil) fun _ a w h => ?_
            refine wp_ret ?_
            obtain rfl := Option.some.inj hF
            exact ⟨.inl rfl, retn h (rs := [.cell 8 36, .tmp 9]) (Vs := [(aggVP [one (intVP .u32 x16.f_Chain), one (intVP .u32 x16.f_Here), bytesCk 32 x16.f_Updater, one (slVP (dC 32) x16.f_Watchers), one (intVP .u64 x16.f_Window), bytesCk 32 a_3.f_New, one (slVP S_api_Timed.ck x16.f_Roots), one (slVP S_api_State.ck x16.f_States), one (boolVP x16.f_Failed), one (boolVP x16.f_Cut)]), (intVP .i64 0)]) Tryz.results14 (by decide) ⟨(r_cell 0 2 rfl rfl Tryz.isAgg36 Tryz.sizeOf36 rfl), (r_tmp 1 rfl), trivial⟩ [3] [(Log_e p_0 r4.2)] rfl rfl rfl⟩

def law23_RelayerCarries_1.j1 (x54 : Int) (x66 : Bool) : Option (Flow (Bool × O_SnC × S_api_Replica) (Bool × Int)) := some (.cont (x66, IntKind.wrap .i64 (x54 + 1)))
def law23_RelayerCarries_1.b2 (a_0 : List (S_api_Update)) (L_1 : O_SnC) (x21 : Int) (x53 : Bool) (x54 : Int) : Option (Flow (Bool × O_SnC × S_api_Replica) (Bool × Int)) := (if (decide (x54 < (L_1.f_v.length : Int))) = true then (if (0 : Int) ≤ x54 ∧ x54 < L_1.f_v.length then (if x53 = true then law23_RelayerCarries_1.j1 x54 true else ((ref10_Same (a_0.getD x21.toNat default) (L_1.f_v.getD x54.toNat default)).bind fun r65 => law23_RelayerCarries_1.j1 x54 r65)) else none) else some (.brk (x53, x54)))
def law23_RelayerCarries_1.j2 (L_1 : O_SnC) (x21 : Int) (r74 : S_api_Replica × Int × (Option O_Log)) (x75 : Bool) : Option (Flow (Bool × O_SnC × S_api_Replica) (Int × S_api_Replica)) := (if x75 = true then some (.ret (false, L_1, r74.1)) else some (.cont (IntKind.wrap .i64 (x21 + 1), r74.1)))
def law23_RelayerCarries_1.b1 (a_0 : List (S_api_Update)) (L_1 : O_SnC) (x21 : Int) (x22 : S_api_Replica) : Option (Flow (Bool × O_SnC × S_api_Replica) (Int × S_api_Replica)) := (if (decide (x21 < (a_0.length : Int))) = true then (if (0 : Int) ≤ x21 ∧ x21 < a_0.length then ((loopN (fun s : Bool × Int => law23_RelayerCarries_1.b2 a_0 L_1 x21 s.1 s.2) (((L_1.f_v.length : Int) - 0 : Int).toNat + 2) (false, 0)).bind fun cr => match cr with | .ret r => some (.ret r) | .next (y72, y73) => ((replica_Accept none x22 5 (a_0.getD x21.toNat default)).bind fun r74 => (if (!y72) = true then law23_RelayerCarries_1.j2 L_1 x21 r74 true else law23_RelayerCarries_1.j2 L_1 x21 r74 (!decide (r74.2.1 = (0 : Int)))))) else none) else some (.brk (x21, x22)))
def law23_RelayerCarries_1 (a_0 : List (S_api_Update)) (L_1 : O_SnC) (L_2 : S_api_Replica) : Option (Bool × O_SnC × S_api_Replica) := ((loopN (fun s : Int × S_api_Replica => law23_RelayerCarries_1.b1 a_0 L_1 s.1 s.2) (((a_0.length : Int) - 0 : Int).toNat + 2) (0, L_2)).bind fun cr => match cr with | .ret r => some r | .next (y82, y83) => some (true, L_1, y83))
theorem law23_RelayerCarries_1_ok {p_1 : Value} {p_2 : Value} {a_0 : List (S_api_Update)} {L_1 : O_SnC} {L_2 : S_api_Replica} {r : Bool × O_SnC × S_api_Replica} (hF : law23_RelayerCarries_1 a_0 L_1 L_2 = some r) : CallOk Tryz.prog KG 12 [(slVP S_api_Update.ck a_0), (eqVP p_1), (eqVP p_2)] [(SnC_e p_1 (some L_1)), (AtC_e p_2 (some L_2))] (fun _ => [SnC_e p_1 (some r.2.1), AtC_e p_2 (some r.2.2)]) (boolVP r.1) := by
  refine CallOk.intro 43 Tryz.func12 rfl Tryz.ntmps12 (Nat.le_of_ble_eq_true rfl) ?_
  intro c a w hG hn h
  unfold law23_RelayerCarries_1 at hF
  change SatL c [.slot 0 (slVP S_api_Update.ck a_0), .slot 1 (eqVP p_1), .slot 2 (eqVP p_2), .res (SnC_e p_1 (some L_1)), .res (AtC_e p_2 (some L_2))] a w at h
  refine regS mixed hn hG h [0, 1, 2, 3, 4] (ov [] (op_assign qb) .nil) fun _ a w h => ?_
  refine wp_seq ?_
  refine regS mixed hn hG h [1, 2, 502, 501, 500, 3, 4] (ov [0] (op_move q0) <| ov [500] (op_len_sl Tryz.underlying40 q0) <| ov [] (op_move qi) .nil) fun _ a w h => ?_
  refine wp_block ?_
  obtain ⟨cr78, hl79, hF⟩ := bind_some hF
  refine wp_mono (wp_loopN (R := Bool × O_SnC × S_api_Replica) (S := Int × S_api_Replica) (fun s a w => SatL c [.slot 1 (eqVP p_1), .slot 2 (eqVP p_2), .slot 11 (slVP S_api_Update.ck a_0), .slot 12 (intVP .i64 (a_0.length : Int)), .slot 13 (intVP .i64 s.1), .res (SnC_e p_1 (some L_1)), .res (AtC_e p_2 (some s.2))] a w) (fun res e a w => match res with | .next s => e = .exit 0 ∧ SatL c [.res (SnC_e p_1 (some L_1)), .res (AtC_e p_2 (some s.2))] a w | .ret r => e = .ret ∧ RetOk Tryz.prog Tryz.f12 c (boolVP r.1) (fun _ => [SnC_e p_1 (some r.2.1), AtC_e p_2 (some r.2.2)]) a w) ?_ _ (0, L_2) _ _ _ (h.sub [0, 1, 2, 3, 4, 5, 6] (by rfl)) hl79) ?_
  · clear hl79 hF h
    intro s a w o h hF
    obtain ⟨x21, x22⟩ := s
    change law23_RelayerCarries_1.b1 a_0 L_1 x21 x22 = some o at hF
    unfold law23_RelayerCarries_1.b1 at hF
    change SatL c [.slot 1 (eqVP p_1), .slot 2 (eqVP p_2), .slot 11 (slVP S_api_Update.ck a_0), .slot 12 (intVP .i64 (a_0.length : Int)), .slot 13 (intVP .i64 x21), .res (SnC_e p_1 (some L_1)), .res (AtC_e p_2 (some x22))] a w at h
    refine regS mixed hn hG h [0, 1, 2, 3, 4, 500, 5, 6] (ov [4, 3] (op_bin bin_lss q0 q1) .nil) fun _ a w h => ?_
    refine wp_seq ?_
    refine cnd h hF 5 [0, 1, 2, 3, 4, 6, 7] [0, 1, 2, 3, 4, 6, 7] (fun hb45 hF h => ?_) (fun hb45 hF h => ?_)
    · refine wp_skip ?_
      show Code.wp Tryz.prog _ _ a w
      refine wp_seq ?_
      refine wp_block ?_
      obtain ⟨hv46, hF⟩ := ite_some hF
      refine regS mixed hn hG h [0, 1, 502, 2, 3, 4, 5, 6, 500] (ov [2, 4] (op_indexAddr_sl Tryz.underlying40 Tryz.sizeOf48 S_api_Update.lens q0 q1 hv46) <| ov [500] (op_load_pp [one (intVP .u32 ((a_0.getD x21.toNat default).f_Home)), bytesCk 32 ((a_0.getD x21.toNat default).f_Old), bytesCk 32 ((a_0.getD x21.toNat default).f_New), one (intVP .i64 (((a_0.getD x21.toNat default).f_Sig).f_Index)), one (slVP (dC 32) (((a_0.getD x21.toNat default).f_Sig).f_Parts)), one (slVP (dC 32) (((a_0.getD x21.toNat default).f_Sig).f_Others)), one (slVP (dC 32) (((a_0.getD x21.toNat default).f_Sig).f_Path))] [] Tryz.isAgg48 Tryz.sizeOf48 q0 rfl) <| ob [] (op_alloc Tryz.zeroValue48 z48) <| og [501, 502] [500] [.res 2 100000 (fun v1_ _ => (lb (v1_) 48 [one (intVP .u32 ((a_0.getD x21.toNat default).f_Home)), bytesCk 32 ((a_0.getD x21.toNat default).f_Old), bytesCk 32 ((a_0.getD x21.toNat default).f_New), one (intVP .i64 (((a_0.getD x21.toNat default).f_Sig).f_Index)), one (slVP (dC 32) (((a_0.getD x21.toNat default).f_Sig).f_Parts)), one (slVP (dC 32) (((a_0.getD x21.toNat default).f_Sig).f_Others)), one (slVP (dC 32) (((a_0.getD x21.toNat default).f_Sig).f_Path))]))] (GOk.plain (op_store_w Tryz.sizeOf48 q0 q1 (cells_agg _)) rfl) .nil) fun b47 a w h => ?_
      refine regS mixed hn hG h [0, 1, 2, 500, 3, 4, 5, 6, 7, 8] (ov [] (op_assign qb) .nil) fun _ a w h => ?_
      refine wp_seq ?_
      obtain ⟨h48, h⟩ := h.ex 7 rfl
      have hp := h.isp 7 rfl (fun Φ f w q => SnC_lp Φ f w q)
      replace h := h.slotc 0 rfl (V' := lpVP p_1 0) (fun _ _ h => eq_lp h hp)
      replace h := h.sep (R := lb p_1 40 [one (eqVP h48)]) (S := (acc h48 48 69 S_api_Update.ck L_1.f_v)) 7 rfl
      replace h := h.sub [0, 1, 2, 3, 4, 5, 6, 7, 8, 9, 10] (by rfl)
      change SatL c [.slot 1 (lpVP p_1 0), .slot 2 (eqVP p_2), .slot 6 (lpVP (b47 2) 0), .slot 7 (boolVP false), .slot 11 (slVP S_api_Update.ck a_0), .slot 12 (intVP .i64 (a_0.length : Int)), .slot 13 (intVP .i64 x21), .res (lb p_1 40 [one (eqVP h48)]), .res (AtC_e p_2 (some x22)), .res (lb (b47 2) 48 [one (intVP .u32 ((a_0.getD x21.toNat default).f_Home)), bytesCk 32 ((a_0.getD x21.toNat default).f_Old), bytesCk 32 ((a_0.getD x21.toNat default).f_New), one (intVP .i64 (((a_0.getD x21.toNat default).f_Sig).f_Index)), one (slVP (dC 32) (((a_0.getD x21.toNat default).f_Sig).f_Parts)), one (slVP (dC 32) (((a_0.getD x21.toNat default).f_Sig).f_Others)), one (slVP (dC 32) (((a_0.getD x21.toNat default).f_Sig).f_Path))]), .res (acc h48 48 69 S_api_Update.ck L_1.f_v)] a w at h
      refine wp_seq ?_
      refine reg mixed hn hG h [0, 1, 2, 3, 4, 5, 6, 502, 501, 500, 7, 8, 9, 10] (ov [0, 7, 10] (op_load_cell 1 2 Tryz.isAgg40 q0 rfl rfl) <| ov [500] (op_len_sl Tryz.underlying40 q0) <| ov [] (op_move qi) .nil) fun _ a w h => ?_
      replace h := h.unsep 10 13 rfl rfl (by decide)
      replace h := h.conv 10 rfl (R' := SnC_e p_1 (some L_1)) (SnC_packo (v0 := h48) (o := (some L_1)))
      replace h := h.slotc 0 rfl (fun _ _ h => lp_eqv h)
      replace h := h.sub [0, 1, 2, 3, 4, 5, 6, 7, 8, 9, 11, 12, 10] (by rfl)
      change SatL c [.slot 1 (eqVP p_1), .slot 2 (eqVP p_2), .slot 6 (lpVP (b47 2) 0), .slot 7 (boolVP false), .slot 11 (slVP S_api_Update.ck a_0), .slot 12 (intVP .i64 (a_0.length : Int)), .slot 13 (intVP .i64 x21), .slot 17 (slVP S_api_Update.ck L_1.f_v), .slot 18 (intVP .i64 (L_1.f_v.length : Int)), .slot 19 (intVP .i64 0), .res (AtC_e p_2 (some x22)), .res (lb (b47 2) 48 [one (intVP .u32 ((a_0.getD x21.toNat default).f_Home)), bytesCk 32 ((a_0.getD x21.toNat default).f_Old), bytesCk 32 ((a_0.getD x21.toNat default).f_New), one (intVP .i64 (((a_0.getD x21.toNat default).f_Sig).f_Index)), one (slVP (dC 32) (((a_0.getD x21.toNat default).f_Sig).f_Parts)), one (slVP (dC 32) (((a_0.getD x21.toNat default).f_Sig).f_Others)), one (slVP (dC 32) (((a_0.getD x21.toNat default).f_Sig).f_Path))]), .res (SnC_e p_1 (some L_1))] a w at h
      show Code.wp Tryz.prog _ _ a w
      refine wp_block ?_
      obtain ⟨cr68, hl69, hF⟩ := bind_some hF
      refine wp_mono (wp_loopN (R := Bool × O_SnC × S_api_Replica) (S := Bool × Int) (fun s a w => SatL c [.slot 1 (eqVP p_1), .slot 2 (eqVP p_2), .slot 6 (lpVP (b47 2) 0), .slot 7 (boolVP s.1), .slot 11 (slVP S_api_Update.ck a_0), .slot 12 (intVP .i64 (a_0.length : Int)), .slot 13 (intVP .i64 x21), .slot 17 (slVP S_api_Update.ck L_1.f_v), .slot 18 (intVP .i64 (L_1.f_v.length : Int)), .slot 19 (intVP .i64 s.2), .res (AtC_e p_2 (some x22)), .res (lb (b47 2) 48 [one (intVP .u32 ((a_0.getD x21.toNat default).f_Home)), bytesCk 32 ((a_0.getD x21.toNat default).f_Old), bytesCk 32 ((a_0.getD x21.toNat default).f_New), one (intVP .i64 (((a_0.getD x21.toNat default).f_Sig).f_Index)), one (slVP (dC 32) (((a_0.getD x21.toNat default).f_Sig).f_Parts)), one (slVP (dC 32) (((a_0.getD x21.toNat default).f_Sig).f_Others)), one (slVP (dC 32) (((a_0.getD x21.toNat default).f_Sig).f_Path))]), .res (SnC_e p_1 (some L_1))] a w) (fun res e a w => match res with | .next s => e = .exit 2 ∧ SatL c [.slot 1 (eqVP p_1), .slot 2 (eqVP p_2), .slot 6 (lpVP (b47 2) 0), .slot 7 (boolVP s.1), .slot 11 (slVP S_api_Update.ck a_0), .slot 12 (intVP .i64 (a_0.length : Int)), .slot 13 (intVP .i64 x21), .res (AtC_e p_2 (some x22)), .res (lb (b47 2) 48 [one (intVP .u32 ((a_0.getD x21.toNat default).f_Home)), bytesCk 32 ((a_0.getD x21.toNat default).f_Old), bytesCk 32 ((a_0.getD x21.toNat default).f_New), one (intVP .i64 (((a_0.getD x21.toNat default).f_Sig).f_Index)), one (slVP (dC 32) (((a_0.getD x21.toNat default).f_Sig).f_Parts)), one (slVP (dC 32) (((a_0.getD x21.toNat default).f_Sig).f_Others)), one (slVP (dC 32) (((a_0.getD x21.toNat default).f_Sig).f_Path))]), .res (SnC_e p_1 (some L_1))] a w | .ret r => e = .ret ∧ RetOk Tryz.prog Tryz.f12 c (boolVP r.1) (fun _ => [SnC_e p_1 (some r.2.1), AtC_e p_2 (some r.2.2)]) a w) ?_ _ (false, 0) _ _ _ (h.sub [0, 1, 2, 3, 4, 5, 6, 7, 8, 9, 10, 11, 12] (by rfl)) hl69) ?_
      · clear hl69 hF h
        intro s a w o h hF
        obtain ⟨x53, x54⟩ := s
        change law23_RelayerCarries_1.b2 a_0 L_1 x21 x53 x54 = some o at hF
        unfold law23_RelayerCarries_1.b2 at hF
        change SatL c [.slot 1 (eqVP p_1), .slot 2 (eqVP p_2), .slot 6 (lpVP (b47 2) 0), .slot 7 (boolVP x53), .slot 11 (slVP S_api_Update.ck a_0), .slot 12 (intVP .i64 (a_0.length : Int)), .slot 13 (intVP .i64 x21), .slot 17 (slVP S_api_Update.ck L_1.f_v), .slot 18 (intVP .i64 (L_1.f_v.length : Int)), .slot 19 (intVP .i64 x54), .res (AtC_e p_2 (some x22)), .res (lb (b47 2) 48 [one (intVP .u32 ((a_0.getD x21.toNat default).f_Home)), bytesCk 32 ((a_0.getD x21.toNat default).f_Old), bytesCk 32 ((a_0.getD x21.toNat default).f_New), one (intVP .i64 (((a_0.getD x21.toNat default).f_Sig).f_Index)), one (slVP (dC 32) (((a_0.getD x21.toNat default).f_Sig).f_Parts)), one (slVP (dC 32) (((a_0.getD x21.toNat default).f_Sig).f_Others)), one (slVP (dC 32) (((a_0.getD x21.toNat default).f_Sig).f_Path))]), .res (SnC_e p_1 (some L_1))] a w at h
        refine regS mixed hn hG h [0, 1, 2, 3, 4, 5, 6, 7, 8, 9, 500, 10, 11, 12] (ov [9, 8] (op_bin bin_lss q0 q1) .nil) fun _ a w h => ?_
        refine wp_seq ?_
        refine cnd h hF 10 [0, 1, 2, 3, 4, 5, 6, 7, 8, 9, 11, 12, 13] [0, 1, 2, 3, 4, 5, 6, 7, 8, 9, 11, 12, 13] (fun hb62 hF h => ?_) (fun hb62 hF h => ?_)
        · refine wp_skip ?_
          show Code.wp Tryz.prog _ _ a w
          refine wp_seq ?_
          refine wp_block ?_
          obtain ⟨hv63, hF⟩ := ite_some hF
          refine regS mixed hn hG h [0, 1, 2, 3, 502, 4, 5, 6, 7, 8, 9, 10, 11, 12, 500] (ov [7, 9] (op_indexAddr_sl Tryz.underlying40 Tryz.sizeOf48 S_api_Update.lens q0 q1 hv63) <| ov [500] (op_load_pp [one (intVP .u32 ((L_1.f_v.getD x54.toNat default).f_Home)), bytesCk 32 ((L_1.f_v.getD x54.toNat default).f_Old), bytesCk 32 ((L_1.f_v.getD x54.toNat default).f_New), one (intVP .i64 (((L_1.f_v.getD x54.toNat default).f_Sig).f_Index)), one (slVP (dC 32) (((L_1.f_v.getD x54.toNat default).f_Sig).f_Parts)), one (slVP (dC 32) (((L_1.f_v.getD x54.toNat default).f_Sig).f_Others)), one (slVP (dC 32) (((L_1.f_v.getD x54.toNat default).f_Sig).f_Path))] [] Tryz.isAgg48 Tryz.sizeOf48 q0 rfl) <| ob [] (op_alloc Tryz.zeroValue48 z48) <| og [501, 502] [500] [.res 2 100000 (fun v1_ _ => (lb (v1_) 48 [one (intVP .u32 ((L_1.f_v.getD x54.toNat default).f_Home)), bytesCk 32 ((L_1.f_v.getD x54.toNat default).f_Old), bytesCk 32 ((L_1.f_v.getD x54.toNat default).f_New), one (intVP .i64 (((L_1.f_v.getD x54.toNat default).f_Sig).f_Index)), one (slVP (dC 32) (((L_1.f_v.getD x54.toNat default).f_Sig).f_Parts)), one (slVP (dC 32) (((L_1.f_v.getD x54.toNat default).f_Sig).f_Others)), one (slVP (dC 32) (((L_1.f_v.getD x54.toNat default).f_Sig).f_Path))]))] (GOk.plain (op_store_w Tryz.sizeOf48 q0 q1 (cells_agg _)) rfl) .nil) fun b64 a w h => ?_
          refine wp_cut (fun a w => ∃ (x66 : Bool), law23_RelayerCarries_1.j1 x54 x66 = some o ∧ SatL c [.slot 1 (eqVP p_1), .slot 2 (eqVP p_2), .slot 6 (lpVP (b47 2) 0), .slot 7 (boolVP x66), .slot 11 (slVP S_api_Update.ck a_0), .slot 12 (intVP .i64 (a_0.length : Int)), .slot 13 (intVP .i64 x21), .slot 17 (slVP S_api_Update.ck L_1.f_v), .slot 18 (intVP .i64 (L_1.f_v.length : Int)), .slot 19 (intVP .i64 x54), .res (AtC_e p_2 (some x22)), .res (lb (b47 2) 48 [one (intVP .u32 ((a_0.getD x21.toNat default).f_Home)), bytesCk 32 ((a_0.getD x21.toNat default).f_Old), bytesCk 32 ((a_0.getD x21.toNat default).f_New), one (intVP .i64 (((a_0.getD x21.toNat default).f_Sig).f_Index)), one (slVP (dC 32) (((a_0.getD x21.toNat default).f_Sig).f_Parts)), one (slVP (dC 32) (((a_0.getD x21.toNat default).f_Sig).f_Others)), one (slVP (dC 32) (((a_0.getD x21.toNat default).f_Sig).f_Path))]), .res (SnC_e p_1 (some L_1))] a w) ?_ ?_
          · rcases Bool.eq_false_or_eq_true x53 with hb67 | hb67
            · replace hF := tt_of hb67 hF
              refine reg mixed hn hG h [0, 1, 2, 500, 5, 6, 7, 8, 9, 10, 11, 12, 13] (ov [3] (op_move q0) <| ov [500] (op_move q0) <| oe [500] [] (GOk.off_v (want := false) hb67 rfl rfl rfl rfl) <| oe [501] [] (GOk.off_v (want := false) hb67 rfl rfl rfl rfl) <| oe [502] [] (GOk.off_v (want := false) hb67 rfl rfl rfl rfl) <| ov [503] (op_pick_t hb67 q0 qb) <| od [500] 3 (op_assign q0) .nil) fun _ a w h => ?_
              exact ⟨true, hF, h.sub [0, 1, 2, 3, 4, 5, 6, 7, 8, 9, 10, 11, 12] (by rfl)⟩
            · replace hF := ff_of hb67 hF
              obtain ⟨r65, hr65, hF⟩ := bind_some hF
              refine reg mixed hn hG h [0, 1, 2, 500, 5, 6, 7, 8, 9, 10, 11, 12, 13] (ov [3] (op_move q0) <| ov [500] (op_move q0) <| oe [500, 2, 12] [] (GOk.on_eq hb67 rfl rfl rfl (op_load_w 1 Tryz.isAgg48 Tryz.sizeOf48 q0)) <| oe [501, 4, 14] [] (GOk.on_eq hb67 rfl rfl rfl (op_load_w 1 Tryz.isAgg48 Tryz.sizeOf48 q0)) <| oe [502, 501, 500] [] (GOk.on_eq hb67 rfl rfl rfl (op_call Tryz.call13 (ref10_Same_ok hr65) ⟨q0, q1, trivial⟩)) <| ov [503, 500] (op_pick_f hb67 q0 q1) <| od [500] 3 (op_assign q0) .nil) fun _ a w h => ?_
              exact ⟨r65, hF, h.sub [0, 1, 2, 3, 4, 5, 6, 7, 8, 9, 10, 11, 12] (by rfl)⟩
          · clear h hF
            rintro a w ⟨x66, hF, h⟩
            unfold law23_RelayerCarries_1.j1 at hF
            show Code.wp Tryz.prog _ _ a w
            refine reg mixed hn hG h [0, 1, 2, 3, 4, 5, 6, 7, 8, 500, 10, 11, 12] (ov [9] (op_bin bin_add q0 qi) <| od [500] 9 (op_move q0) .nil) fun _ a w h => ?_
            obtain rfl := Option.some.inj hF
            exact ⟨rfl, h.sub [0, 1, 2, 3, 4, 5, 6, 7, 8, 9, 10, 11, 12] (by rfl)⟩
        · refine wp_exit ?_
          obtain rfl := Option.some.inj hF
          exact ⟨exit_ne _, rfl, h.sub [0, 1, 2, 3, 4, 5, 6, 10, 11, 12] (by rfl)⟩
      · clear hl69
        intro e a w hq
        cases cr68 with
        | ret r70 =>
          obtain ⟨rfl, hq⟩ := hq
          obtain rfl := Option.some.inj hF
          exact ⟨ret_ne, rfl, hq⟩
        | next s71 =>
          obtain ⟨y72, y73⟩ := s71
          obtain ⟨rfl, h⟩ := hq
          change SatL c [.slot 1 (eqVP p_1), .slot 2 (eqVP p_2), .slot 6 (lpVP (b47 2) 0), .slot 7 (boolVP y72), .slot 11 (slVP S_api_Update.ck a_0), .slot 12 (intVP .i64 (a_0.length : Int)), .slot 13 (intVP .i64 x21), .res (AtC_e p_2 (some x22)), .res (lb (b47 2) 48 [one (intVP .u32 ((a_0.getD x21.toNat default).f_Home)), bytesCk 32 ((a_0.getD x21.toNat default).f_Old), bytesCk 32 ((a_0.getD x21.toNat default).f_New), one (intVP .i64 (((a_0.getD x21.toNat default).f_Sig).f_Index)), one (slVP (dC 32) (((a_0.getD x21.toNat default).f_Sig).f_Parts)), one (slVP (dC 32) (((a_0.getD x21.toNat default).f_Sig).f_Others)), one (slVP (dC 32) (((a_0.getD x21.toNat default).f_Sig).f_Path))]), .res (SnC_e p_1 (some L_1))] a w at h
          refine inBlock_at ?_
          show Code.wp Tryz.prog _ _ a w
          refine regS mixed hn hG h [0, 1, 2, 3, 4, 5, 6, 7, 8, 9] (ov [] (op_assign qi) .nil) fun _ a w h => ?_
          have hp := h.isp 7 rfl (fun Φ f w q => AtC_lp Φ f w q)
          replace h := h.slotc 1 rfl (V' := lpVP p_2 0) (fun _ _ h => eq_lp h hp)
          replace h := h.sub [0, 1, 2, 3, 4, 5, 6, 7, 8, 9] (by rfl)
          change SatL c [.slot 1 (eqVP p_1), .slot 2 (lpVP p_2 0), .slot 6 (lpVP (b47 2) 0), .slot 7 (boolVP y72), .slot 11 (slVP S_api_Update.ck a_0), .slot 12 (intVP .i64 (a_0.length : Int)), .slot 13 (intVP .i64 x21), .res (lb p_2 36 [one (intVP .u32 x22.f_Chain), one (intVP .u32 x22.f_Here), bytesCk 32 x22.f_Updater, one (slVP (dC 32) x22.f_Watchers), one (intVP .u64 x22.f_Window), bytesCk 32 x22.f_Committed, one (slVP S_api_Timed.ck x22.f_Roots), one (slVP S_api_State.ck x22.f_States), one (boolVP x22.f_Failed), one (boolVP x22.f_Cut)]), .res (lb (b47 2) 48 [one (intVP .u32 ((a_0.getD x21.toNat default).f_Home)), bytesCk 32 ((a_0.getD x21.toNat default).f_Old), bytesCk 32 ((a_0.getD x21.toNat default).f_New), one (intVP .i64 (((a_0.getD x21.toNat default).f_Sig).f_Index)), one (slVP (dC 32) (((a_0.getD x21.toNat default).f_Sig).f_Parts)), one (slVP (dC 32) (((a_0.getD x21.toNat default).f_Sig).f_Others)), one (slVP (dC 32) (((a_0.getD x21.toNat default).f_Sig).f_Path))]), .res (SnC_e p_1 (some L_1))] a w at h
          replace h := h.snoc Log_nil
          replace h := h.sub [0, 1, 2, 3, 4, 5, 6, 7, 8, 9, 10] (by rfl)
          change SatL c [.slot 1 (eqVP p_1), .slot 2 (lpVP p_2 0), .slot 6 (lpVP (b47 2) 0), .slot 7 (boolVP y72), .slot 11 (slVP S_api_Update.ck a_0), .slot 12 (intVP .i64 (a_0.length : Int)), .slot 13 (intVP .i64 x21), .res (lb p_2 36 [one (intVP .u32 x22.f_Chain), one (intVP .u32 x22.f_Here), bytesCk 32 x22.f_Updater, one (slVP (dC 32) x22.f_Watchers), one (intVP .u64 x22.f_Window), bytesCk 32 x22.f_Committed, one (slVP S_api_Timed.ck x22.f_Roots), one (slVP S_api_State.ck x22.f_States), one (boolVP x22.f_Failed), one (boolVP x22.f_Cut)]), .res (lb (b47 2) 48 [one (intVP .u32 ((a_0.getD x21.toNat default).f_Home)), bytesCk 32 ((a_0.getD x21.toNat default).f_Old), bytesCk 32 ((a_0.getD x21.toNat default).f_New), one (intVP .i64 (((a_0.getD x21.toNat default).f_Sig).f_Index)), one (slVP (dC 32) (((a_0.getD x21.toNat default).f_Sig).f_Parts)), one (slVP (dC 32) (((a_0.getD x21.toNat default).f_Sig).f_Others)), one (slVP (dC 32) (((a_0.getD x21.toNat default).f_Sig).f_Path))]), .res (SnC_e p_1 (some L_1)), .res (Log_e (.pointer none) none)] a w at h
          obtain ⟨r74, hr74, hF⟩ := bind_some hF
          refine wp_seq ?_
          refine reg mixed hn hG h [0, 1, 3, 500, 4, 5, 6, 501, 9, 505] (ov [1, 7] (op_load_w 1 Tryz.isAgg36 Tryz.sizeOf36 q0) <| ov [2, 8] (op_load_w 1 Tryz.isAgg48 Tryz.sizeOf48 q0) <| oc [501, 500] [10] Tryz.call14 (replica_Accept_ok hr74) ⟨(opc (ec _)), q0, qi, q1, trivial⟩ <| ov [501] (op_move q0) <| ov [500] (op_extract q0 rfl) <| ov [501] (op_extract q0 rfl) <| ou [1, 501] 7 (op_store_w Tryz.sizeOf36 q0 q1 (cells_agg _)) <| ov [501] (op_assign q0) .nil) fun _ a w h => ?_
          replace h := h.conv 7 rfl (R' := AtC_e p_2 (some r74.1)) (AtC_packo (o := (some r74.1)))
          replace h := h.slotc 1 rfl (fun _ _ h => lp_eqv h)
          replace h := h.sub [0, 1, 2, 3, 4, 5, 6, 8, 9, 7] (by rfl)
          change SatL c [.slot 1 (eqVP p_1), .slot 2 (eqVP p_2), .slot 7 (boolVP y72), .slot 10 (intVP .i64 r74.2.1), .slot 11 (slVP S_api_Update.ck a_0), .slot 12 (intVP .i64 (a_0.length : Int)), .slot 13 (intVP .i64 x21), .res (SnC_e p_1 (some L_1)), .res (Log_e (.pointer none) r74.2.2), .res (AtC_e p_2 (some r74.1))] a w at h
          show Code.wp Tryz.prog _ _ a w
          refine wp_seq ?_
          refine wp_cut (fun a w => ∃ (x75 : Bool), law23_RelayerCarries_1.j2 L_1 x21 r74 x75 = some o ∧ SatL c [.slot 1 (eqVP p_1), .slot 2 (eqVP p_2), .slot 11 (slVP S_api_Update.ck a_0), .slot 12 (intVP .i64 (a_0.length : Int)), .slot 13 (intVP .i64 x21), .slot 41 (boolVP x75), .res (SnC_e p_1 (some L_1)), .res (Log_e (.pointer none) r74.2.2), .res (AtC_e p_2 (some r74.1))] a w) ?_ ?_
          · rcases Bool.eq_false_or_eq_true (!y72) with hb77 | hb77
            · replace hF := tt_of hb77 hF
              refine reg mixed hn hG h [0, 1, 4, 5, 6, 500, 7, 8, 9] (ov [2] (op_move q0) <| ov [500] (op_un (un_not _) q0) <| ov [500] (op_move q0) <| oe [500] [] (GOk.off_v (want := false) hb77 rfl rfl rfl rfl) <| oe [501] [] (GOk.off_v (want := false) hb77 rfl rfl rfl rfl) <| ov [502] (op_pick_t hb77 q0 qb) .nil) fun _ a w h => ?_
              exact ⟨true, hF, h.sub [0, 1, 2, 3, 4, 5, 6, 7, 8] (by rfl)⟩
            · replace hF := ff_of hb77 hF
              refine reg mixed hn hG h [0, 1, 4, 5, 6, 500, 7, 8, 9] (ov [2] (op_move q0) <| ov [500] (op_un (un_not _) q0) <| ov [500] (op_move q0) <| oe [500, 3] [] (GOk.on_eq hb77 rfl rfl rfl (op_move q0)) <| oe [501, 500] [] (GOk.on_eq hb77 rfl rfl rfl (op_bin bin_neq q0 qi)) <| ov [502, 500] (op_pick_f hb77 q0 q1) .nil) fun _ a w h => ?_
              exact ⟨!decide (r74.2.1 = (0 : Int)), hF, h.sub [0, 1, 2, 3, 4, 5, 6, 7, 8] (by rfl)⟩
          · clear h hF
            rintro a w ⟨x75, hF, h⟩
            unfold law23_RelayerCarries_1.j2 at hF
            show Code.wp Tryz.prog _ _ a w
            refine cnd h hF 5 [6, 7, 8] [0, 1, 2, 3, 4, 6, 7, 8] (fun hb76 hF h => ?_) (fun hb76 hF h => ?_)
            · refine regS mixed hn hG h [500, 0, 1, 2] (ov [] (op_assign qb) .nil) fun _ a w h => ?_
              refine wp_ret ?_
              obtain rfl := Option.some.inj hF
              exact ⟨ret_ne, rfl, ret1 h Tryz.results12 (r_tmp 0 rfl) [1, 3] [(SnC_e p_1 (some L_1)), (AtC_e p_2 (some r74.1))] rfl rfl rfl⟩
            · refine wp_skip ?_
              show Code.wp Tryz.prog _ _ a w
              refine reg mixed hn hG h [0, 1, 2, 3, 500, 5, 6, 7] (ov [4] (op_bin bin_add q0 qi) <| od [500] 4 (op_move q0) .nil) fun _ a w h => ?_
              obtain rfl := Option.some.inj hF
              exact ⟨rfl, h.sub [0, 1, 2, 3, 4, 5, 7] (by rfl)⟩
    · refine wp_exit ?_
      obtain rfl := Option.some.inj hF
      exact ⟨exit_ne _, rfl, h.sub [5, 6] (by rfl)⟩
  · clear hl79
    intro e a w hq
    cases cr78 with
    | ret r80 =>
      obtain ⟨rfl, hq⟩ := hq
      obtain rfl := Option.some.inj hF
      exact ⟨.inl rfl, hq⟩
    | next s81 =>
      obtain ⟨y82, y83⟩ := s81
      obtain ⟨rfl, h⟩ := hq
      change SatL c [.res (SnC_e p_1 (some L_1)), .res (AtC_e p_2 (some y83))] a w at h
      refine inBlock_at ?_
      show Code.wp Tryz.prog _ _ a w
      refine regS mixed hn hG h [500, 0, 1] (ov [] (op_assign qb) .nil) fun _ a w h => ?_
      refine wp_ret ?_
      obtain rfl := Option.some.inj hF
      exact ⟨.inl rfl, ret1 h Tryz.results12 (r_tmp 0 rfl) [1, 2] [(SnC_e p_1 (some L_1)), (AtC_e p_2 (some y83))] rfl rfl rfl⟩

def law23_RelayerCarries.b1 (a_1 : Int) (x44 : Int) (x45 : S_keys_Signer) (x46 : Option O_Log) (x47 : List UInt8) (x48 : O_SnC) (x49 : List (List UInt8)) (x51 : List ((List UInt8) × Bool)) : Option (Flow Bool (Int × S_keys_Signer × (Option O_Log) × (List UInt8) × O_SnC × (List (List UInt8)) × (List ((List UInt8) × Bool)))) := (if (decide (x44 < (a_1.tmod 8))) = true then ((ref09_Leaf none (S_api_Letter.mk 1 (IntKind.wrap .u32 x44) 2 [97] [98] [])).bind fun r75 => (if x49.length + [r75.1].length ≤ mxl ∧ (x49.length + [r75.1].length) * 32 ≤ 140737488355328 then ((merkle_Of x46 (x49 ++ [r75.1])).bind fun r78 => (if ((lkp r78.1 x51).getD false) = true then some (.ret true) else ((update_Sign r78.2 x45 1 x47 r78.1).bind fun r81 => (if (!decide (r81.2.2.1 = (0 : Int))) = true then some (.ret false) else (if x48.f_v.length + [r81.2.1].length ≤ mxl ∧ (x48.f_v.length + [r81.2.1].length) * 152 ≤ 140737488355328 then some (.cont (IntKind.wrap .u8 (x44 + 1), r81.1, r81.2.2.2, r78.1, ⟨x48.f_v ++ [r81.2.1]⟩, x49 ++ [r75.1], upd r78.1 true x51)) else none))))) else none)) else some (.brk (x44, x45, x46, x47, x48, x49, x51)))
def law23_RelayerCarries.b2 (a_2 : List (Int)) (x107 : Int) (x108 : O_SnC) (x109 : S_relayer_Relayer) (x110 : S_api_Replica) : Option (Flow Bool (Int × O_SnC × S_relayer_Relayer × S_api_Replica)) := (if (decide (x107 < (a_2.length : Int))) = true then (if (0 : Int) ≤ x107 ∧ x107 < a_2.length then ((relayer_Step x109 x108.f_v x110 (if (a_2.getD x107.toNat default) < (0 : Int) then (0 : Int) else (a_2.getD x107.toNat default))).bind fun r124 => ((law23_RelayerCarries_1 r124.2 x108 x110).bind fun r125 => (if (!r125.1) = true then some (.ret false) else some (.cont (IntKind.wrap .i64 (x107 + 1), r125.2.1, r124.1, r125.2.2))))) else none) else some (.brk (x107, x108, x109, x110)))
def law23_RelayerCarries.b3 (y132 : O_SnC) (x141 : Int) (x142 : S_relayer_Relayer) (x143 : S_api_Replica) (x144 : O_SnC) : Option (Flow Bool (Int × S_relayer_Relayer × S_api_Replica × O_SnC)) := (if (decide (x141 < (y132.f_v.length : Int))) = true then ((relayer_Step x142 x144.f_v x143 (-1 : Int)).bind fun r156 => ((law23_RelayerCarries_1 r156.2 x144 x143).bind fun r157 => (if (!r157.1) = true then some (.ret false) else some (.cont (IntKind.wrap .i64 (x141 + 1), r156.1, r157.2.2, r157.2.1))))) else some (.brk (x141, x142, x143, x144)))
def law23_RelayerCarries.j1 (x170 : Bool) : Option Bool := some x170
def law23_RelayerCarries (a_0 : List UInt8) (a_1 : Int) (a_2 : List (Int)) (a_3 : Int) : Option Bool := ((law23_awake).bind fun r2 => (if (!r2) = true then some false else (if (decide ((12 : Int) < (a_2.length : Int))) = true then some true else ((keys_New none a_0).bind fun r5 => ((keys_Signer_Root r5.1 r5.2).bind fun r7 => ((merkle_Of r7.2 []).bind fun r8 => ((replica_New 1 2 r7.1 [] (IntKind.wrap .u64 a_3) r8.1).bind fun r9 => ((loopN (fun s : Int × S_keys_Signer × (Option O_Log) × (List UInt8) × O_SnC × (List (List UInt8)) × (List ((List UInt8) × Bool)) => law23_RelayerCarries.b1 a_1 s.1 s.2.1 s.2.2.1 s.2.2.2.1 s.2.2.2.2.1 s.2.2.2.2.2.1 s.2.2.2.2.2.2) (((a_1.tmod 8) - 0 : Int).toNat + 2) (0, r5.1, r8.2, r9.f_Committed, ⟨[]⟩, [], upd r9.f_Committed true [])).bind fun cr => match cr with | .ret r => some r | .next (y92, y93, y94, y95, y96, y97, y98) => ((relayer_New 1).bind fun r99 => ((loopN (fun s : Int × O_SnC × S_relayer_Relayer × S_api_Replica => law23_RelayerCarries.b2 a_2 s.1 s.2.1 s.2.2.1 s.2.2.2) (((a_2.length : Int) - 0 : Int).toNat + 2) (0, y96, r99, r9)).bind fun cr => match cr with | .ret r => some r | .next (y131, y132, y133, y134) => ((loopN (fun s : Int × S_relayer_Relayer × S_api_Replica × O_SnC => law23_RelayerCarries.b3 y132 s.1 s.2.1 s.2.2.1 s.2.2.2) (((y132.f_v.length : Int) - 0 : Int).toNat + 2) (0, y133, y134, y132)).bind fun cr => match cr with | .ret r => some r | .next (y163, y164, y165, y166) => ((relayer_Step y164 y166.f_v y165 (-1 : Int)).bind fun r168 => (if (decide (y165.f_Committed = y95)) = true then (if (decide ((r168.2.length : Int) = (0 : Int))) = true then law23_RelayerCarries.j1 (decide ((y165.f_Roots.length : Int) = (y166.f_v.length : Int))) else law23_RelayerCarries.j1 false) else law23_RelayerCarries.j1 false)))))))))))))
theorem law23_RelayerCarries_ok {a_0 : List UInt8} {a_1 : Int} {a_2 : List (Int)} {a_3 : Int} {r : Bool} (hF : law23_RelayerCarries a_0 a_1 a_2 a_3 = some r) : CallOk Tryz.prog KG 3 [(aggVP [bytesCk 32 a_0]), (intVP .u8 a_1), (slVP (iC .i64) a_2), (intVP .u16 a_3)] [] (fun _ => []) (boolVP r) := by
  refine CallOk.intro 145 Tryz.func3 rfl Tryz.ntmps3 (Nat.le_of_ble_eq_true rfl) ?_
  intro c a w hG hn h
  unfold law23_RelayerCarries at hF
  change SatL c [.slot 0 (aggVP [bytesCk 32 a_0]), .slot 1 (intVP .u8 a_1), .slot 2 (slVP (iC .i64) a_2), .slot 3 (intVP .u16 a_3)] a w at h
  refine regS mixed hn hG h [1, 2, 3, 502, 501] (ob [0] (op_box q0 (cells_agg _)) <| ov [] (op_assign qb) .nil) fun b1 a w h => ?_
  refine wp_seq ?_
  obtain ⟨r2, hr2, hF⟩ := bind_some hF
  refine regS mixed hn hG h [0, 1, 2, 3, 500, 4] (oc [] [] Tryz.call4 (law23_awake_ok hr2) trivial <| ov [500] (op_un (un_not _) q0) .nil) fun _ a w h => ?_
  refine cnd h hF 4 [] [0, 1, 2, 3, 5] (fun hb3 hF h => ?_) (fun hb3 hF h => ?_)
  · refine regS mixed hn hG h [500] (ov [] (op_assign qb) .nil) fun _ a w h => ?_
    refine wp_ret ?_
    obtain rfl := Option.some.inj hF
    exact ⟨.inl rfl, ret1 h Tryz.results3 (r_tmp 0 rfl) [] [] rfl rfl rfl⟩
  · refine wp_skip ?_
    show Code.wp Tryz.prog _ _ a w
    refine wp_seq ?_
    refine regS mixed hn hG h [0, 1, 2, 3, 500, 4] (ov [1] (op_move q0) <| ov [500] (op_len_sl Tryz.underlying24 q0) <| ov [500] (op_bin bin_gtr q0 qi) .nil) fun _ a w h => ?_
    refine cnd h hF 4 [] [0, 1, 2, 3, 5] (fun hb4 hF h => ?_) (fun hb4 hF h => ?_)
    · refine regS mixed hn hG h [500] (ov [] (op_assign qb) .nil) fun _ a w h => ?_
      refine wp_ret ?_
      obtain rfl := Option.some.inj hF
      exact ⟨.inl rfl, ret1 h Tryz.results3 (r_tmp 0 rfl) [] [] rfl rfl rfl⟩
    · refine wp_skip ?_
      show Code.wp Tryz.prog _ _ a w
      replace h := h.snoc Log_nil
      replace h := h.sub [0, 1, 2, 3, 4, 5] (by rfl)
      change SatL c [.slot 1 (intVP .u8 a_1), .slot 2 (slVP (iC .i64) a_2), .slot 3 (intVP .u16 a_3), .slot 4 (lpVP (b1 0) 0), .res (lb (b1 0) 23 [bytesCk 32 a_0]), .res (Log_e (.pointer none) none)] a w at h
      obtain ⟨r5, hr5, hF⟩ := bind_some hF
      refine regS mixed hn hG h [0, 1, 2, 502, 503, 500] (ov [3, 4] (op_load_w 1 Tryz.isAgg23 Tryz.sizeOf23 q0) <| oc [500] [5] Tryz.call5 (keys_New_ok hr5) ⟨(opc (ec _)), q0, trivial⟩ <| ob [] (op_alloc Tryz.zeroValue29 z29) <| og [501, 503] [500] [.res 2 100000 (fun v1_ _ => (lb (v1_) 29 [bytesCk 32 r5.1.f_Seed, one (intVP .i64 r5.1.f_Next), one (slVP (dC 32) r5.1.f_Leaves)]))] (GOk.plain (op_store_w Tryz.sizeOf29 q0 q1 (cells_agg _)) rfl) .nil) fun b6 a w h => ?_
      obtain ⟨r7, hr7, hF⟩ := bind_some hF
      obtain ⟨r8, hr8, hF⟩ := bind_some hF
      obtain ⟨r9, hr9, hF⟩ := bind_some hF
      refine regS mixed hn hG h [0, 1, 3, 502, 5, 504, 500] (ov [3, 5] (op_load_w 1 Tryz.isAgg29 Tryz.sizeOf29 q0) <| oc [500] [4] Tryz.call7 (keys_Signer_Root_ok hr7) ⟨q0, (opc (ec _)), trivial⟩ <| ov [2] (op_move q0) <| ov [500] (op_convert_int Tryz.underlying25 Tryz.underlying32 q0) <| oc [] [502] Tryz.call8 (merkle_Of_ok hr8) ⟨(opc (ec _)), nilc_sl, trivial⟩ <| oc [505, 502, 501] [] Tryz.call6 (replica_New_ok hr9) ⟨qi, qi, q0, nilc_sl, q1, q2, trivial⟩ <| ob [] (op_alloc Tryz.zeroValue36 zo36) <| og [501, 502] [500] [.res 6 100000 (fun v1_ _ => (lb (v1_) 36 [one (intVP .u32 r9.f_Chain), one (intVP .u32 r9.f_Here), bytesCk 32 r9.f_Updater, one (slVP (dC 32) r9.f_Watchers), one (intVP .u64 r9.f_Window), bytesCk 32 r9.f_Committed, one (slVP S_api_Timed.ck r9.f_Roots), one (slVP S_api_State.ck r9.f_States), one (boolVP r9.f_Failed), one (boolVP r9.f_Cut)]))] (GOk.plain (op_store_w Tryz.sizeOf36 q0 q1 (cells_agg _)) rfl) .nil) fun b10 a w h => ?_
      refine regS mixed hn hG h [0, 1, 2, 3, 500, 4, 5, 6] (ov [] (op_assign (opc (ec _))) .nil) fun _ a w h => ?_
      refine regS mixed hn hG h [0, 1, 2, 3, 4, 501, 5, 6, 7, 500] (ob [] (op_alloc Tryz.zeroValue40 zo40) .nil) fun b11 a w h => ?_
      refine regS mixed hn hG h [0, 1, 2, 3, 4, 5, 500, 6, 7, 8, 9, 502] (og [] [] [.slot 41 0 100000 (fun v1_ _ => (eqVP (v1_))), .res 0 100000 (fun v1_ _ => (mapR (v1_) arrK (fun l => l.length = 32) (fun u y => RP.val (boolVP y) u) []))] (GOk.plain op_makeMap rfl) <| ov [3] (op_fieldAddr_lbm (p := (b10 6)) (n := 32) 0 36 Tryz.underlying36 rfl Tryz.sizeOf23 (by decide) q0 rfl) <| ov [500, 8] (op_load_lb [one (intVP .u32 r9.f_Chain), one (intVP .u32 r9.f_Here), bytesCk 32 r9.f_Updater, one (slVP (dC 32) r9.f_Watchers), one (intVP .u64 r9.f_Window)] [bytesCk 32 r9.f_Committed] [one (slVP S_api_Timed.ck r9.f_Roots), one (slVP S_api_State.ck r9.f_States), one (boolVP r9.f_Failed), one (boolVP r9.f_Cut)] 1 Tryz.isAgg23 Tryz.sizeOf23 q0 rfl rfl rfl) <| og [503, 500] [502] [.res 0 100000 (fun v1_ _ => (mapR (v1_) arrK (fun l => l.length = 32) (fun u y => RP.val (boolVP y) u) (upd r9.f_Committed true [])))] (GOk.plain (op_insert (op_mapUpdate Tryz.underlying41 (keyArr Tryz.underlying23 Tryz.underlying5 Tryz.type5 Tryz.sizeOf5 Tryz.isAgg5) q0 q1 hk_arr qb)) rfl) <| og [504] [] [.slot 44 0 100000 (fun v1_ _ => (eqVP (v1_)))] (fun {β} => (GOk.plain (op_move (V := (eqVP ((β 0)))) q0) rfl)) <| og [500] [] [.slot 13 0 100000 (fun v1_ _ => (eqVP (v1_)))] (fun {β} => (GOk.plain (op_assign (V := (eqVP ((β 0)))) q0) rfl)) .nil) fun b12 a w h => ?_
      refine regS mixed hn hG h [0, 1, 2, 3, 4, 5, 6, 502, 7, 8, 9, 10, 11, 500] (ov [3] (op_fieldAddr_lbm (p := (b10 6)) (n := 32) 0 36 Tryz.underlying36 rfl Tryz.sizeOf23 (by decide) q0 rfl) <| ov [500, 9] (op_load_lb [one (intVP .u32 r9.f_Chain), one (intVP .u32 r9.f_Here), bytesCk 32 r9.f_Updater, one (slVP (dC 32) r9.f_Watchers), one (intVP .u64 r9.f_Window)] [bytesCk 32 r9.f_Committed] [one (slVP S_api_Timed.ck r9.f_Roots), one (slVP S_api_State.ck r9.f_States), one (boolVP r9.f_Failed), one (boolVP r9.f_Cut)] 1 Tryz.isAgg23 Tryz.sizeOf23 q0 rfl rfl rfl) <| ob [] (op_alloc Tryz.zeroValue23 z23) <| og [501, 502] [500] [.res 2 100000 (fun v1_ _ => (lb (v1_) 23 [bytesCk 32 r9.f_Committed]))] (GOk.plain (op_store_w Tryz.sizeOf23 q0 q1 (cells_agg _)) rfl) .nil) fun b13 a w h => ?_
      refine wp_seq ?_
      refine regS mixed hn hG h [1, 2, 3, 4, 5, 6, 7, 501, 500, 8, 9, 10, 11, 12, 13] (ov [0] (op_move q0) <| ov [500] (op_bin (bin_rem (by decide)) q0 qi) <| ov [] (op_move qi) .nil) fun _ a w h => ?_
      refine wp_block ?_
      replace h := h.nilacc 48 69 S_api_Update.ck
      replace h := h.unsep 12 15 rfl rfl (by decide)
      replace h := h.conv 12 rfl (R' := SnC_e (b11 0) (some ⟨[]⟩)) (SnC_packo (v0 := (.slice none 0 0)) (o := (some ⟨[]⟩)))
      replace h := h.slotc 4 rfl (fun _ _ h => lp_eqv h)
      replace h := h.sub [0, 1, 2, 3, 4, 5, 6, 7, 8, 9, 10, 11, 13, 14, 12] (by rfl)
      change SatL c [.slot 2 (slVP (iC .i64) a_2), .slot 9 (lpVP (b6 2) 0), .slot 10 (lpVP (b10 6) 0), .slot 11 (eqVP (.slice none 0 0)), .slot 12 (eqVP (b11 0)), .slot 13 (eqVP (b12 0)), .slot 14 (lpVP (b13 2) 0), .slot 48 (intVP .u8 (a_1.tmod 8)), .slot 49 (intVP .u8 0), .res (lb (b6 2) 29 [bytesCk 32 r5.1.f_Seed, one (intVP .i64 r5.1.f_Next), one (slVP (dC 32) r5.1.f_Leaves)]), .res (Log_e (.pointer none) r8.2), .res (lb (b10 6) 36 [one (intVP .u32 r9.f_Chain), one (intVP .u32 r9.f_Here), bytesCk 32 r9.f_Updater, one (slVP (dC 32) r9.f_Watchers), one (intVP .u64 r9.f_Window), bytesCk 32 r9.f_Committed, one (slVP S_api_Timed.ck r9.f_Roots), one (slVP S_api_State.ck r9.f_States), one (boolVP r9.f_Failed), one (boolVP r9.f_Cut)]), .res (mapR (b12 0) arrK (fun l => l.length = 32) (fun u y => RP.val (boolVP y) u) (upd r9.f_Committed true [])), .res (lb (b13 2) 23 [bytesCk 32 r9.f_Committed]), .res (SnC_e (b11 0) (some ⟨[]⟩))] a w at h
      obtain ⟨q29, h⟩ : ∃ q29 : Value, SatL c [.slot 2 (slVP (iC .i64) a_2), .slot 9 (lpVP (b6 2) 0), .slot 10 (lpVP (b10 6) 0), .slot 11 (eqVP q29), .slot 12 (eqVP (b11 0)), .slot 13 (eqVP (b12 0)), .slot 14 (lpVP (b13 2) 0), .slot 48 (intVP .u8 (a_1.tmod 8)), .slot 49 (intVP .u8 0), .res (lb (b6 2) 29 [bytesCk 32 r5.1.f_Seed, one (intVP .i64 r5.1.f_Next), one (slVP (dC 32) r5.1.f_Leaves)]), .res (Log_e (.pointer none) r8.2), .res (lb (b10 6) 36 [one (intVP .u32 r9.f_Chain), one (intVP .u32 r9.f_Here), bytesCk 32 r9.f_Updater, one (slVP (dC 32) r9.f_Watchers), one (intVP .u64 r9.f_Window), bytesCk 32 r9.f_Committed, one (slVP S_api_Timed.ck r9.f_Roots), one (slVP S_api_State.ck r9.f_States), one (boolVP r9.f_Failed), one (boolVP r9.f_Cut)]), .res (mapR (b12 0) arrK (fun l => l.length = 32) (fun u y => RP.val (boolVP y) u) (upd r9.f_Committed true [])), .res (lb (b13 2) 23 [bytesCk 32 r9.f_Committed]), .res (SnC_e (b11 0) (some ⟨[]⟩)), .res (acc q29 23 32 (dC 32) [])] a w := ⟨.slice none 0 0, (h.nilacc 23 32 (dC 32)).sub [0, 1, 2, 3, 4, 5, 6, 7, 8, 9, 10, 11, 12, 13, 14, 15] (by rfl)⟩
      obtain ⟨cr88, hl89, hF⟩ := bind_some hF
      refine wp_mono (wp_loopN (R := Bool) (S := Int × S_keys_Signer × (Option O_Log) × (List UInt8) × O_SnC × (List (List UInt8)) × (List ((List UInt8) × Bool))) (fun s a w => ∃ q50 : Value, SatL c [.slot 2 (slVP (iC .i64) a_2), .slot 9 (lpVP (b6 2) 0), .slot 10 (lpVP (b10 6) 0), .slot 11 (eqVP q50), .slot 12 (eqVP (b11 0)), .slot 13 (eqVP (b12 0)), .slot 14 (lpVP (b13 2) 0), .slot 48 (intVP .u8 (a_1.tmod 8)), .slot 49 (intVP .u8 s.1), .res (lb (b6 2) 29 [bytesCk 32 s.2.1.f_Seed, one (intVP .i64 s.2.1.f_Next), one (slVP (dC 32) s.2.1.f_Leaves)]), .res (Log_e (.pointer none) s.2.2.1), .res (lb (b10 6) 36 [one (intVP .u32 r9.f_Chain), one (intVP .u32 r9.f_Here), bytesCk 32 r9.f_Updater, one (slVP (dC 32) r9.f_Watchers), one (intVP .u64 r9.f_Window), bytesCk 32 r9.f_Committed, one (slVP S_api_Timed.ck r9.f_Roots), one (slVP S_api_State.ck r9.f_States), one (boolVP r9.f_Failed), one (boolVP r9.f_Cut)]), .res (lb (b13 2) 23 [bytesCk 32 s.2.2.2.1]), .res (SnC_e (b11 0) (some s.2.2.2.2.1)), .res (acc q50 23 32 (dC 32) s.2.2.2.2.2.1), .res (mapR (b12 0) arrK (fun l => l.length = 32) (fun u y => RP.val (boolVP y) u) s.2.2.2.2.2.2)] a w) (fun res e a w => match res with | .next s => e = .exit 0 ∧ SatL c [.slot 2 (slVP (iC .i64) a_2), .slot 10 (lpVP (b10 6) 0), .slot 12 (eqVP (b11 0)), .slot 14 (lpVP (b13 2) 0), .res (Log_e (.pointer none) s.2.2.1), .res (lb (b10 6) 36 [one (intVP .u32 r9.f_Chain), one (intVP .u32 r9.f_Here), bytesCk 32 r9.f_Updater, one (slVP (dC 32) r9.f_Watchers), one (intVP .u64 r9.f_Window), bytesCk 32 r9.f_Committed, one (slVP S_api_Timed.ck r9.f_Roots), one (slVP S_api_State.ck r9.f_States), one (boolVP r9.f_Failed), one (boolVP r9.f_Cut)]), .res (lb (b13 2) 23 [bytesCk 32 s.2.2.2.1]), .res (SnC_e (b11 0) (some s.2.2.2.2.1))] a w | .ret r => e = .ret ∧ RetOk Tryz.prog Tryz.f3 c (boolVP r) (fun _ => []) a w) ?_ _ (0, r5.1, r8.2, r9.f_Committed, ⟨[]⟩, [], upd r9.f_Committed true []) _ _ _ ⟨q29, (h.sub [0, 1, 2, 3, 4, 5, 6, 7, 8, 9, 10, 11, 13, 14, 15, 12] (by rfl))⟩ hl89) ?_
      · clear hl89 hF h
        intro s a w o h hF
        obtain ⟨x44, x45, x46, x47, x48, x49, x51⟩ := s
        obtain ⟨q50, h⟩ := h
        change law23_RelayerCarries.b1 a_1 x44 x45 x46 x47 x48 x49 x51 = some o at hF
        unfold law23_RelayerCarries.b1 at hF
        change SatL c [.slot 2 (slVP (iC .i64) a_2), .slot 9 (lpVP (b6 2) 0), .slot 10 (lpVP (b10 6) 0), .slot 11 (eqVP q50), .slot 12 (eqVP (b11 0)), .slot 13 (eqVP (b12 0)), .slot 14 (lpVP (b13 2) 0), .slot 48 (intVP .u8 (a_1.tmod 8)), .slot 49 (intVP .u8 x44), .res (lb (b6 2) 29 [bytesCk 32 x45.f_Seed, one (intVP .i64 x45.f_Next), one (slVP (dC 32) x45.f_Leaves)]), .res (Log_e (.pointer none) x46), .res (lb (b10 6) 36 [one (intVP .u32 r9.f_Chain), one (intVP .u32 r9.f_Here), bytesCk 32 r9.f_Updater, one (slVP (dC 32) r9.f_Watchers), one (intVP .u64 r9.f_Window), bytesCk 32 r9.f_Committed, one (slVP S_api_Timed.ck r9.f_Roots), one (slVP S_api_State.ck r9.f_States), one (boolVP r9.f_Failed), one (boolVP r9.f_Cut)]), .res (lb (b13 2) 23 [bytesCk 32 x47]), .res (SnC_e (b11 0) (some x48)), .res (acc q50 23 32 (dC 32) x49), .res (mapR (b12 0) arrK (fun l => l.length = 32) (fun u y => RP.val (boolVP y) u) x51)] a w at h
        refine regS mixed hn hG h [0, 1, 2, 3, 4, 5, 6, 7, 8, 500, 9, 10, 11, 12, 13, 14, 15] (ov [8, 7] (op_bin bin_lss q0 q1) .nil) fun _ a w h => ?_
        refine wp_seq ?_
        refine cnd h hF 9 [0, 1, 2, 3, 4, 5, 6, 7, 8, 10, 11, 12, 13, 14, 15, 16] [0, 1, 2, 3, 4, 5, 6, 7, 8, 10, 11, 12, 13, 14, 15, 16] (fun hb74 hF h => ?_) (fun hb74 hF h => ?_)
        · refine wp_skip ?_
          show Code.wp Tryz.prog _ _ a w
          refine wp_seq ?_
          refine wp_block ?_
          refine regS mixed hn hG h [0, 1, 2, 3, 4, 5, 6, 500, 7, 8, 9, 10, 11, 12, 13, 14, 15] (ov [8] (op_move q0) <| ov [500] (op_assign q0) .nil) fun _ a w h => ?_
          replace h := h.snoc RLog_nil
          replace h := h.sub [0, 1, 2, 3, 4, 5, 6, 7, 8, 9, 10, 11, 12, 13, 14, 15, 16, 17] (by rfl)
          change SatL c [.slot 2 (slVP (iC .i64) a_2), .slot 9 (lpVP (b6 2) 0), .slot 10 (lpVP (b10 6) 0), .slot 11 (eqVP q50), .slot 12 (eqVP (b11 0)), .slot 13 (eqVP (b12 0)), .slot 14 (lpVP (b13 2) 0), .slot 15 (intVP .u8 x44), .slot 48 (intVP .u8 (a_1.tmod 8)), .slot 49 (intVP .u8 x44), .res (lb (b6 2) 29 [bytesCk 32 x45.f_Seed, one (intVP .i64 x45.f_Next), one (slVP (dC 32) x45.f_Leaves)]), .res (Log_e (.pointer none) x46), .res (lb (b10 6) 36 [one (intVP .u32 r9.f_Chain), one (intVP .u32 r9.f_Here), bytesCk 32 r9.f_Updater, one (slVP (dC 32) r9.f_Watchers), one (intVP .u64 r9.f_Window), bytesCk 32 r9.f_Committed, one (slVP S_api_Timed.ck r9.f_Roots), one (slVP S_api_State.ck r9.f_States), one (boolVP r9.f_Failed), one (boolVP r9.f_Cut)]), .res (lb (b13 2) 23 [bytesCk 32 x47]), .res (SnC_e (b11 0) (some x48)), .res (acc q50 23 32 (dC 32) x49), .res (mapR (b12 0) arrK (fun l => l.length = 32) (fun u y => RP.val (boolVP y) u) x51), .res (RLog_e (Value.pointer none) none)] a w at h
          obtain ⟨r75, hr75, hF⟩ := bind_some hF
          obtain ⟨hv76, hF⟩ := ite_some hF
          refine regS mixed hn hG h [0, 1, 2, 500, 4, 5, 6, 8, 9, 10, 11, 12, 13, 14, 16, 504, 501] (ov [3] (op_move q0) <| ov [7] (op_move q0) <| ov [500] (op_convert_int Tryz.underlying5 Tryz.underlying31 q0) <| ov [500] (op_build [(0, .const (.int .u32 1)), (1, .tmp 54), (2, .const (.int .u32 2)), (3, .const (.string ⟨#[97]⟩)), (4, .const (.string ⟨#[98]⟩))] rfl bu44 z44 ⟨[], [one (intVP .u32 (0 : Int))], [one (intVP .u32 (0 : Int)), one (intVP .u32 (0 : Int)), one (strVP []), one (strVP []), one (strVP [])], [one (intVP .u32 1)], _, rfl, rfl, rfl, qi, (cells_one (one_int _ _)), ⟨[one (intVP .u32 1)], [one (intVP .u32 (0 : Int))], [one (intVP .u32 (0 : Int)), one (strVP []), one (strVP []), one (strVP [])], [one (intVP .u32 (IntKind.wrap .u32 x44))], _, rfl, rfl, rfl, q0, (cells_one (one_int _ _)), ⟨[one (intVP .u32 1), one (intVP .u32 (IntKind.wrap .u32 x44))], [one (intVP .u32 (0 : Int))], [one (strVP []), one (strVP []), one (strVP [])], [one (intVP .u32 2)], _, rfl, rfl, rfl, qi, (cells_one (one_int _ _)), ⟨[one (intVP .u32 1), one (intVP .u32 (IntKind.wrap .u32 x44)), one (intVP .u32 2)], [one (strVP [])], [one (strVP []), one (strVP [])], [one (strVP [97])], _, rfl, rfl, rfl, (opc (sc _ (by decide))), (cells_one (one_str _)), ⟨[one (intVP .u32 1), one (intVP .u32 (IntKind.wrap .u32 x44)), one (intVP .u32 2), one (strVP [97])], [one (strVP [])], [one (strVP [])], [one (strVP [98])], _, rfl, rfl, rfl, (opc (sc _ (by decide))), (cells_one (one_str _)), rfl⟩⟩⟩⟩⟩) <| oc [500] [17] Tryz.call9 (ref09_Leaf_ok hr75) ⟨(opc (ec _)), q0, trivial⟩ <| ov [501] (op_lit (xs := [.tmp 56]) (ys := [r75.1]) _ rfl Tryz.underlying27 Tryz.sizeOf23 Tryz.zeroValue23 rfl rfl (by decide) (by decide) ⟨⟨_, q0, (cells_agg _)⟩, trivial⟩ (lens_dC 32)) <| og [506, 500] [15] [.slot 58 6 100000 (fun v1_ _ => (eqVP v1_)), .res 6 100000 (fun v1_ _ => (acc (v1_) 23 32 (dC 32) (x49 ++ [r75.1])))] (GOk.plain (op_append (i := Tryz.t23) Tryz.underlying27 Tryz.type23 rfl (lens_dC 32) (by decide) rfl q0 q1 hv76) rfl) <| og [501] [3] [.slot 11 6 100000 (fun v1_ _ => (eqVP v1_))] (fun {β} => (GOk.drop _ (GOk.plain (op_assign (V := (eqVP (β 6))) q0) rfl))) .nil) fun b77 a w h => ?_
          obtain ⟨r78, hr78, hF⟩ := bind_some hF
          refine regS mixed hn hG h [0, 1, 2, 3, 4, 5, 6, 502, 7, 8, 9, 11, 12, 13, 14, 15, 16, 503, 500] (ov [3] (op_move q0) <| oc [500, 16] [10] Tryz.call8 (merkle_Of_ok hr78) ⟨(opc (ec _)), (opacc 0 1 rfl rfl), trivial⟩ <| ob [] (op_alloc Tryz.zeroValue23 z23) <| og [501, 503] [500] [.res 2 100000 (fun v1_ _ => (lb (v1_) 23 [bytesCk 32 r78.1]))] (GOk.plain (op_store_w Tryz.sizeOf23 q0 q1 (cells_agg _)) rfl) .nil) fun b79 a w h => ?_
          refine wp_seq ?_
          refine regS mixed hn hG h [0, 1, 2, 3, 4, 5, 6, 7, 8, 9, 500, 10, 11, 12, 13, 14, 15, 16, 17, 18] (ov [5] (op_move q0) <| ov [7, 18] (op_load_w 1 Tryz.isAgg23 Tryz.sizeOf23 q0) <| ov [501, 500, 14] (op_lookup boolVP false 2 Tryz.underlying41 (keyArr Tryz.underlying23 Tryz.underlying5 Tryz.type5 Tryz.sizeOf5 Tryz.isAgg5) Tryz.zeroValue4 q0 q1 hk_arr rfl res_id (fun _ _ _ _ _ h => h.2) (fun _ => rfl)) .nil) fun _ a w h => ?_
          refine cnd h hF 10 [14, 16, 18] [0, 1, 2, 3, 4, 5, 6, 7, 8, 9, 11, 12, 13, 14, 15, 16, 17, 18, 19] (fun hb80 hF h => ?_) (fun hb80 hF h => ?_)
          · refine regS mixed hn hG h [500, 0, 1, 2] (ov [] (op_assign qb) .nil) fun _ a w h => ?_
            refine wp_ret ?_
            obtain rfl := Option.some.inj hF
            exact ⟨ret_ne, rfl, ret1 h Tryz.results3 (r_tmp 0 rfl) [] [] rfl rfl rfl⟩
          · refine wp_skip ?_
            show Code.wp Tryz.prog _ _ a w
            refine regS mixed hn hG h [0, 1, 2, 3, 4, 5, 6, 7, 8, 9, 10, 11, 12, 13, 500, 15, 16, 17, 18] (ov [5] (op_move q0) <| ov [7, 18] (op_load_w 1 Tryz.isAgg23 Tryz.sizeOf23 q0) <| ou [501, 500] 14 (op_mapUpdate Tryz.underlying41 (keyArr Tryz.underlying23 Tryz.underlying5 Tryz.type5 Tryz.sizeOf5 Tryz.isAgg5) q0 q1 hk_arr qb) .nil) fun _ a w h => ?_
            obtain ⟨r81, hr81, hF⟩ := bind_some hF
            refine regS mixed hn hG h [0, 1, 2, 3, 4, 5, 6, 7, 506, 504, 500, 8, 9, 10, 11, 12, 13, 14, 15, 16, 18, 511, 502, 501] (ov [1, 10] (op_load_w 1 Tryz.isAgg29 Tryz.sizeOf29 q0) <| ov [6, 12] (op_load_w 1 Tryz.isAgg23 Tryz.sizeOf23 q0) <| ov [7, 18] (op_load_w 1 Tryz.isAgg23 Tryz.sizeOf23 q0) <| oc [502, 501, 500] [17] Tryz.call10 (update_Sign_ok hr81) ⟨(opc (ec _)), q0, qi, q1, q2, trivial⟩ <| ov [501] (op_move q0) <| ov [500] (op_extract q0 rfl) <| ov [501] (op_extract q0 rfl) <| ov [502] (op_extract q0 rfl) <| ob [] (op_alloc Tryz.zeroValue29 z29) <| ob [] (op_alloc Tryz.zeroValue48 z48) <| og [503, 506] [502] [.res 8 100000 (fun v1_ _ => (lb (v1_) 29 [bytesCk 32 r81.1.f_Seed, one (intVP .i64 r81.1.f_Next), one (slVP (dC 32) r81.1.f_Leaves)]))] (GOk.plain (op_store_w Tryz.sizeOf29 q0 q1 (cells_agg _)) rfl) <| og [502, 506] [501] [.res 9 100000 (fun v1_ _ => (lb (v1_) 48 [one (intVP .u32 r81.2.1.f_Home), bytesCk 32 r81.2.1.f_Old, bytesCk 32 r81.2.1.f_New, one (intVP .i64 r81.2.1.f_Sig.f_Index), one (slVP (dC 32) r81.2.1.f_Sig.f_Parts), one (slVP (dC 32) r81.2.1.f_Sig.f_Others), one (slVP (dC 32) r81.2.1.f_Sig.f_Path)]))] (GOk.plain (op_store_w Tryz.sizeOf48 q0 q1 (cells_agg _)) rfl) <| ov [506] (op_assign q0) .nil) fun b82 a w h => ?_
            refine wp_seq ?_
            refine regS mixed hn hG h [0, 1, 2, 3, 4, 5, 6, 7, 8, 9, 11, 12, 500, 13, 14, 15, 16, 17, 18, 19, 20, 21, 22, 23] (ov [10] (op_move q0) <| ov [500] (op_bin bin_neq q0 qi) .nil) fun _ a w h => ?_
            refine cnd h hF 12 [16, 18, 21] [0, 1, 2, 3, 4, 5, 6, 7, 8, 9, 10, 11, 13, 14, 15, 16, 17, 18, 19, 20, 21, 22, 23] (fun hb84 hF h => ?_) (fun hb84 hF h => ?_)
            · refine regS mixed hn hG h [500, 0, 1, 2] (ov [] (op_assign qb) .nil) fun _ a w h => ?_
              refine wp_ret ?_
              obtain rfl := Option.some.inj hF
              exact ⟨ret_ne, rfl, ret1 h Tryz.results3 (r_tmp 0 rfl) [] [] rfl rfl rfl⟩
            · refine wp_skip ?_
              show Code.wp Tryz.prog _ _ a w
              obtain ⟨h85, h⟩ := h.ex 15 rfl
              have hp := h.isp 15 rfl (fun Φ f w q => SnC_lp Φ f w q)
              replace h := h.slotc 4 rfl (V' := lpVP (b11 0) 0) (fun _ _ h => eq_lp h hp)
              replace h := h.sep (R := lb (b11 0) 40 [one (eqVP h85)]) (S := (acc h85 48 69 S_api_Update.ck x48.f_v)) 15 rfl
              replace h := h.sub [0, 1, 2, 3, 4, 5, 6, 7, 8, 9, 10, 11, 12, 13, 14, 15, 16, 17, 18, 19, 20, 21, 22, 23] (by rfl)
              change SatL c [.slot 2 (slVP (iC .i64) a_2), .slot 9 (lpVP (b6 2) 0), .slot 10 (lpVP (b10 6) 0), .slot 11 (eqVP (b77 6)), .slot 12 (lpVP (b11 0) 0), .slot 13 (eqVP (b12 0)), .slot 14 (lpVP (b13 2) 0), .slot 16 (lpVP (b79 2) 0), .slot 17 (lpVP (b82 8) 0), .slot 18 (lpVP (b82 9) 0), .slot 48 (intVP .u8 (a_1.tmod 8)), .slot 49 (intVP .u8 x44), .res (lb (b6 2) 29 [bytesCk 32 x45.f_Seed, one (intVP .i64 x45.f_Next), one (slVP (dC 32) x45.f_Leaves)]), .res (lb (b10 6) 36 [one (intVP .u32 r9.f_Chain), one (intVP .u32 r9.f_Here), bytesCk 32 r9.f_Updater, one (slVP (dC 32) r9.f_Watchers), one (intVP .u64 r9.f_Window), bytesCk 32 r9.f_Committed, one (slVP S_api_Timed.ck r9.f_Roots), one (slVP S_api_State.ck r9.f_States), one (boolVP r9.f_Failed), one (boolVP r9.f_Cut)]), .res (lb (b13 2) 23 [bytesCk 32 x47]), .res (lb (b11 0) 40 [one (eqVP h85)]), .res (mapR (b12 0) arrK (fun l => l.length = 32) (fun u y => RP.val (boolVP y) u) (upd r78.1 true x51)), .res (RLog_e (Value.pointer none) r75.2), .res (acc (b77 6) 23 32 (dC 32) (x49 ++ [r75.1])), .res (lb (b79 2) 23 [bytesCk 32 r78.1]), .res (Log_e (.pointer none) r81.2.2.2), .res (lb (b82 8) 29 [bytesCk 32 r81.1.f_Seed, one (intVP .i64 r81.1.f_Next), one (slVP (dC 32) r81.1.f_Leaves)]), .res (lb (b82 9) 48 [one (intVP .u32 r81.2.1.f_Home), bytesCk 32 r81.2.1.f_Old, bytesCk 32 r81.2.1.f_New, one (intVP .i64 r81.2.1.f_Sig.f_Index), one (slVP (dC 32) r81.2.1.f_Sig.f_Parts), one (slVP (dC 32) r81.2.1.f_Sig.f_Others), one (slVP (dC 32) r81.2.1.f_Sig.f_Path)]), .res (acc h85 48 69 S_api_Update.ck x48.f_v)] a w at h
              obtain ⟨hv86, hF⟩ := ite_some hF
              refine reg mixed hn hG h [0, 1, 2, 3, 4, 5, 6, 10, 11, 502, 13, 501, 500, 16, 17, 18, 20, 503] (ov [8, 21] (op_load_w 1 Tryz.isAgg29 Tryz.sizeOf29 q0) <| ov [7, 19] (op_load_w 1 Tryz.isAgg23 Tryz.sizeOf23 q0) <| ov [4, 15] (op_load_lb1 [] [] 1 Tryz.isAgg40 q0 rfl rfl) <| ov [9, 22] (op_load_w 1 Tryz.isAgg48 Tryz.sizeOf48 q0) <| ov [500] (op_lit (xs := [.tmp 79]) (ys := [r81.2.1]) _ rfl Tryz.underlying40 Tryz.sizeOf48 Tryz.zeroValue48 rfl rfl (by decide) (by decide) ⟨⟨_, q0, (cells_agg _)⟩, trivial⟩ S_api_Update.lens) <| og [502, 500] [23] [.slot 81 5 100000 (fun v1_ _ => (eqVP v1_)), .res 5 100000 (fun v1_ _ => (acc (v1_) 48 69 S_api_Update.ck (x48.f_v ++ [r81.2.1])))] (GOk.plain (op_append (i := Tryz.t48) Tryz.underlying40 Tryz.type48 rfl S_api_Update.lens (by decide) rfl q0 q1 hv86) rfl) <| ou [1, 506] 12 (op_store_w Tryz.sizeOf29 q0 q1 (cells_agg _)) <| ou [6, 506] 14 (op_store_w Tryz.sizeOf23 q0 q1 (cells_agg _)) <| og [4, 503, 502] [15] [.res 5 100000 (fun v1_ _ => (lb (b11 0) 40 [one (eqVP (v1_))]))] (fun {β} => (GOk.plain (op_store_lb [] [one (eqVP h85)] [] [one (eqVP ((β 5)))] Tryz.sizeOf40 q0 (opone 1 2 rfl rfl acc_one) (cells_h _) rfl rfl rfl) rfl)) .nil) fun b87 a w h => ?_
              replace h := h.unsep 12 17 rfl rfl (by decide)
              replace h := h.conv 12 rfl (R' := SnC_e (b11 0) (some ⟨x48.f_v ++ [r81.2.1]⟩)) (SnC_packo (v0 := (b87 5)) (o := (some ⟨x48.f_v ++ [r81.2.1]⟩)))
              replace h := h.slotc 4 rfl (fun _ _ h => lp_eqv h)
              replace h := h.sub [0, 1, 2, 3, 4, 5, 6, 7, 8, 9, 10, 11, 13, 14, 15, 16, 12] (by rfl)
              change SatL c [.slot 2 (slVP (iC .i64) a_2), .slot 9 (lpVP (b6 2) 0), .slot 10 (lpVP (b10 6) 0), .slot 11 (eqVP (b77 6)), .slot 12 (eqVP (b11 0)), .slot 13 (eqVP (b12 0)), .slot 14 (lpVP (b13 2) 0), .slot 48 (intVP .u8 (a_1.tmod 8)), .slot 49 (intVP .u8 x44), .res (lb (b6 2) 29 [bytesCk 32 r81.1.f_Seed, one (intVP .i64 r81.1.f_Next), one (slVP (dC 32) r81.1.f_Leaves)]), .res (lb (b10 6) 36 [one (intVP .u32 r9.f_Chain), one (intVP .u32 r9.f_Here), bytesCk 32 r9.f_Updater, one (slVP (dC 32) r9.f_Watchers), one (intVP .u64 r9.f_Window), bytesCk 32 r9.f_Committed, one (slVP S_api_Timed.ck r9.f_Roots), one (slVP S_api_State.ck r9.f_States), one (boolVP r9.f_Failed), one (boolVP r9.f_Cut)]), .res (lb (b13 2) 23 [bytesCk 32 r78.1]), .res (mapR (b12 0) arrK (fun l => l.length = 32) (fun u y => RP.val (boolVP y) u) (upd r78.1 true x51)), .res (RLog_e (Value.pointer none) r75.2), .res (acc (b77 6) 23 32 (dC 32) (x49 ++ [r75.1])), .res (Log_e (.pointer none) r81.2.2.2), .res (SnC_e (b11 0) (some ⟨x48.f_v ++ [r81.2.1]⟩))] a w at h
              show Code.wp Tryz.prog _ _ a w
              refine reg mixed hn hG h [0, 1, 2, 3, 4, 5, 6, 7, 500, 9, 10, 11, 12, 13, 14, 15, 16] (ov [8] (op_bin bin_add q0 qi) <| od [500] 8 (op_move q0) .nil) fun _ a w h => ?_
              obtain rfl := Option.some.inj hF
              exact ⟨rfl, (b77 6), h.sub [0, 1, 2, 3, 4, 5, 6, 7, 8, 9, 15, 10, 11, 16, 14, 12] (by rfl)⟩
        · refine wp_exit ?_
          obtain rfl := Option.some.inj hF
          exact ⟨exit_ne _, rfl, h.sub [0, 2, 4, 6, 10, 11, 12, 13] (by rfl)⟩
      · clear hl89
        intro e a w hq
        cases cr88 with
        | ret r90 =>
          obtain ⟨rfl, hq⟩ := hq
          obtain rfl := Option.some.inj hF
          exact ⟨.inl rfl, hq⟩
        | next s91 =>
          obtain ⟨y92, y93, y94, y95, y96, y97, y98⟩ := s91
          obtain ⟨rfl, h⟩ := hq
          change SatL c [.slot 2 (slVP (iC .i64) a_2), .slot 10 (lpVP (b10 6) 0), .slot 12 (eqVP (b11 0)), .slot 14 (lpVP (b13 2) 0), .res (Log_e (.pointer none) y94), .res (lb (b10 6) 36 [one (intVP .u32 r9.f_Chain), one (intVP .u32 r9.f_Here), bytesCk 32 r9.f_Updater, one (slVP (dC 32) r9.f_Watchers), one (intVP .u64 r9.f_Window), bytesCk 32 r9.f_Committed, one (slVP S_api_Timed.ck r9.f_Roots), one (slVP S_api_State.ck r9.f_States), one (boolVP r9.f_Failed), one (boolVP r9.f_Cut)]), .res (lb (b13 2) 23 [bytesCk 32 y95]), .res (SnC_e (b11 0) (some y96))] a w at h
          refine inBlock_at ?_
          show Code.wp Tryz.prog _ _ a w
          obtain ⟨r99, hr99, hF⟩ := bind_some hF
          refine regS mixed hn hG h [0, 1, 2, 3, 502, 4, 5, 6, 7, 500] (oc [] [] Tryz.call11 (relayer_New_ok hr99) ⟨qi, trivial⟩ <| ob [] (op_alloc Tryz.zeroValue53 z53) <| og [501, 502] [500] [.res 1 100000 (fun v1_ _ => (lb (v1_) 53 [one (intVP .u32 r99.f_Home), one (strVP r99.f_Disk)]))] (GOk.plain (op_store_w Tryz.sizeOf53 q0 q1 (cells_agg _)) rfl) .nil) fun b100 a w h => ?_
          refine regS mixed hn hG h [0, 1, 2, 3, 4, 500, 5, 6, 7, 8, 9] (ov [2, 1] (op_makeClo (ps := [(b11 0), (b10 6)]) ⟨q0, (lp_eqo 1 rfl), trivial⟩) <| ov [500] (op_assign q0) .nil) fun _ a w h => ?_
          refine wp_seq ?_
          refine regS mixed hn hG h [1, 2, 3, 4, 5, 502, 501, 500, 6, 7, 8, 9, 10] (ov [0] (op_move q0) <| ov [500] (op_len_sl Tryz.underlying24 q0) <| ov [] (op_move qi) .nil) fun _ a w h => ?_
          refine wp_block ?_
          replace h := h.conv 9 rfl (R' := AtC_e (b10 6) (some r9)) (AtC_packo (o := (some r9)))
          replace h := h.slotc 0 rfl (fun _ _ h => lp_eqv h)
          replace h := h.sub [0, 1, 2, 3, 4, 5, 6, 7, 8, 10, 11, 12, 9] (by rfl)
          change SatL c [.slot 10 (eqVP (b10 6)), .slot 12 (eqVP (b11 0)), .slot 14 (lpVP (b13 2) 0), .slot 20 (lpVP (b100 1) 0), .slot 21 (eqVP (.func (.func 12) #[] #[(b11 0), (b10 6)])), .slot 85 (slVP (iC .i64) a_2), .slot 86 (intVP .i64 (a_2.length : Int)), .slot 87 (intVP .i64 0), .res (Log_e (.pointer none) y94), .res (lb (b13 2) 23 [bytesCk 32 y95]), .res (SnC_e (b11 0) (some y96)), .res (lb (b100 1) 53 [one (intVP .u32 r99.f_Home), one (strVP r99.f_Disk)]), .res (AtC_e (b10 6) (some r9))] a w at h
          obtain ⟨cr127, hl128, hF⟩ := bind_some hF
          refine wp_mono (wp_loopN (R := Bool) (S := Int × O_SnC × S_relayer_Relayer × S_api_Replica) (fun s a w => SatL c [.slot 10 (eqVP (b10 6)), .slot 12 (eqVP (b11 0)), .slot 14 (lpVP (b13 2) 0), .slot 20 (lpVP (b100 1) 0), .slot 21 (eqVP (.func (.func 12) #[] #[(b11 0), (b10 6)])), .slot 85 (slVP (iC .i64) a_2), .slot 86 (intVP .i64 (a_2.length : Int)), .slot 87 (intVP .i64 s.1), .res (Log_e (.pointer none) y94), .res (lb (b13 2) 23 [bytesCk 32 y95]), .res (SnC_e (b11 0) (some s.2.1)), .res (lb (b100 1) 53 [one (intVP .u32 s.2.2.1.f_Home), one (strVP s.2.2.1.f_Disk)]), .res (AtC_e (b10 6) (some s.2.2.2))] a w) (fun res e a w => match res with | .next s => e = .exit 2 ∧ SatL c [.slot 10 (eqVP (b10 6)), .slot 12 (eqVP (b11 0)), .slot 14 (lpVP (b13 2) 0), .slot 20 (lpVP (b100 1) 0), .slot 21 (eqVP (.func (.func 12) #[] #[(b11 0), (b10 6)])), .res (Log_e (.pointer none) y94), .res (lb (b13 2) 23 [bytesCk 32 y95]), .res (SnC_e (b11 0) (some s.2.1)), .res (lb (b100 1) 53 [one (intVP .u32 s.2.2.1.f_Home), one (strVP s.2.2.1.f_Disk)]), .res (AtC_e (b10 6) (some s.2.2.2))] a w | .ret r => e = .ret ∧ RetOk Tryz.prog Tryz.f3 c (boolVP r) (fun _ => []) a w) ?_ _ (0, y96, r99, r9) _ _ _ (h.sub [0, 1, 2, 3, 4, 5, 6, 7, 8, 9, 10, 11, 12] (by rfl)) hl128) ?_
          · clear hl128 hF h
            intro s a w o h hF
            obtain ⟨x107, x108, x109, x110⟩ := s
            change law23_RelayerCarries.b2 a_2 x107 x108 x109 x110 = some o at hF
            unfold law23_RelayerCarries.b2 at hF
            change SatL c [.slot 10 (eqVP (b10 6)), .slot 12 (eqVP (b11 0)), .slot 14 (lpVP (b13 2) 0), .slot 20 (lpVP (b100 1) 0), .slot 21 (eqVP (.func (.func 12) #[] #[(b11 0), (b10 6)])), .slot 85 (slVP (iC .i64) a_2), .slot 86 (intVP .i64 (a_2.length : Int)), .slot 87 (intVP .i64 x107), .res (Log_e (.pointer none) y94), .res (lb (b13 2) 23 [bytesCk 32 y95]), .res (SnC_e (b11 0) (some x108)), .res (lb (b100 1) 53 [one (intVP .u32 x109.f_Home), one (strVP x109.f_Disk)]), .res (AtC_e (b10 6) (some x110))] a w at h
            refine regS mixed hn hG h [0, 1, 2, 3, 4, 5, 6, 7, 500, 8, 9, 10, 11, 12] (ov [7, 6] (op_bin bin_lss q0 q1) .nil) fun _ a w h => ?_
            refine wp_seq ?_
            refine cnd h hF 8 [0, 1, 2, 3, 4, 5, 6, 7, 9, 10, 11, 12, 13] [0, 1, 2, 3, 4, 5, 6, 7, 9, 10, 11, 12, 13] (fun hb121 hF h => ?_) (fun hb121 hF h => ?_)
            · refine wp_skip ?_
              show Code.wp Tryz.prog _ _ a w
              refine wp_seq ?_
              refine wp_block ?_
              obtain ⟨hv122, hF⟩ := ite_some hF
              refine regS mixed hn hG h [0, 1, 2, 3, 4, 500, 5, 6, 7, 8, 9, 10, 11, 12] (ov [5, 7] (op_indexAddr_sl Tryz.underlying24 Tryz.sizeOf3 (lens_iC .i64) q0 q1 hv122) <| ov [500] (op_load_pp1 [] Tryz.isAgg3 q0) <| ov [500] (op_assign q0) .nil) fun _ a w h => ?_
              refine regS mixed hn hG h [0, 1, 2, 3, 4, 5, 6, 7, 8, 9, 10, 11, 12, 13] (ov [] (op_assign (opc (ec _))) .nil) fun _ a w h => ?_
              obtain ⟨h123, h⟩ := h.ex 11 rfl
              have hp := h.isp 11 rfl (fun Φ f w q => SnC_lp Φ f w q)
              replace h := h.slotc 1 rfl (V' := lpVP (b11 0) 0) (fun _ _ h => eq_lp h hp)
              replace h := h.sep (R := lb (b11 0) 40 [one (eqVP h123)]) (S := (acc h123 48 69 S_api_Update.ck x108.f_v)) 11 rfl
              replace h := h.sub [0, 1, 2, 3, 4, 5, 6, 7, 8, 9, 10, 11, 12, 13, 14] (by rfl)
              change SatL c [.slot 10 (eqVP (b10 6)), .slot 12 (lpVP (b11 0) 0), .slot 14 (lpVP (b13 2) 0), .slot 20 (lpVP (b100 1) 0), .slot 21 (eqVP (.func (.func 12) #[] #[(b11 0), (b10 6)])), .slot 23 (intVP .i64 (a_2.getD x107.toNat default)), .slot 85 (slVP (iC .i64) a_2), .slot 86 (intVP .i64 (a_2.length : Int)), .slot 87 (intVP .i64 x107), .res (Log_e (.pointer none) y94), .res (lb (b13 2) 23 [bytesCk 32 y95]), .res (lb (b11 0) 40 [one (eqVP h123)]), .res (lb (b100 1) 53 [one (intVP .u32 x109.f_Home), one (strVP x109.f_Disk)]), .res (AtC_e (b10 6) (some x110)), .res (acc h123 48 69 S_api_Update.ck x108.f_v)] a w at h
              have hp := h.isp 13 rfl (fun Φ f w q => AtC_lp Φ f w q)
              replace h := h.slotc 0 rfl (V' := lpVP (b10 6) 0) (fun _ _ h => eq_lp h hp)
              replace h := h.sub [0, 1, 2, 3, 4, 5, 6, 7, 8, 9, 10, 11, 12, 13, 14] (by rfl)
              change SatL c [.slot 10 (lpVP (b10 6) 0), .slot 12 (lpVP (b11 0) 0), .slot 14 (lpVP (b13 2) 0), .slot 20 (lpVP (b100 1) 0), .slot 21 (eqVP (.func (.func 12) #[] #[(b11 0), (b10 6)])), .slot 23 (intVP .i64 (a_2.getD x107.toNat default)), .slot 85 (slVP (iC .i64) a_2), .slot 86 (intVP .i64 (a_2.length : Int)), .slot 87 (intVP .i64 x107), .res (Log_e (.pointer none) y94), .res (lb (b13 2) 23 [bytesCk 32 y95]), .res (lb (b11 0) 40 [one (eqVP h123)]), .res (lb (b100 1) 53 [one (intVP .u32 x109.f_Home), one (strVP x109.f_Disk)]), .res (lb (b10 6) 36 [one (intVP .u32 x110.f_Chain), one (intVP .u32 x110.f_Here), bytesCk 32 x110.f_Updater, one (slVP (dC 32) x110.f_Watchers), one (intVP .u64 x110.f_Window), bytesCk 32 x110.f_Committed, one (slVP S_api_Timed.ck x110.f_Roots), one (slVP S_api_State.ck x110.f_States), one (boolVP x110.f_Failed), one (boolVP x110.f_Cut)]), .res (acc h123 48 69 S_api_Update.ck x108.f_v)] a w at h
              obtain ⟨r124, hr124, hF⟩ := bind_some hF
              refine wp_seq ?_
              refine reg mixed hn hG h [0, 1, 2, 3, 4, 500, 6, 7, 8, 9, 10, 11, 501, 13, 14] (ov [3, 12] (op_load_w 1 Tryz.isAgg53 Tryz.sizeOf53 q0) <| ov [1, 11, 14] (op_load_cell 1 2 Tryz.isAgg40 q0 rfl rfl) <| ov [0, 13] (op_load_w 1 Tryz.isAgg36 Tryz.sizeOf36 q0) <| ov [5] (op_move q0) <| ov [500] (op_max q0 qi) <| oc [504, 503, 502, 500] [] Tryz.call15 (relayer_Step_ok hr124) ⟨q0, q1, q2, q3, trivial⟩ <| ov [500] (op_move q0) <| ov [500] (op_extract q0 rfl) <| ov [501] (op_extract q0 rfl) <| ou [3, 501] 12 (op_store_w Tryz.sizeOf53 q0 q1 (cells_agg _)) <| ov [501] (op_assign q0) .nil) fun _ a w h => ?_
              replace h := h.unsep 11 14 rfl rfl (by decide)
              replace h := h.conv 11 rfl (R' := SnC_e (b11 0) (some x108)) (SnC_packo (v0 := h123) (o := (some x108)))
              replace h := h.slotc 1 rfl (fun _ _ h => lp_eqv h)
              replace h := h.sub [0, 1, 2, 3, 4, 5, 6, 7, 8, 9, 10, 12, 13, 11] (by rfl)
              change SatL c [.slot 10 (lpVP (b10 6) 0), .slot 12 (eqVP (b11 0)), .slot 14 (lpVP (b13 2) 0), .slot 20 (lpVP (b100 1) 0), .slot 21 (eqVP (.func (.func 12) #[] #[(b11 0), (b10 6)])), .slot 24 (slVP S_api_Update.ck r124.2), .slot 85 (slVP (iC .i64) a_2), .slot 86 (intVP .i64 (a_2.length : Int)), .slot 87 (intVP .i64 x107), .res (Log_e (.pointer none) y94), .res (lb (b13 2) 23 [bytesCk 32 y95]), .res (lb (b100 1) 53 [one (intVP .u32 r124.1.f_Home), one (strVP r124.1.f_Disk)]), .res (lb (b10 6) 36 [one (intVP .u32 x110.f_Chain), one (intVP .u32 x110.f_Here), bytesCk 32 x110.f_Updater, one (slVP (dC 32) x110.f_Watchers), one (intVP .u64 x110.f_Window), bytesCk 32 x110.f_Committed, one (slVP S_api_Timed.ck x110.f_Roots), one (slVP S_api_State.ck x110.f_States), one (boolVP x110.f_Failed), one (boolVP x110.f_Cut)]), .res (SnC_e (b11 0) (some x108))] a w at h
              replace h := h.conv 12 rfl (R' := AtC_e (b10 6) (some x110)) (AtC_packo (o := (some x110)))
              replace h := h.slotc 0 rfl (fun _ _ h => lp_eqv h)
              replace h := h.sub [0, 1, 2, 3, 4, 5, 6, 7, 8, 9, 10, 11, 13, 12] (by rfl)
              change SatL c [.slot 10 (eqVP (b10 6)), .slot 12 (eqVP (b11 0)), .slot 14 (lpVP (b13 2) 0), .slot 20 (lpVP (b100 1) 0), .slot 21 (eqVP (.func (.func 12) #[] #[(b11 0), (b10 6)])), .slot 24 (slVP S_api_Update.ck r124.2), .slot 85 (slVP (iC .i64) a_2), .slot 86 (intVP .i64 (a_2.length : Int)), .slot 87 (intVP .i64 x107), .res (Log_e (.pointer none) y94), .res (lb (b13 2) 23 [bytesCk 32 y95]), .res (lb (b100 1) 53 [one (intVP .u32 r124.1.f_Home), one (strVP r124.1.f_Disk)]), .res (SnC_e (b11 0) (some x108)), .res (AtC_e (b10 6) (some x110))] a w at h
              show Code.wp Tryz.prog _ _ a w
              obtain ⟨r125, hr125, hF⟩ := bind_some hF
              refine regS mixed hn hG h [0, 1, 2, 3, 4, 6, 7, 8, 500, 9, 10, 11, 502, 501] (ov [4] (op_move q0) <| ov [5] (op_move q0) <| oe [501, 500] [12, 13] (GOk.plain (op_callclo (ps := [(b11 0), (b10 6)]) (args := [(slVP S_api_Update.ck r124.2)]) Tryz.call12 q0 (law23_RelayerCarries_1_ok hr125) ⟨q1, trivial⟩) rfl) <| ov [502] (op_un (un_not _) q0) .nil) fun _ a w h => ?_
              refine cnd h hF 8 [9, 12, 13] [0, 1, 2, 3, 4, 5, 6, 7, 9, 10, 11, 12, 13] (fun hb126 hF h => ?_) (fun hb126 hF h => ?_)
              · refine regS mixed hn hG h [500, 0, 1, 2] (ov [] (op_assign qb) .nil) fun _ a w h => ?_
                refine wp_ret ?_
                obtain rfl := Option.some.inj hF
                exact ⟨ret_ne, rfl, ret1 h Tryz.results3 (r_tmp 0 rfl) [] [] rfl rfl rfl⟩
              · refine wp_skip ?_
                show Code.wp Tryz.prog _ _ a w
                refine reg mixed hn hG h [0, 1, 2, 3, 4, 5, 6, 500, 8, 9, 10, 11, 12] (ov [7] (op_bin bin_add q0 qi) <| od [500] 7 (op_move q0) .nil) fun _ a w h => ?_
                obtain rfl := Option.some.inj hF
                exact ⟨rfl, h.sub [0, 1, 2, 3, 4, 5, 6, 7, 8, 9, 11, 10, 12] (by rfl)⟩
            · refine wp_exit ?_
              obtain rfl := Option.some.inj hF
              exact ⟨exit_ne _, rfl, h.sub [0, 1, 2, 3, 4, 8, 9, 10, 11, 12] (by rfl)⟩
          · clear hl128
            intro e a w hq
            cases cr127 with
            | ret r129 =>
              obtain ⟨rfl, hq⟩ := hq
              obtain rfl := Option.some.inj hF
              exact ⟨.inl rfl, hq⟩
            | next s130 =>
              obtain ⟨y131, y132, y133, y134⟩ := s130
              obtain ⟨rfl, h⟩ := hq
              change SatL c [.slot 10 (eqVP (b10 6)), .slot 12 (eqVP (b11 0)), .slot 14 (lpVP (b13 2) 0), .slot 20 (lpVP (b100 1) 0), .slot 21 (eqVP (.func (.func 12) #[] #[(b11 0), (b10 6)])), .res (Log_e (.pointer none) y94), .res (lb (b13 2) 23 [bytesCk 32 y95]), .res (SnC_e (b11 0) (some y132)), .res (lb (b100 1) 53 [one (intVP .u32 y133.f_Home), one (strVP y133.f_Disk)]), .res (AtC_e (b10 6) (some y134))] a w at h
              refine inBlock_at ?_
              show Code.wp Tryz.prog _ _ a w
              refine wp_seq ?_
              obtain ⟨h135, h⟩ := h.ex 7 rfl
              have hp := h.isp 7 rfl (fun Φ f w q => SnC_lp Φ f w q)
              replace h := h.slotc 1 rfl (V' := lpVP (b11 0) 0) (fun _ _ h => eq_lp h hp)
              replace h := h.sep (R := lb (b11 0) 40 [one (eqVP h135)]) (S := (acc h135 48 69 S_api_Update.ck y132.f_v)) 7 rfl
              replace h := h.sub [0, 1, 2, 3, 4, 5, 6, 7, 8, 9, 10] (by rfl)
              change SatL c [.slot 10 (eqVP (b10 6)), .slot 12 (lpVP (b11 0) 0), .slot 14 (lpVP (b13 2) 0), .slot 20 (lpVP (b100 1) 0), .slot 21 (eqVP (.func (.func 12) #[] #[(b11 0), (b10 6)])), .res (Log_e (.pointer none) y94), .res (lb (b13 2) 23 [bytesCk 32 y95]), .res (lb (b11 0) 40 [one (eqVP h135)]), .res (lb (b100 1) 53 [one (intVP .u32 y133.f_Home), one (strVP y133.f_Disk)]), .res (AtC_e (b10 6) (some y134)), .res (acc h135 48 69 S_api_Update.ck y132.f_v)] a w at h
              refine wp_seq ?_
              refine reg mixed hn hG h [0, 1, 2, 3, 4, 501, 500, 5, 6, 7, 8, 9, 10] (ov [1, 7, 10] (op_load_cell 1 2 Tryz.isAgg40 q0 rfl rfl) <| ov [500] (op_len_sl Tryz.underlying40 q0) <| ov [] (op_move qi) .nil) fun _ a w h => ?_
              replace h := h.unsep 9 12 rfl rfl (by decide)
              replace h := h.conv 9 rfl (R' := SnC_e (b11 0) (some y132)) (SnC_packo (v0 := h135) (o := (some y132)))
              replace h := h.slotc 1 rfl (fun _ _ h => lp_eqv h)
              replace h := h.sub [0, 1, 2, 3, 4, 5, 6, 7, 8, 10, 11, 9] (by rfl)
              change SatL c [.slot 10 (eqVP (b10 6)), .slot 12 (eqVP (b11 0)), .slot 14 (lpVP (b13 2) 0), .slot 20 (lpVP (b100 1) 0), .slot 21 (eqVP (.func (.func 12) #[] #[(b11 0), (b10 6)])), .slot 106 (intVP .i64 (y132.f_v.length : Int)), .slot 107 (intVP .i64 0), .res (Log_e (.pointer none) y94), .res (lb (b13 2) 23 [bytesCk 32 y95]), .res (lb (b100 1) 53 [one (intVP .u32 y133.f_Home), one (strVP y133.f_Disk)]), .res (AtC_e (b10 6) (some y134)), .res (SnC_e (b11 0) (some y132))] a w at h
              show Code.wp Tryz.prog _ _ a w
              refine wp_block ?_
              obtain ⟨cr159, hl160, hF⟩ := bind_some hF
              refine wp_mono (wp_loopN (R := Bool) (S := Int × S_relayer_Relayer × S_api_Replica × O_SnC) (fun s a w => SatL c [.slot 10 (eqVP (b10 6)), .slot 12 (eqVP (b11 0)), .slot 14 (lpVP (b13 2) 0), .slot 20 (lpVP (b100 1) 0), .slot 21 (eqVP (.func (.func 12) #[] #[(b11 0), (b10 6)])), .slot 106 (intVP .i64 (y132.f_v.length : Int)), .slot 107 (intVP .i64 s.1), .res (Log_e (.pointer none) y94), .res (lb (b13 2) 23 [bytesCk 32 y95]), .res (lb (b100 1) 53 [one (intVP .u32 s.2.1.f_Home), one (strVP s.2.1.f_Disk)]), .res (AtC_e (b10 6) (some s.2.2.1)), .res (SnC_e (b11 0) (some s.2.2.2))] a w) (fun res e a w => match res with | .next s => e = .exit 4 ∧ SatL c [.slot 10 (eqVP (b10 6)), .slot 12 (eqVP (b11 0)), .slot 14 (lpVP (b13 2) 0), .slot 20 (lpVP (b100 1) 0), .res (Log_e (.pointer none) y94), .res (lb (b13 2) 23 [bytesCk 32 y95]), .res (lb (b100 1) 53 [one (intVP .u32 s.2.1.f_Home), one (strVP s.2.1.f_Disk)]), .res (AtC_e (b10 6) (some s.2.2.1)), .res (SnC_e (b11 0) (some s.2.2.2))] a w | .ret r => e = .ret ∧ RetOk Tryz.prog Tryz.f3 c (boolVP r) (fun _ => []) a w) ?_ _ (0, y133, y134, y132) _ _ _ (h.sub [0, 1, 2, 3, 4, 5, 6, 7, 8, 9, 10, 11] (by rfl)) hl160) ?_
              · clear hl160 hF h
                intro s a w o h hF
                obtain ⟨x141, x142, x143, x144⟩ := s
                change law23_RelayerCarries.b3 y132 x141 x142 x143 x144 = some o at hF
                unfold law23_RelayerCarries.b3 at hF
                change SatL c [.slot 10 (eqVP (b10 6)), .slot 12 (eqVP (b11 0)), .slot 14 (lpVP (b13 2) 0), .slot 20 (lpVP (b100 1) 0), .slot 21 (eqVP (.func (.func 12) #[] #[(b11 0), (b10 6)])), .slot 106 (intVP .i64 (y132.f_v.length : Int)), .slot 107 (intVP .i64 x141), .res (Log_e (.pointer none) y94), .res (lb (b13 2) 23 [bytesCk 32 y95]), .res (lb (b100 1) 53 [one (intVP .u32 x142.f_Home), one (strVP x142.f_Disk)]), .res (AtC_e (b10 6) (some x143)), .res (SnC_e (b11 0) (some x144))] a w at h
                refine regS mixed hn hG h [0, 1, 2, 3, 4, 5, 6, 500, 7, 8, 9, 10, 11] (ov [6, 5] (op_bin bin_lss q0 q1) .nil) fun _ a w h => ?_
                refine wp_seq ?_
                refine cnd h hF 7 [0, 1, 2, 3, 4, 5, 6, 8, 9, 10, 11, 12] [0, 1, 2, 3, 4, 5, 6, 8, 9, 10, 11, 12] (fun hb154 hF h => ?_) (fun hb154 hF h => ?_)
                · refine wp_skip ?_
                  show Code.wp Tryz.prog _ _ a w
                  refine wp_seq ?_
                  refine wp_block ?_
                  refine regS mixed hn hG h [0, 1, 2, 3, 4, 5, 6, 7, 8, 9, 10, 11] (ov [] (op_assign (opc (ec _))) .nil) fun _ a w h => ?_
                  obtain ⟨h155, h⟩ := h.ex 11 rfl
                  have hp := h.isp 11 rfl (fun Φ f w q => SnC_lp Φ f w q)
                  replace h := h.slotc 1 rfl (V' := lpVP (b11 0) 0) (fun _ _ h => eq_lp h hp)
                  replace h := h.sep (R := lb (b11 0) 40 [one (eqVP h155)]) (S := (acc h155 48 69 S_api_Update.ck x144.f_v)) 11 rfl
                  replace h := h.sub [0, 1, 2, 3, 4, 5, 6, 7, 8, 9, 10, 11, 12] (by rfl)
                  change SatL c [.slot 10 (eqVP (b10 6)), .slot 12 (lpVP (b11 0) 0), .slot 14 (lpVP (b13 2) 0), .slot 20 (lpVP (b100 1) 0), .slot 21 (eqVP (.func (.func 12) #[] #[(b11 0), (b10 6)])), .slot 106 (intVP .i64 (y132.f_v.length : Int)), .slot 107 (intVP .i64 x141), .res (Log_e (.pointer none) y94), .res (lb (b13 2) 23 [bytesCk 32 y95]), .res (lb (b100 1) 53 [one (intVP .u32 x142.f_Home), one (strVP x142.f_Disk)]), .res (AtC_e (b10 6) (some x143)), .res (lb (b11 0) 40 [one (eqVP h155)]), .res (acc h155 48 69 S_api_Update.ck x144.f_v)] a w at h
                  have hp := h.isp 10 rfl (fun Φ f w q => AtC_lp Φ f w q)
                  replace h := h.slotc 0 rfl (V' := lpVP (b10 6) 0) (fun _ _ h => eq_lp h hp)
                  replace h := h.sub [0, 1, 2, 3, 4, 5, 6, 7, 8, 9, 10, 11, 12] (by rfl)
                  change SatL c [.slot 10 (lpVP (b10 6) 0), .slot 12 (lpVP (b11 0) 0), .slot 14 (lpVP (b13 2) 0), .slot 20 (lpVP (b100 1) 0), .slot 21 (eqVP (.func (.func 12) #[] #[(b11 0), (b10 6)])), .slot 106 (intVP .i64 (y132.f_v.length : Int)), .slot 107 (intVP .i64 x141), .res (Log_e (.pointer none) y94), .res (lb (b13 2) 23 [bytesCk 32 y95]), .res (lb (b100 1) 53 [one (intVP .u32 x142.f_Home), one (strVP x142.f_Disk)]), .res (lb (b10 6) 36 [one (intVP .u32 x143.f_Chain), one (intVP .u32 x143.f_Here), bytesCk 32 x143.f_Updater, one (slVP (dC 32) x143.f_Watchers), one (intVP .u64 x143.f_Window), bytesCk 32 x143.f_Committed, one (slVP S_api_Timed.ck x143.f_Roots), one (slVP S_api_State.ck x143.f_States), one (boolVP x143.f_Failed), one (boolVP x143.f_Cut)]), .res (lb (b11 0) 40 [one (eqVP h155)]), .res (acc h155 48 69 S_api_Update.ck x144.f_v)] a w at h
                  obtain ⟨r156, hr156, hF⟩ := bind_some hF
                  refine wp_seq ?_
                  refine reg mixed hn hG h [0, 1, 2, 3, 4, 500, 5, 6, 7, 8, 501, 10, 11, 12] (ov [3, 9] (op_load_w 1 Tryz.isAgg53 Tryz.sizeOf53 q0) <| ov [1, 11, 12] (op_load_cell 1 2 Tryz.isAgg40 q0 rfl rfl) <| ov [0, 10] (op_load_w 1 Tryz.isAgg36 Tryz.sizeOf36 q0) <| oc [502, 501, 500] [] Tryz.call15 (relayer_Step_ok hr156) ⟨q0, q1, q2, qi, trivial⟩ <| ov [500] (op_move q0) <| ov [500] (op_extract q0 rfl) <| ov [501] (op_extract q0 rfl) <| ou [3, 501] 9 (op_store_w Tryz.sizeOf53 q0 q1 (cells_agg _)) <| ov [501] (op_assign q0) .nil) fun _ a w h => ?_
                  replace h := h.unsep 12 13 rfl rfl (by decide)
                  replace h := h.conv 12 rfl (R' := SnC_e (b11 0) (some x144)) (SnC_packo (v0 := h155) (o := (some x144)))
                  replace h := h.slotc 1 rfl (fun _ _ h => lp_eqv h)
                  replace h := h.sub [0, 1, 2, 3, 4, 5, 6, 7, 8, 9, 10, 11, 12] (by rfl)
                  change SatL c [.slot 10 (lpVP (b10 6) 0), .slot 12 (eqVP (b11 0)), .slot 14 (lpVP (b13 2) 0), .slot 20 (lpVP (b100 1) 0), .slot 21 (eqVP (.func (.func 12) #[] #[(b11 0), (b10 6)])), .slot 25 (slVP S_api_Update.ck r156.2), .slot 106 (intVP .i64 (y132.f_v.length : Int)), .slot 107 (intVP .i64 x141), .res (Log_e (.pointer none) y94), .res (lb (b13 2) 23 [bytesCk 32 y95]), .res (lb (b100 1) 53 [one (intVP .u32 r156.1.f_Home), one (strVP r156.1.f_Disk)]), .res (lb (b10 6) 36 [one (intVP .u32 x143.f_Chain), one (intVP .u32 x143.f_Here), bytesCk 32 x143.f_Updater, one (slVP (dC 32) x143.f_Watchers), one (intVP .u64 x143.f_Window), bytesCk 32 x143.f_Committed, one (slVP S_api_Timed.ck x143.f_Roots), one (slVP S_api_State.ck x143.f_States), one (boolVP x143.f_Failed), one (boolVP x143.f_Cut)]), .res (SnC_e (b11 0) (some x144))] a w at h
                  replace h := h.conv 11 rfl (R' := AtC_e (b10 6) (some x143)) (AtC_packo (o := (some x143)))
                  replace h := h.slotc 0 rfl (fun _ _ h => lp_eqv h)
                  replace h := h.sub [0, 1, 2, 3, 4, 5, 6, 7, 8, 9, 10, 12, 11] (by rfl)
                  change SatL c [.slot 10 (eqVP (b10 6)), .slot 12 (eqVP (b11 0)), .slot 14 (lpVP (b13 2) 0), .slot 20 (lpVP (b100 1) 0), .slot 21 (eqVP (.func (.func 12) #[] #[(b11 0), (b10 6)])), .slot 25 (slVP S_api_Update.ck r156.2), .slot 106 (intVP .i64 (y132.f_v.length : Int)), .slot 107 (intVP .i64 x141), .res (Log_e (.pointer none) y94), .res (lb (b13 2) 23 [bytesCk 32 y95]), .res (lb (b100 1) 53 [one (intVP .u32 r156.1.f_Home), one (strVP r156.1.f_Disk)]), .res (SnC_e (b11 0) (some x144)), .res (AtC_e (b10 6) (some x143))] a w at h
                  show Code.wp Tryz.prog _ _ a w
                  obtain ⟨r157, hr157, hF⟩ := bind_some hF
                  refine regS mixed hn hG h [0, 1, 2, 3, 4, 6, 7, 500, 8, 9, 10, 502, 501] (ov [4] (op_move q0) <| ov [5] (op_move q0) <| oe [501, 500] [11, 12] (GOk.plain (op_callclo (ps := [(b11 0), (b10 6)]) (args := [(slVP S_api_Update.ck r156.2)]) Tryz.call12 q0 (law23_RelayerCarries_1_ok hr157) ⟨q1, trivial⟩) rfl) <| ov [502] (op_un (un_not _) q0) .nil) fun _ a w h => ?_
                  refine cnd h hF 7 [8, 11, 12] [0, 1, 2, 3, 4, 5, 6, 8, 9, 10, 11, 12] (fun hb158 hF h => ?_) (fun hb158 hF h => ?_)
                  · refine regS mixed hn hG h [500, 0, 1, 2] (ov [] (op_assign qb) .nil) fun _ a w h => ?_
                    refine wp_ret ?_
                    obtain rfl := Option.some.inj hF
                    exact ⟨ret_ne, rfl, ret1 h Tryz.results3 (r_tmp 0 rfl) [] [] rfl rfl rfl⟩
                  · refine wp_skip ?_
                    show Code.wp Tryz.prog _ _ a w
                    refine reg mixed hn hG h [0, 1, 2, 3, 4, 5, 500, 7, 8, 9, 10, 11] (ov [6] (op_bin bin_add q0 qi) <| od [500] 6 (op_move q0) .nil) fun _ a w h => ?_
                    obtain rfl := Option.some.inj hF
                    exact ⟨rfl, h.sub [0, 1, 2, 3, 4, 5, 6, 7, 8, 9, 11, 10] (by rfl)⟩
                · refine wp_exit ?_
                  obtain rfl := Option.some.inj hF
                  exact ⟨exit_ne _, rfl, h.sub [0, 1, 2, 3, 7, 8, 9, 10, 11] (by rfl)⟩
              · clear hl160
                intro e a w hq
                cases cr159 with
                | ret r161 =>
                  obtain ⟨rfl, hq⟩ := hq
                  obtain rfl := Option.some.inj hF
                  exact ⟨.inl rfl, hq⟩
                | next s162 =>
                  obtain ⟨y163, y164, y165, y166⟩ := s162
                  obtain ⟨rfl, h⟩ := hq
                  change SatL c [.slot 10 (eqVP (b10 6)), .slot 12 (eqVP (b11 0)), .slot 14 (lpVP (b13 2) 0), .slot 20 (lpVP (b100 1) 0), .res (Log_e (.pointer none) y94), .res (lb (b13 2) 23 [bytesCk 32 y95]), .res (lb (b100 1) 53 [one (intVP .u32 y164.f_Home), one (strVP y164.f_Disk)]), .res (AtC_e (b10 6) (some y165)), .res (SnC_e (b11 0) (some y166))] a w at h
                  refine inBlock_at ?_
                  show Code.wp Tryz.prog _ _ a w
                  obtain ⟨h167, h⟩ := h.ex 8 rfl
                  have hp := h.isp 8 rfl (fun Φ f w q => SnC_lp Φ f w q)
                  replace h := h.slotc 1 rfl (V' := lpVP (b11 0) 0) (fun _ _ h => eq_lp h hp)
                  replace h := h.sep (R := lb (b11 0) 40 [one (eqVP h167)]) (S := (acc h167 48 69 S_api_Update.ck y166.f_v)) 8 rfl
                  replace h := h.sub [0, 1, 2, 3, 4, 5, 6, 7, 8, 9] (by rfl)
                  change SatL c [.slot 10 (eqVP (b10 6)), .slot 12 (lpVP (b11 0) 0), .slot 14 (lpVP (b13 2) 0), .slot 20 (lpVP (b100 1) 0), .res (Log_e (.pointer none) y94), .res (lb (b13 2) 23 [bytesCk 32 y95]), .res (lb (b100 1) 53 [one (intVP .u32 y164.f_Home), one (strVP y164.f_Disk)]), .res (AtC_e (b10 6) (some y165)), .res (lb (b11 0) 40 [one (eqVP h167)]), .res (acc h167 48 69 S_api_Update.ck y166.f_v)] a w at h
                  have hp := h.isp 7 rfl (fun Φ f w q => AtC_lp Φ f w q)
                  replace h := h.slotc 0 rfl (V' := lpVP (b10 6) 0) (fun _ _ h => eq_lp h hp)
                  replace h := h.sub [0, 1, 2, 3, 4, 5, 6, 7, 8, 9] (by rfl)
                  change SatL c [.slot 10 (lpVP (b10 6) 0), .slot 12 (lpVP (b11 0) 0), .slot 14 (lpVP (b13 2) 0), .slot 20 (lpVP (b100 1) 0), .res (Log_e (.pointer none) y94), .res (lb (b13 2) 23 [bytesCk 32 y95]), .res (lb (b100 1) 53 [one (intVP .u32 y164.f_Home), one (strVP y164.f_Disk)]), .res (lb (b10 6) 36 [one (intVP .u32 y165.f_Chain), one (intVP .u32 y165.f_Here), bytesCk 32 y165.f_Updater, one (slVP (dC 32) y165.f_Watchers), one (intVP .u64 y165.f_Window), bytesCk 32 y165.f_Committed, one (slVP S_api_Timed.ck y165.f_Roots), one (slVP S_api_State.ck y165.f_States), one (boolVP y165.f_Failed), one (boolVP y165.f_Cut)]), .res (lb (b11 0) 40 [one (eqVP h167)]), .res (acc h167 48 69 S_api_Update.ck y166.f_v)] a w at h
                  obtain ⟨r168, hr168, hF⟩ := bind_some hF
                  refine wp_seq ?_
                  refine reg mixed hn hG h [0, 1, 2, 500, 4, 5, 7, 8, 9] (ov [3, 6] (op_load_w 1 Tryz.isAgg53 Tryz.sizeOf53 q0) <| ov [1, 8, 9] (op_load_cell 1 2 Tryz.isAgg40 q0 rfl rfl) <| ov [0, 7] (op_load_w 1 Tryz.isAgg36 Tryz.sizeOf36 q0) <| oc [502, 501, 500] [] Tryz.call15 (relayer_Step_ok hr168) ⟨q0, q1, q2, qi, trivial⟩ <| ov [500] (op_move q0) <| ov [500] (op_extract q0 rfl) <| ov [501] (op_extract q0 rfl) <| ob [] (op_alloc Tryz.zeroValue53 z53) <| og [501, 503] [500] [.res 7 100000 (fun v1_ _ => (lb (v1_) 53 [one (intVP .u32 r168.1.f_Home), one (strVP r168.1.f_Disk)]))] (GOk.plain (op_store_w Tryz.sizeOf53 q0 q1 (cells_agg _)) rfl) <| ov [503] (op_assign q0) .nil) fun _ a w h => ?_
                  replace h := h.unsep 7 8 rfl rfl (by decide)
                  replace h := h.conv 7 rfl (R' := SnC_e (b11 0) (some y166)) (SnC_packo (v0 := h167) (o := (some y166)))
                  replace h := h.slotc 1 rfl (fun _ _ h => lp_eqv h)
                  replace h := h.sub [0, 1, 2, 3, 4, 5, 6, 7] (by rfl)
                  change SatL c [.slot 10 (lpVP (b10 6) 0), .slot 12 (eqVP (b11 0)), .slot 14 (lpVP (b13 2) 0), .slot 27 (slVP S_api_Update.ck r168.2), .res (Log_e (.pointer none) y94), .res (lb (b13 2) 23 [bytesCk 32 y95]), .res (lb (b10 6) 36 [one (intVP .u32 y165.f_Chain), one (intVP .u32 y165.f_Here), bytesCk 32 y165.f_Updater, one (slVP (dC 32) y165.f_Watchers), one (intVP .u64 y165.f_Window), bytesCk 32 y165.f_Committed, one (slVP S_api_Timed.ck y165.f_Roots), one (slVP S_api_State.ck y165.f_States), one (boolVP y165.f_Failed), one (boolVP y165.f_Cut)]), .res (SnC_e (b11 0) (some y166))] a w at h
                  replace h := h.conv 6 rfl (R' := AtC_e (b10 6) (some y165)) (AtC_packo (o := (some y165)))
                  replace h := h.slotc 0 rfl (fun _ _ h => lp_eqv h)
                  replace h := h.sub [0, 1, 2, 3, 4, 5, 7, 6] (by rfl)
                  change SatL c [.slot 10 (eqVP (b10 6)), .slot 12 (eqVP (b11 0)), .slot 14 (lpVP (b13 2) 0), .slot 27 (slVP S_api_Update.ck r168.2), .res (Log_e (.pointer none) y94), .res (lb (b13 2) 23 [bytesCk 32 y95]), .res (SnC_e (b11 0) (some y166)), .res (AtC_e (b10 6) (some y165))] a w at h
                  show Code.wp Tryz.prog _ _ a w
                  have hp := h.isp 7 rfl (fun Φ f w q => AtC_lp Φ f w q)
                  replace h := h.slotc 0 rfl (V' := lpVP (b10 6) 0) (fun _ _ h => eq_lp h hp)
                  replace h := h.sub [0, 1, 2, 3, 4, 5, 6, 7] (by rfl)
                  change SatL c [.slot 10 (lpVP (b10 6) 0), .slot 12 (eqVP (b11 0)), .slot 14 (lpVP (b13 2) 0), .slot 27 (slVP S_api_Update.ck r168.2), .res (Log_e (.pointer none) y94), .res (lb (b13 2) 23 [bytesCk 32 y95]), .res (SnC_e (b11 0) (some y166)), .res (lb (b10 6) 36 [one (intVP .u32 y165.f_Chain), one (intVP .u32 y165.f_Here), bytesCk 32 y165.f_Updater, one (slVP (dC 32) y165.f_Watchers), one (intVP .u64 y165.f_Window), bytesCk 32 y165.f_Committed, one (slVP S_api_Timed.ck y165.f_Roots), one (slVP S_api_State.ck y165.f_States), one (boolVP y165.f_Failed), one (boolVP y165.f_Cut)])] a w at h
                  obtain ⟨h169, h⟩ := h.ex 6 rfl
                  have hp := h.isp 6 rfl (fun Φ f w q => SnC_lp Φ f w q)
                  replace h := h.slotc 1 rfl (V' := lpVP (b11 0) 0) (fun _ _ h => eq_lp h hp)
                  replace h := h.sep (R := lb (b11 0) 40 [one (eqVP h169)]) (S := (acc h169 48 69 S_api_Update.ck y166.f_v)) 6 rfl
                  replace h := h.sub [0, 1, 2, 3, 4, 5, 6, 7, 8] (by rfl)
                  change SatL c [.slot 10 (lpVP (b10 6) 0), .slot 12 (lpVP (b11 0) 0), .slot 14 (lpVP (b13 2) 0), .slot 27 (slVP S_api_Update.ck r168.2), .res (Log_e (.pointer none) y94), .res (lb (b13 2) 23 [bytesCk 32 y95]), .res (lb (b11 0) 40 [one (eqVP h169)]), .res (lb (b10 6) 36 [one (intVP .u32 y165.f_Chain), one (intVP .u32 y165.f_Here), bytesCk 32 y165.f_Updater, one (slVP (dC 32) y165.f_Watchers), one (intVP .u64 y165.f_Window), bytesCk 32 y165.f_Committed, one (slVP S_api_Timed.ck y165.f_Roots), one (slVP S_api_State.ck y165.f_States), one (boolVP y165.f_Failed), one (boolVP y165.f_Cut)]), .res (acc h169 48 69 S_api_Update.ck y166.f_v)] a w at h
                  refine wp_seq ?_
                  refine wp_cut (fun a w => ∃ (x170 : Bool), law23_RelayerCarries.j1 x170 = some r ∧ SatL c [.slot 8 (boolVP x170), .res (Log_e (.pointer none) y94)] a w) ?_ ?_
                  · rcases Bool.eq_false_or_eq_true (decide (y165.f_Committed = y95)) with hb171 | hb171
                    · replace hF := tt_of hb171 hF
                      rcases Bool.eq_false_or_eq_true (decide ((r168.2.length : Int) = (0 : Int))) with hb172 | hb172
                      · replace hF := tt_of hb172 hF
                        refine reg mixed hn hG h [500, 4] (ov [0] (op_fieldAddr_lbm (p := (b10 6)) (n := 32) 0 36 Tryz.underlying36 rfl Tryz.sizeOf23 (by decide) q0 rfl) <| ov [500, 7] (op_load_lb [one (intVP .u32 y165.f_Chain), one (intVP .u32 y165.f_Here), bytesCk 32 y165.f_Updater, one (slVP (dC 32) y165.f_Watchers), one (intVP .u64 y165.f_Window)] [bytesCk 32 y165.f_Committed] [one (slVP S_api_Timed.ck y165.f_Roots), one (slVP S_api_State.ck y165.f_States), one (boolVP y165.f_Failed), one (boolVP y165.f_Cut)] 1 Tryz.isAgg23 Tryz.sizeOf23 q0 rfl rfl rfl) <| ov [2, 5] (op_load_w 1 Tryz.isAgg23 Tryz.sizeOf23 q0) <| ov [501, 500] (op_bin (bin_aeql Tryz.underlying23 Tryz.underlying5 Tryz.type5 Tryz.sizeOf5 Tryz.isAgg5 Tryz.eqGuardType23) q0 q1) <| ov [500] (op_move q0) <| oe [500, 3] [] (GOk.on_eq hb171 rfl rfl rfl (op_move q0)) <| oe [501, 500] [] (GOk.on_eq hb171 rfl rfl rfl (op_len_sl Tryz.underlying40 q0)) <| oe [502, 500] [] (GOk.on_eq hb171 rfl rfl rfl (op_bin bin_eql q0 qi)) <| ov [503, 500] (op_pick_t hb171 q0 q1) <| ov [500] (op_move q0) <| oe [500, 0] [] (GOk.on_eq hb172 rfl rfl rfl (op_fieldAddr_lbm (p := (b10 6)) (n := 1) 0 68 Tryz.underlying36 rfl Tryz.sizeOf33 (by decide) q0 rfl)) <| oe [501, 500, 7] [] (GOk.on_eq hb172 rfl rfl rfl (op_load_lb1 [one (intVP .u32 y165.f_Chain), one (intVP .u32 y165.f_Here), bytesCk 32 y165.f_Updater, one (slVP (dC 32) y165.f_Watchers), one (intVP .u64 y165.f_Window), bytesCk 32 y165.f_Committed] [one (slVP S_api_State.ck y165.f_States), one (boolVP y165.f_Failed), one (boolVP y165.f_Cut)] 1 Tryz.isAgg33 q0 rfl rfl)) <| oe [502, 500] [] (GOk.on_eq hb172 rfl rfl rfl (op_len_sl Tryz.underlying33 q0)) <| oe [503, 1, 6, 8] [] (GOk.on_eq hb172 rfl rfl rfl (op_load_cell 1 2 Tryz.isAgg40 q0 rfl rfl)) <| oe [504, 500] [] (GOk.on_eq hb172 rfl rfl rfl (op_len_sl Tryz.underlying40 q0)) <| oe [505, 502, 500] [] (GOk.on_eq hb172 rfl rfl rfl (op_bin bin_eql q0 q1)) <| ov [506, 500] (op_pick_t hb172 q0 q1) <| ov [500] (op_assign q0) .nil) fun _ a w h => ?_
                        exact ⟨decide ((y165.f_Roots.length : Int) = (y166.f_v.length : Int)), hF, h.sub [0, 1] (by rfl)⟩
                      · replace hF := ff_of hb172 hF
                        refine reg mixed hn hG h [500, 4] (ov [0] (op_fieldAddr_lbm (p := (b10 6)) (n := 32) 0 36 Tryz.underlying36 rfl Tryz.sizeOf23 (by decide) q0 rfl) <| ov [500, 7] (op_load_lb [one (intVP .u32 y165.f_Chain), one (intVP .u32 y165.f_Here), bytesCk 32 y165.f_Updater, one (slVP (dC 32) y165.f_Watchers), one (intVP .u64 y165.f_Window)] [bytesCk 32 y165.f_Committed] [one (slVP S_api_Timed.ck y165.f_Roots), one (slVP S_api_State.ck y165.f_States), one (boolVP y165.f_Failed), one (boolVP y165.f_Cut)] 1 Tryz.isAgg23 Tryz.sizeOf23 q0 rfl rfl rfl) <| ov [2, 5] (op_load_w 1 Tryz.isAgg23 Tryz.sizeOf23 q0) <| ov [501, 500] (op_bin (bin_aeql Tryz.underlying23 Tryz.underlying5 Tryz.type5 Tryz.sizeOf5 Tryz.isAgg5 Tryz.eqGuardType23) q0 q1) <| ov [500] (op_move q0) <| oe [500, 3] [] (GOk.on_eq hb171 rfl rfl rfl (op_move q0)) <| oe [501, 500] [] (GOk.on_eq hb171 rfl rfl rfl (op_len_sl Tryz.underlying40 q0)) <| oe [502, 500] [] (GOk.on_eq hb171 rfl rfl rfl (op_bin bin_eql q0 qi)) <| ov [503, 500] (op_pick_t hb171 q0 q1) <| ov [500] (op_move q0) <| oe [500] [] (GOk.off_v (want := true) hb172 rfl rfl rfl rfl) <| oe [501] [] (GOk.off_v (want := true) hb172 rfl rfl rfl rfl) <| oe [502] [] (GOk.off_v (want := true) hb172 rfl rfl rfl rfl) <| oe [503] [] (GOk.off_v (want := true) hb172 rfl rfl rfl rfl) <| oe [504] [] (GOk.off_v (want := true) hb172 rfl rfl rfl rfl) <| oe [505] [] (GOk.off_v (want := true) hb172 rfl rfl rfl rfl) <| ov [506] (op_pick_f hb172 q0 qb) <| ov [500] (op_assign q0) .nil) fun _ a w h => ?_
                        exact ⟨false, hF, h.sub [0, 1] (by rfl)⟩
                    · replace hF := ff_of hb171 hF
                      refine reg mixed hn hG h [500, 4] (ov [0] (op_fieldAddr_lbm (p := (b10 6)) (n := 32) 0 36 Tryz.underlying36 rfl Tryz.sizeOf23 (by decide) q0 rfl) <| ov [500, 7] (op_load_lb [one (intVP .u32 y165.f_Chain), one (intVP .u32 y165.f_Here), bytesCk 32 y165.f_Updater, one (slVP (dC 32) y165.f_Watchers), one (intVP .u64 y165.f_Window)] [bytesCk 32 y165.f_Committed] [one (slVP S_api_Timed.ck y165.f_Roots), one (slVP S_api_State.ck y165.f_States), one (boolVP y165.f_Failed), one (boolVP y165.f_Cut)] 1 Tryz.isAgg23 Tryz.sizeOf23 q0 rfl rfl rfl) <| ov [2, 5] (op_load_w 1 Tryz.isAgg23 Tryz.sizeOf23 q0) <| ov [501, 500] (op_bin (bin_aeql Tryz.underlying23 Tryz.underlying5 Tryz.type5 Tryz.sizeOf5 Tryz.isAgg5 Tryz.eqGuardType23) q0 q1) <| ov [500] (op_move q0) <| oe [500] [] (GOk.off_v (want := true) hb171 rfl rfl rfl rfl) <| oe [501] [] (GOk.off_v (want := true) hb171 rfl rfl rfl rfl) <| oe [502] [] (GOk.off_v (want := true) hb171 rfl rfl rfl rfl) <| ov [503] (op_pick_f hb171 q0 qb) <| ov [500] (op_move q0) <| oe [500] [] (GOk.off_v (want := true) rfl rfl rfl rfl rfl) <| oe [501] [] (GOk.off_v (want := true) rfl rfl rfl rfl rfl) <| oe [502] [] (GOk.off_v (want := true) rfl rfl rfl rfl rfl) <| oe [503] [] (GOk.off_v (want := true) rfl rfl rfl rfl rfl) <| oe [504] [] (GOk.off_v (want := true) rfl rfl rfl rfl rfl) <| oe [505] [] (GOk.off_v (want := true) rfl rfl rfl rfl rfl) <| ov [506] (op_pick_f rfl q0 qb) <| ov [500] (op_assign q0) .nil) fun _ a w h => ?_
                      exact ⟨false, hF, h.sub [0, 1] (by rfl)⟩
                  · clear h hF
                    rintro a w ⟨x170, hF, h⟩
                    unfold law23_RelayerCarries.j1 at hF
                    show Code.wp Tryz.prog _ _ a w
                    refine wp_ret ?_
                    obtain rfl := Option.some.inj hF
                    exact ⟨.inl rfl, ret1 h Tryz.results3 (r_tmp 0 rfl) [] [] rfl rfl rfl⟩
end Go.Proofs.YtklikgigjdgjaaaGreatDoorRRR
