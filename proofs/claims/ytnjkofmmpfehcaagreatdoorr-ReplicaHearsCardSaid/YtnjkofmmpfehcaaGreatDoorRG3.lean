/- The functions' Lean twins and contracts, printed by this session's own program: part 3. -/
import Derived.Test.YtnjkofmmpfehcaaGreatDoorRG2
namespace Go.Proofs.YtnjkofmmpfehcaaGreatDoorR
open Go Go.RowKit Go.Proofs
set_option maxRecDepth 100000
set_option maxHeartbeats 4000000
set_option linter.unusedVariables false
def keys_Climb.j1 (x10 : Int) (x11 : Int) (x30 : List UInt8) (x31 : Option O_Log) : Option (Flow ((List UInt8) × (Option O_Log)) (Int × Int × (Option O_Log) × (List UInt8))) := some (.cont (shr .i64 x10 1, IntKind.wrap .i64 (x11 + 1), x31, x30))
def keys_Climb.b1 (a_3 : List (List UInt8)) (x10 : Int) (x11 : Int) (x12 : Option O_Log) (x13 : List UInt8) : Option (Flow ((List UInt8) × (Option O_Log)) (Int × Int × (Option O_Log) × (List UInt8))) := (if (decide (x11 < (a_3.length : Int))) = true then (if (0 : Int) ≤ x11 ∧ x11 < a_3.length then (if (decide ((bits .and .i64 x10 1) = (1 : Int))) = true then ((digest_Log_Two x12 4 (a_3.getD x11.toNat default) x13).bind fun r33 => keys_Climb.j1 x10 x11 r33.1 r33.2) else ((digest_Log_Two x12 4 x13 (a_3.getD x11.toNat default)).bind fun r34 => keys_Climb.j1 x10 x11 r34.1 r34.2)) else none) else some (.brk (x10, x11, x12, x13)))
def keys_Climb (L_0 : Option O_Log) (a_1 : List UInt8) (a_2 : Int) (a_3 : List (List UInt8)) : Option ((List UInt8) × (Option O_Log)) := ((loopN (fun s : Int × Int × (Option O_Log) × (List UInt8) => keys_Climb.b1 a_3 s.1 s.2.1 s.2.2.1 s.2.2.2) (((a_3.length : Int) - 0 : Int).toNat + 2) (a_2, 0, L_0, a_1)).bind fun cr => match cr with | .ret r => some r | .next (y39, y40, y41, y42) => some (y42, y41))
theorem keys_Climb_ok {p_0 : Value} {L_0 : Option O_Log} {a_1 : List UInt8} {a_2 : Int} {a_3 : List (List UInt8)} {r : (List UInt8) × (Option O_Log)} (hF : keys_Climb L_0 a_1 a_2 a_3 = some r) : CallOk Tryz.prog KG 85 [(eqVP p_0), (aggVP [bytesCk 32 a_1]), (intVP .i64 a_2), (slVP (dC 32) a_3)] [(Log_e p_0 L_0)] (fun _ => [Log_e p_0 r.2]) (aggVP [bytesCk 32 r.1]) := by
  refine CallOk.intro 32 Tryz.func85 rfl Tryz.ntmps85 (Nat.le_of_ble_eq_true rfl) ?_
  intro c a w hG hn h
  unfold keys_Climb at hF
  change SatL c [.slot 0 (eqVP p_0), .slot 1 (aggVP [bytesCk 32 a_1]), .slot 2 (intVP .i64 a_2), .slot 3 (slVP (dC 32) a_3), .res (Log_e p_0 L_0)] a w at h
  refine regS mixed hn hG h [0, 2, 3, 503, 501, 4, 502, 500] (ob [1] (op_box q0 (cells_agg _)) <| ob [] (op_alloc Tryz.zeroValue24 z24) .nil) fun b1 a w h => ?_
  refine wp_seq ?_
  refine regS mixed hn hG h [0, 1, 3, 4, 502, 501, 500, 5, 6, 7] (ov [2] (op_move q0) <| ov [500] (op_len_sl Tryz.underlying25 q0) <| ov [] (op_move qi) .nil) fun _ a w h => ?_
  refine wp_block ?_
  obtain ⟨cr35, hl36, hF⟩ := bind_some hF
  refine wp_mono (wp_loopN (R := (List UInt8) × (Option O_Log)) (S := Int × Int × (Option O_Log) × (List UInt8)) (fun s a w => SatL c [.slot 0 (eqVP p_0), .slot 2 (intVP .i64 s.1), .slot 5 (lpVP (b1 0) 0), .slot 8 (lpVP (b1 1) 0), .slot 11 (slVP (dC 32) a_3), .slot 12 (intVP .i64 (a_3.length : Int)), .slot 13 (intVP .i64 s.2.1), .res (Log_e p_0 s.2.2.1), .res (lb (b1 0) 24 [bytesCk 32 s.2.2.2]), .res (lb (b1 1) 24 [bytesCk 32 (List.replicate 32 0)])] a w) (fun res e a w => match res with | .next s => e = .exit 0 ∧ SatL c [.slot 5 (lpVP (b1 0) 0), .slot 8 (lpVP (b1 1) 0), .res (Log_e p_0 s.2.2.1), .res (lb (b1 0) 24 [bytesCk 32 s.2.2.2]), .res (lb (b1 1) 24 [bytesCk 32 (List.replicate 32 0)])] a w | .ret r => e = .ret ∧ RetOk Tryz.prog Tryz.f85 c (aggVP [bytesCk 32 r.1]) (fun _ => [Log_e p_0 r.2]) a w) ?_ _ (a_2, 0, L_0, a_1) _ _ _ (h.sub [0, 1, 2, 3, 4, 5, 6, 7, 8, 9] (by rfl)) hl36) ?_
  · clear hl36 hF h
    intro s a w o h hF
    obtain ⟨x10, x11, x12, x13⟩ := s
    change keys_Climb.b1 a_3 x10 x11 x12 x13 = some o at hF
    unfold keys_Climb.b1 at hF
    change SatL c [.slot 0 (eqVP p_0), .slot 2 (intVP .i64 x10), .slot 5 (lpVP (b1 0) 0), .slot 8 (lpVP (b1 1) 0), .slot 11 (slVP (dC 32) a_3), .slot 12 (intVP .i64 (a_3.length : Int)), .slot 13 (intVP .i64 x11), .res (Log_e p_0 x12), .res (lb (b1 0) 24 [bytesCk 32 x13]), .res (lb (b1 1) 24 [bytesCk 32 (List.replicate 32 0)])] a w at h
    refine regS mixed hn hG h [0, 1, 2, 3, 4, 5, 6, 500, 7, 8, 9] (ov [6, 5] (op_bin bin_lss q0 q1) .nil) fun _ a w h => ?_
    refine wp_seq ?_
    refine cnd h hF 7 [0, 1, 2, 3, 4, 5, 6, 8, 9, 10] [0, 1, 2, 3, 4, 5, 6, 8, 9, 10] (fun hb25 hF h => ?_) (fun hb25 hF h => ?_)
    · refine wp_skip ?_
      show Code.wp Tryz.prog _ _ a w
      refine wp_seq ?_
      refine wp_block ?_
      obtain ⟨hv26, hF⟩ := ite_some hF
      refine regS mixed hn hG h [0, 1, 2, 3, 502, 4, 5, 6, 7, 8, 9, 500] (ov [4, 6] (op_indexAddr_sl Tryz.underlying25 Tryz.sizeOf24 (lens_dC 32) q0 q1 hv26) <| ov [500] (op_load_pp [bytesCk 32 (a_3.getD x11.toNat default)] [] Tryz.isAgg24 Tryz.sizeOf24 q0 rfl) <| ob [] (op_alloc Tryz.zeroValue24 z24) <| og [501, 502] [500] [.res 2 100000 (fun v1_ _ => (lb (v1_) 24 [bytesCk 32 (a_3.getD x11.toNat default)]))] (GOk.plain (op_store_w Tryz.sizeOf24 q0 q1 (cells_agg _)) rfl) .nil) fun b27 a w h => ?_
      refine wp_seq ?_
      refine regS mixed hn hG h [0, 1, 2, 3, 4, 5, 6, 7, 500, 8, 9, 10, 11] (ov [1] (op_move q0) <| ov [500] (op_bin bin_and q0 qi) <| ov [500] (op_bin bin_eql q0 qi) .nil) fun _ a w h => ?_
      refine wp_cut (fun a w => ∃ (x30 : List UInt8), ∃ (x31 : Option O_Log), keys_Climb.j1 x10 x11 x30 x31 = some o ∧ SatL c [.slot 0 (eqVP p_0), .slot 2 (intVP .i64 x10), .slot 5 (lpVP (b1 0) 0), .slot 8 (lpVP (b1 1) 0), .slot 11 (slVP (dC 32) a_3), .slot 12 (intVP .i64 (a_3.length : Int)), .slot 13 (intVP .i64 x11), .res (lb (b1 0) 24 [bytesCk 32 x30]), .res (lb (b1 1) 24 [bytesCk 32 (List.replicate 32 0)]), .res (Log_e p_0 x31)] a w) ?_ ?_
      · refine cnd h hF 8 [0, 1, 2, 3, 4, 5, 6, 7, 9, 10, 11, 12] [0, 1, 2, 3, 4, 5, 6, 7, 9, 10, 11, 12] (fun hb32 hF h => ?_) (fun hb32 hF h => ?_)
        · obtain ⟨r33, hr33, hF⟩ := bind_some hF
          refine reg mixed hn hG h [0, 1, 2, 3, 5, 6, 7, 500, 10, 501] (ov [0] (op_move q0) <| ov [4, 11] (op_load_w 1 Tryz.isAgg24 Tryz.sizeOf24 q0) <| ov [2, 9] (op_load_w 1 Tryz.isAgg24 Tryz.sizeOf24 q0) <| oc [502, 501, 500] [8] Tryz.call105 (digest_Log_Two_ok hr33) ⟨q0, qi, q1, q2, trivial⟩ <| ou [2, 501] 9 (op_store_w Tryz.sizeOf24 q0 q1 (cells_agg _)) .nil) fun _ a w h => ?_
          exact ⟨r33.1, r33.2, hF, h.sub [0, 1, 2, 3, 4, 5, 6, 7, 8, 9] (by rfl)⟩
        · obtain ⟨r34, hr34, hF⟩ := bind_some hF
          refine reg mixed hn hG h [0, 1, 2, 3, 5, 6, 7, 500, 10, 501] (ov [0] (op_move q0) <| ov [2, 9] (op_load_w 1 Tryz.isAgg24 Tryz.sizeOf24 q0) <| ov [4, 11] (op_load_w 1 Tryz.isAgg24 Tryz.sizeOf24 q0) <| oc [502, 501, 500] [8] Tryz.call105 (digest_Log_Two_ok hr34) ⟨q0, qi, q1, q2, trivial⟩ <| ou [2, 501] 9 (op_store_w Tryz.sizeOf24 q0 q1 (cells_agg _)) .nil) fun _ a w h => ?_
          exact ⟨r34.1, r34.2, hF, h.sub [0, 1, 2, 3, 4, 5, 6, 7, 8, 9] (by rfl)⟩
      · clear h hF
        rintro a w ⟨x30, x31, hF, h⟩
        unfold keys_Climb.j1 at hF
        show Code.wp Tryz.prog _ _ a w
        refine reg mixed hn hG h [0, 500, 2, 3, 4, 5, 6, 7, 8, 9] (ov [1] (op_move q0) <| ov [500] (op_bin (bin_shru rfl) q0 qi) <| od [500] 1 (op_assign q0) .nil) fun _ a w h => ?_
        show Code.wp Tryz.prog _ _ a w
        refine reg mixed hn hG h [0, 1, 2, 3, 4, 5, 500, 7, 8, 9] (ov [6] (op_bin bin_add q0 qi) <| od [500] 6 (op_move q0) .nil) fun _ a w h => ?_
        obtain rfl := Option.some.inj hF
        exact ⟨rfl, h.sub [0, 1, 2, 3, 4, 5, 6, 9, 7, 8] (by rfl)⟩
    · refine wp_exit ?_
      obtain rfl := Option.some.inj hF
      exact ⟨exit_ne _, rfl, h.sub [2, 3, 7, 8, 9] (by rfl)⟩
  · clear hl36
    intro e a w hq
    cases cr35 with
    | ret r37 =>
      obtain ⟨rfl, hq⟩ := hq
      obtain rfl := Option.some.inj hF
      exact ⟨.inl rfl, hq⟩
    | next s38 =>
      obtain ⟨y39, y40, y41, y42⟩ := s38
      obtain ⟨rfl, h⟩ := hq
      change SatL c [.slot 5 (lpVP (b1 0) 0), .slot 8 (lpVP (b1 1) 0), .res (Log_e p_0 y41), .res (lb (b1 0) 24 [bytesCk 32 y42]), .res (lb (b1 1) 24 [bytesCk 32 (List.replicate 32 0)])] a w at h
      refine inBlock_at ?_
      show Code.wp Tryz.prog _ _ a w
      refine regS mixed hn hG h [1, 2, 500] (ov [0, 3] (op_load_w 1 Tryz.isAgg24 Tryz.sizeOf24 q0) <| ou [1, 500] 4 (op_store_w Tryz.sizeOf24 q0 q1 (cells_agg _)) .nil) fun _ a w h => ?_
      refine wp_ret ?_
      obtain rfl := Option.some.inj hF
      exact ⟨.inl rfl, ret1 h Tryz.results85 (r_cell 0 2 rfl rfl Tryz.isAgg24 Tryz.sizeOf24 rfl) [1] [(Log_e p_0 y41)] rfl rfl rfl⟩

def keys_Verify.j2 (x9 : Bool) (x10 : Option O_Log) : Option (Bool × (Option O_Log)) := some (x9, x10)
def keys_Verify.j1 (L_0 : Option O_Log) (a_1 : List UInt8) (a_2 : List UInt8) (a_3 : S_api_Sig) (x4 : Bool) : Option (Bool × (Option O_Log)) := (if x4 = true then some (false, L_0) else ((lamport_Opened L_0 a_2 a_3.f_Parts a_3.f_Others).bind fun r6 => (if r6.2.1 = true then ((keys_Climb r6.2.2 r6.1 a_3.f_Index a_3.f_Path).bind fun r8 => keys_Verify.j2 (decide (r8.1 = a_1)) r8.2) else keys_Verify.j2 false r6.2.2)))
def keys_Verify (L_0 : Option O_Log) (a_1 : List UInt8) (a_2 : List UInt8) (a_3 : S_api_Sig) : Option (Bool × (Option O_Log)) := (if (decide (a_3.f_Index < (0 : Int))) = true then keys_Verify.j1 L_0 a_1 a_2 a_3 true else (if (decide ((16 : Int) ≤ a_3.f_Index)) = true then keys_Verify.j1 L_0 a_1 a_2 a_3 true else keys_Verify.j1 L_0 a_1 a_2 a_3 (!decide ((a_3.f_Path.length : Int) = (4 : Int)))))
theorem keys_Verify_ok {p_0 : Value} {L_0 : Option O_Log} {a_1 : List UInt8} {a_2 : List UInt8} {a_3 : S_api_Sig} {r : Bool × (Option O_Log)} (hF : keys_Verify L_0 a_1 a_2 a_3 = some r) : CallOk Tryz.prog KG 61 [(eqVP p_0), (aggVP [bytesCk 32 a_1]), (aggVP [bytesCk 32 a_2]), (aggVP [one (intVP .i64 a_3.f_Index), one (slVP (dC 32) a_3.f_Parts), one (slVP (dC 32) a_3.f_Others), one (slVP (dC 32) a_3.f_Path)])] [(Log_e p_0 L_0)] (fun _ => [Log_e p_0 r.2]) (boolVP r.1) := by
  refine CallOk.intro 47 Tryz.func61 rfl Tryz.ntmps61 (Nat.le_of_ble_eq_true rfl) ?_
  intro c a w hG hn h
  unfold keys_Verify at hF
  change SatL c [.slot 0 (eqVP p_0), .slot 1 (aggVP [bytesCk 32 a_1]), .slot 2 (aggVP [bytesCk 32 a_2]), .slot 3 (aggVP [one (intVP .i64 a_3.f_Index), one (slVP (dC 32) a_3.f_Parts), one (slVP (dC 32) a_3.f_Others), one (slVP (dC 32) a_3.f_Path)]), .res (Log_e p_0 L_0)] a w at h
  refine regS mixed hn hG h [0, 506, 504, 502, 4, 505, 503, 501] (ob [1] (op_box q0 (cells_agg _)) <| ob [2] (op_box q0 (cells_agg _)) <| ob [3] (op_box q0 (cells_agg _)) <| ov [] (op_assign qb) .nil) fun b1 a w h => ?_
  refine wp_seq ?_
  refine wp_seq ?_
  refine wp_cut (fun a w => ∃ (x4 : Bool), keys_Verify.j1 L_0 a_1 a_2 a_3 x4 = some r ∧ SatL c [.slot 0 (eqVP p_0), .slot 5 (lpVP (b1 0) 0), .slot 6 (lpVP (b1 1) 0), .slot 7 (lpVP (b1 2) 0), .slot 24 (boolVP x4), .res (Log_e p_0 L_0), .res (lb (b1 0) 24 [bytesCk 32 a_1]), .res (lb (b1 1) 24 [bytesCk 32 a_2]), .res (lb (b1 2) 32 [one (intVP .i64 a_3.f_Index), one (slVP (dC 32) a_3.f_Parts), one (slVP (dC 32) a_3.f_Others), one (slVP (dC 32) a_3.f_Path)])] a w) ?_ ?_
  · rcases Bool.eq_false_or_eq_true (decide (a_3.f_Index < (0 : Int))) with hb12 | hb12
    · replace hF := tt_of hb12 hF
      refine reg mixed hn hG h [0, 1, 2, 3, 500, 4, 5, 6, 7] (ov [3] (op_fieldAddr_lbm (p := (b1 2)) (n := 1) 0 0 Tryz.underlying32 rfl Tryz.sizeOf3 (by decide) q0 rfl) <| ov [500, 7] (op_load_lb1 [] [one (slVP (dC 32) a_3.f_Parts), one (slVP (dC 32) a_3.f_Others), one (slVP (dC 32) a_3.f_Path)] 1 Tryz.isAgg3 q0 rfl rfl) <| ov [500] (op_bin bin_lss q0 qi) <| ov [500] (op_move q0) <| oe [500] [] (GOk.off_v (want := false) hb12 rfl rfl rfl rfl) <| oe [501] [] (GOk.off_v (want := false) hb12 rfl rfl rfl rfl) <| oe [502] [] (GOk.off_v (want := false) hb12 rfl rfl rfl rfl) <| ov [503] (op_pick_t hb12 q0 qb) <| ov [500] (op_move q0) <| oe [500] [] (GOk.off_v (want := false) rfl rfl rfl rfl rfl) <| oe [501] [] (GOk.off_v (want := false) rfl rfl rfl rfl rfl) <| oe [502] [] (GOk.off_v (want := false) rfl rfl rfl rfl rfl) <| oe [503] [] (GOk.off_v (want := false) rfl rfl rfl rfl rfl) <| ov [504] (op_pick_t rfl q0 qb) .nil) fun _ a w h => ?_
      exact ⟨true, hF, h.sub [0, 1, 2, 3, 4, 5, 6, 7, 8] (by rfl)⟩
    · replace hF := ff_of hb12 hF
      rcases Bool.eq_false_or_eq_true (decide ((16 : Int) ≤ a_3.f_Index)) with hb13 | hb13
      · replace hF := tt_of hb13 hF
        refine reg mixed hn hG h [0, 1, 2, 3, 500, 4, 5, 6, 7] (ov [3] (op_fieldAddr_lbm (p := (b1 2)) (n := 1) 0 0 Tryz.underlying32 rfl Tryz.sizeOf3 (by decide) q0 rfl) <| ov [500, 7] (op_load_lb1 [] [one (slVP (dC 32) a_3.f_Parts), one (slVP (dC 32) a_3.f_Others), one (slVP (dC 32) a_3.f_Path)] 1 Tryz.isAgg3 q0 rfl rfl) <| ov [500] (op_bin bin_lss q0 qi) <| ov [500] (op_move q0) <| oe [500, 3] [] (GOk.on_eq hb12 rfl rfl rfl (op_fieldAddr_lbm (p := (b1 2)) (n := 1) 0 0 Tryz.underlying32 rfl Tryz.sizeOf3 (by decide) q0 rfl)) <| oe [501, 500, 7] [] (GOk.on_eq hb12 rfl rfl rfl (op_load_lb1 [] [one (slVP (dC 32) a_3.f_Parts), one (slVP (dC 32) a_3.f_Others), one (slVP (dC 32) a_3.f_Path)] 1 Tryz.isAgg3 q0 rfl rfl)) <| oe [502, 500] [] (GOk.on_eq hb12 rfl rfl rfl (op_bin bin_geq q0 qi)) <| ov [503, 500] (op_pick_f hb12 q0 q1) <| ov [500] (op_move q0) <| oe [500] [] (GOk.off_v (want := false) hb13 rfl rfl rfl rfl) <| oe [501] [] (GOk.off_v (want := false) hb13 rfl rfl rfl rfl) <| oe [502] [] (GOk.off_v (want := false) hb13 rfl rfl rfl rfl) <| oe [503] [] (GOk.off_v (want := false) hb13 rfl rfl rfl rfl) <| ov [504] (op_pick_t hb13 q0 qb) .nil) fun _ a w h => ?_
        exact ⟨true, hF, h.sub [0, 1, 2, 3, 4, 5, 6, 7, 8] (by rfl)⟩
      · replace hF := ff_of hb13 hF
        refine reg mixed hn hG h [0, 1, 2, 3, 500, 4, 5, 6, 7] (ov [3] (op_fieldAddr_lbm (p := (b1 2)) (n := 1) 0 0 Tryz.underlying32 rfl Tryz.sizeOf3 (by decide) q0 rfl) <| ov [500, 7] (op_load_lb1 [] [one (slVP (dC 32) a_3.f_Parts), one (slVP (dC 32) a_3.f_Others), one (slVP (dC 32) a_3.f_Path)] 1 Tryz.isAgg3 q0 rfl rfl) <| ov [500] (op_bin bin_lss q0 qi) <| ov [500] (op_move q0) <| oe [500, 3] [] (GOk.on_eq hb12 rfl rfl rfl (op_fieldAddr_lbm (p := (b1 2)) (n := 1) 0 0 Tryz.underlying32 rfl Tryz.sizeOf3 (by decide) q0 rfl)) <| oe [501, 500, 7] [] (GOk.on_eq hb12 rfl rfl rfl (op_load_lb1 [] [one (slVP (dC 32) a_3.f_Parts), one (slVP (dC 32) a_3.f_Others), one (slVP (dC 32) a_3.f_Path)] 1 Tryz.isAgg3 q0 rfl rfl)) <| oe [502, 500] [] (GOk.on_eq hb12 rfl rfl rfl (op_bin bin_geq q0 qi)) <| ov [503, 500] (op_pick_f hb12 q0 q1) <| ov [500] (op_move q0) <| oe [500, 3] [] (GOk.on_eq hb13 rfl rfl rfl (op_fieldAddr_lbm (p := (b1 2)) (n := 1) 0 3 Tryz.underlying32 rfl Tryz.sizeOf25 (by decide) q0 rfl)) <| oe [501, 500, 7] [] (GOk.on_eq hb13 rfl rfl rfl (op_load_lb1 [one (intVP .i64 a_3.f_Index), one (slVP (dC 32) a_3.f_Parts), one (slVP (dC 32) a_3.f_Others)] [] 1 Tryz.isAgg25 q0 rfl rfl)) <| oe [502, 500] [] (GOk.on_eq hb13 rfl rfl rfl (op_len_sl Tryz.underlying25 q0)) <| oe [503, 500] [] (GOk.on_eq hb13 rfl rfl rfl (op_bin bin_neq q0 qi)) <| ov [504, 500] (op_pick_f hb13 q0 q1) .nil) fun _ a w h => ?_
        exact ⟨!decide ((a_3.f_Path.length : Int) = (4 : Int)), hF, h.sub [0, 1, 2, 3, 4, 5, 6, 7, 8] (by rfl)⟩
  · clear h hF
    rintro a w ⟨x4, hF, h⟩
    unfold keys_Verify.j1 at hF
    show Code.wp Tryz.prog _ _ a w
    refine cnd h hF 4 [5] [0, 1, 2, 3, 5, 6, 7, 8] (fun hb5 hF h => ?_) (fun hb5 hF h => ?_)
    · refine regS mixed hn hG h [500, 0] (ov [] (op_assign qb) .nil) fun _ a w h => ?_
      refine wp_ret ?_
      obtain rfl := Option.some.inj hF
      exact ⟨.inl rfl, ret1 h Tryz.results61 (r_tmp 0 rfl) [1] [(Log_e p_0 L_0)] rfl rfl rfl⟩
    · refine wp_skip ?_
      show Code.wp Tryz.prog _ _ a w
      obtain ⟨r6, hr6, hF⟩ := bind_some hF
      refine regS mixed hn hG h [0, 1, 3, 503, 500, 5, 7, 507, 501] (ov [0] (op_move q0) <| ov [2, 6] (op_load_w 1 Tryz.isAgg24 Tryz.sizeOf24 q0) <| ov [3] (op_fieldAddr_lbm (p := (b1 2)) (n := 1) 0 1 Tryz.underlying32 rfl Tryz.sizeOf25 (by decide) q0 rfl) <| ov [500, 7] (op_load_lb1 [one (intVP .i64 a_3.f_Index)] [one (slVP (dC 32) a_3.f_Others), one (slVP (dC 32) a_3.f_Path)] 1 Tryz.isAgg25 q0 rfl rfl) <| ov [3] (op_fieldAddr_lbm (p := (b1 2)) (n := 1) 0 2 Tryz.underlying32 rfl Tryz.sizeOf25 (by decide) q0 rfl) <| ov [500, 7] (op_load_lb1 [one (intVP .i64 a_3.f_Index), one (slVP (dC 32) a_3.f_Parts)] [one (slVP (dC 32) a_3.f_Path)] 1 Tryz.isAgg25 q0 rfl rfl) <| oc [505, 504, 502, 500] [4] Tryz.call84 (lamport_Opened_ok hr6) ⟨q0, q1, q2, q3, trivial⟩ <| ov [501] (op_move q0) <| ov [500] (op_extract q0 rfl) <| ov [501] (op_extract q0 rfl) <| ob [] (op_alloc Tryz.zeroValue24 z24) <| og [501, 503] [500] [.res 10 100000 (fun v1_ _ => (lb (v1_) 24 [bytesCk 32 r6.1]))] (GOk.plain (op_store_w Tryz.sizeOf24 q0 q1 (cells_agg _)) rfl) <| ov [503] (op_assign q0) .nil) fun b7 a w h => ?_
      refine wp_seq ?_
      refine wp_cut (fun a w => ∃ (x9 : Bool), ∃ (x10 : Option O_Log), keys_Verify.j2 x9 x10 = some r ∧ SatL c [.slot 8 (boolVP x9), .res (Log_e p_0 x10)] a w) ?_ ?_
      · rcases Bool.eq_false_or_eq_true r6.2.1 with hb11 | hb11
        · replace hF := tt_of hb11 hF
          obtain ⟨r8, hr8, hF⟩ := bind_some hF
          refine reg mixed hn hG h [500, 504] (ov [4] (op_move q0) <| ov [500] (op_move q0) <| oe [500, 0] [] (GOk.on_eq hb11 rfl rfl rfl (op_move q0)) <| oe [501, 3, 8] [] (GOk.on_eq hb11 rfl rfl rfl (op_load_w 1 Tryz.isAgg24 Tryz.sizeOf24 q0)) <| oe [502, 2] [] (GOk.on_eq hb11 rfl rfl rfl (op_fieldAddr_lbm (p := (b1 2)) (n := 1) 0 0 Tryz.underlying32 rfl Tryz.sizeOf3 (by decide) q0 rfl)) <| oe [503, 500, 6] [] (GOk.on_eq hb11 rfl rfl rfl (op_load_lb1 [] [one (slVP (dC 32) a_3.f_Parts), one (slVP (dC 32) a_3.f_Others), one (slVP (dC 32) a_3.f_Path)] 1 Tryz.isAgg3 q0 rfl rfl)) <| oe [504, 2] [] (GOk.on_eq hb11 rfl rfl rfl (op_fieldAddr_lbm (p := (b1 2)) (n := 1) 0 3 Tryz.underlying32 rfl Tryz.sizeOf25 (by decide) q0 rfl)) <| oe [505, 500, 6] [] (GOk.on_eq hb11 rfl rfl rfl (op_load_lb1 [one (intVP .i64 a_3.f_Index), one (slVP (dC 32) a_3.f_Parts), one (slVP (dC 32) a_3.f_Others)] [] 1 Tryz.isAgg25 q0 rfl rfl)) <| oe [506, 505, 504, 502, 500] [7] (GOk.on_eq hb11 rfl rfl rfl (op_call Tryz.call85 (keys_Climb_ok hr8) ⟨q0, q1, q2, q3, trivial⟩)) <| oe [508, 1, 5] [] (GOk.on_eq hb11 rfl rfl rfl (op_load_w 1 Tryz.isAgg24 Tryz.sizeOf24 q0)) <| oe [509, 502, 500] [] (GOk.on_eq hb11 rfl rfl rfl (op_bin (bin_aeql Tryz.underlying24 Tryz.underlying5 Tryz.type5 Tryz.sizeOf5 Tryz.isAgg5 Tryz.eqGuardType24) q0 q1)) <| ov [510, 500] (op_pick_t hb11 q0 q1) <| ov [500] (op_assign q0) .nil) fun _ a w h => ?_
          exact ⟨decide (r8.1 = a_1), r8.2, hF, h.sub [0, 1] (by rfl)⟩
        · replace hF := ff_of hb11 hF
          refine reg mixed hn hG h [500, 7] (ov [4] (op_move q0) <| ov [500] (op_move q0) <| oe [500] [] (GOk.off_v (want := true) hb11 rfl rfl rfl rfl) <| oe [501] [] (GOk.off_v (want := true) hb11 rfl rfl rfl rfl) <| oe [502] [] (GOk.off_v (want := true) hb11 rfl rfl rfl rfl) <| oe [503] [] (GOk.off_v (want := true) hb11 rfl rfl rfl rfl) <| oe [504] [] (GOk.off_v (want := true) hb11 rfl rfl rfl rfl) <| oe [505] [] (GOk.off_v (want := true) hb11 rfl rfl rfl rfl) <| oe [506] [] (GOk.off_v (want := true) hb11 rfl rfl rfl rfl) <| oe [507] [] (GOk.off_v (want := true) hb11 rfl rfl rfl rfl) <| oe [508] [] (GOk.off_v (want := true) hb11 rfl rfl rfl rfl) <| ov [509] (op_pick_f hb11 q0 qb) <| ov [500] (op_assign q0) .nil) fun _ a w h => ?_
          exact ⟨false, r6.2.2, hF, h.sub [0, 1] (by rfl)⟩
      · clear h hF
        rintro a w ⟨x9, x10, hF, h⟩
        unfold keys_Verify.j2 at hF
        show Code.wp Tryz.prog _ _ a w
        refine wp_ret ?_
        obtain rfl := Option.some.inj hF
        exact ⟨.inl rfl, ret1 h Tryz.results61 (r_tmp 0 rfl) [1] [(Log_e p_0 x10)] rfl rfl rfl⟩

def update_Claim (L_0 : Option O_Log) (a_1 : Int) (a_2 : List UInt8) (a_3 : List UInt8) : Option ((List UInt8) × (Option O_Log)) := ((wire_Word a_1).bind fun r4 => ((wire_Digest a_2).bind fun r5 => ((wire_Digest a_3).bind fun r6 => ((digest_Log_Of L_0 7 [r4, r5, r6]).bind fun r7 => some (r7.1, r7.2)))))
theorem update_Claim_ok {p_0 : Value} {L_0 : Option O_Log} {a_1 : Int} {a_2 : List UInt8} {a_3 : List UInt8} {r : (List UInt8) × (Option O_Log)} (hF : update_Claim L_0 a_1 a_2 a_3 = some r) : CallOk Tryz.prog KG 80 [(eqVP p_0), (intVP .u32 a_1), (aggVP [bytesCk 32 a_2]), (aggVP [bytesCk 32 a_3])] [(Log_e p_0 L_0)] (fun _ => [Log_e p_0 r.2]) (aggVP [bytesCk 32 r.1]) := by
  refine CallOk.intro 18 Tryz.func80 rfl Tryz.ntmps80 (Nat.le_of_ble_eq_true rfl) ?_
  intro c a w hG hn h
  unfold update_Claim at hF
  change SatL c [.slot 0 (eqVP p_0), .slot 1 (intVP .u32 a_1), .slot 2 (aggVP [bytesCk 32 a_2]), .slot 3 (aggVP [bytesCk 32 a_3]), .res (Log_e p_0 L_0)] a w at h
  refine regS mixed hn hG h [0, 1, 505, 503, 501, 4, 504, 502, 500] (ob [2] (op_box q0 (cells_agg _)) <| ob [3] (op_box q0 (cells_agg _)) <| ob [] (op_alloc Tryz.zeroValue24 z24) .nil) fun b1 a w h => ?_
  obtain ⟨r4, hr4, hF⟩ := bind_some hF
  obtain ⟨r5, hr5, hF⟩ := bind_some hF
  obtain ⟨r6, hr6, hF⟩ := bind_some hF
  obtain ⟨r7, hr7, hF⟩ := bind_some hF
  refine regS mixed hn hG h [4, 500, 501] (ov [0] (op_move q0) <| ov [1] (op_move q0) <| oc [500] [] Tryz.call86 (wire_Word_ok hr4) ⟨q0, trivial⟩ <| ov [2, 6] (op_load_w 1 Tryz.isAgg24 Tryz.sizeOf24 q0) <| oc [500] [] Tryz.call74 (wire_Digest_ok hr5) ⟨q0, trivial⟩ <| ov [3, 7] (op_load_w 1 Tryz.isAgg24 Tryz.sizeOf24 q0) <| oc [500] [] Tryz.call74 (wire_Digest_ok hr6) ⟨q0, trivial⟩ <| ov [504, 502, 500] (op_lit (xs := [.tmp 11, .tmp 13, .tmp 15]) (ys := [r4, r5, r6]) _ rfl Tryz.underlying53 Tryz.sizeOf9 Tryz.zeroValue9 rfl rfl (by decide) (by decide) ⟨⟨_, q0, (cells_one (one_str _))⟩, ⟨_, q1, (cells_one (one_str _))⟩, ⟨_, q2, (cells_one (one_str _))⟩, trivial⟩ lens_strC) <| oc [507, 500] [5] Tryz.call75 (digest_Log_Of_ok hr7) ⟨q0, qi, q1, trivial⟩ <| ou [4, 501] 8 (op_store_w Tryz.sizeOf24 q0 q1 (cells_agg _)) .nil) fun _ a w h => ?_
  refine wp_ret ?_
  obtain rfl := Option.some.inj hF
  exact ⟨.inl rfl, ret1 h Tryz.results80 (r_cell 0 1 rfl rfl Tryz.isAgg24 Tryz.sizeOf24 rfl) [2] [(Log_e p_0 r7.2)] rfl rfl rfl⟩

def update_Right (L_0 : Option O_Log) (a_1 : List UInt8) (a_2 : S_api_Update) : Option (Bool × (Option O_Log)) := ((update_Claim L_0 a_2.f_Home a_2.f_Old a_2.f_New).bind fun r3 => ((keys_Verify r3.2 a_1 r3.1 a_2.f_Sig).bind fun r4 => some (r4.1, r4.2)))
theorem update_Right_ok {p_0 : Value} {L_0 : Option O_Log} {a_1 : List UInt8} {a_2 : S_api_Update} {r : Bool × (Option O_Log)} (hF : update_Right L_0 a_1 a_2 = some r) : CallOk Tryz.prog KG 55 [(eqVP p_0), (aggVP [bytesCk 32 a_1]), (aggVP [one (intVP .u32 a_2.f_Home), bytesCk 32 a_2.f_Old, bytesCk 32 a_2.f_New, one (intVP .i64 a_2.f_Sig.f_Index), one (slVP (dC 32) a_2.f_Sig.f_Parts), one (slVP (dC 32) a_2.f_Sig.f_Others), one (slVP (dC 32) a_2.f_Sig.f_Path)])] [(Log_e p_0 L_0)] (fun _ => [Log_e p_0 r.2]) (boolVP r.1) := by
  refine CallOk.intro 20 Tryz.func55 rfl Tryz.ntmps55 (Nat.le_of_ble_eq_true rfl) ?_
  intro c a w hG hn h
  unfold update_Right at hF
  change SatL c [.slot 0 (eqVP p_0), .slot 1 (aggVP [bytesCk 32 a_1]), .slot 2 (aggVP [one (intVP .u32 a_2.f_Home), bytesCk 32 a_2.f_Old, bytesCk 32 a_2.f_New, one (intVP .i64 a_2.f_Sig.f_Index), one (slVP (dC 32) a_2.f_Sig.f_Parts), one (slVP (dC 32) a_2.f_Sig.f_Others), one (slVP (dC 32) a_2.f_Sig.f_Path)]), .res (Log_e p_0 L_0)] a w at h
  refine regS mixed hn hG h [0, 504, 502, 3, 503, 501] (ob [1] (op_box q0 (cells_agg _)) <| ob [2] (op_box q0 (cells_agg _)) <| ov [] (op_assign qb) .nil) fun b1 a w h => ?_
  obtain ⟨r3, hr3, hF⟩ := bind_some hF
  obtain ⟨r4, hr4, hF⟩ := bind_some hF
  refine regS mixed hn hG h [500, 501] (ov [0] (op_move q0) <| ov [1, 4] (op_load_w 1 Tryz.isAgg24 Tryz.sizeOf24 q0) <| ov [0] (op_move q0) <| ov [2] (op_fieldAddr_lbm (p := (b1 1)) (n := 1) 0 0 Tryz.underlying34 rfl Tryz.sizeOf22 (by decide) q0 rfl) <| ov [500, 5] (op_load_lb1 [] [bytesCk 32 a_2.f_Old, bytesCk 32 a_2.f_New, one (intVP .i64 a_2.f_Sig.f_Index), one (slVP (dC 32) a_2.f_Sig.f_Parts), one (slVP (dC 32) a_2.f_Sig.f_Others), one (slVP (dC 32) a_2.f_Sig.f_Path)] 1 Tryz.isAgg22 q0 rfl rfl) <| ov [2] (op_fieldAddr_lbm (p := (b1 1)) (n := 32) 0 1 Tryz.underlying34 rfl Tryz.sizeOf24 (by decide) q0 rfl) <| ov [500, 5] (op_load_lb [one (intVP .u32 a_2.f_Home)] [bytesCk 32 a_2.f_Old] [bytesCk 32 a_2.f_New, one (intVP .i64 a_2.f_Sig.f_Index), one (slVP (dC 32) a_2.f_Sig.f_Parts), one (slVP (dC 32) a_2.f_Sig.f_Others), one (slVP (dC 32) a_2.f_Sig.f_Path)] 1 Tryz.isAgg24 Tryz.sizeOf24 q0 rfl rfl rfl) <| ov [2] (op_fieldAddr_lbm (p := (b1 1)) (n := 32) 0 33 Tryz.underlying34 rfl Tryz.sizeOf24 (by decide) q0 rfl) <| ov [500, 5] (op_load_lb [one (intVP .u32 a_2.f_Home), bytesCk 32 a_2.f_Old] [bytesCk 32 a_2.f_New] [one (intVP .i64 a_2.f_Sig.f_Index), one (slVP (dC 32) a_2.f_Sig.f_Parts), one (slVP (dC 32) a_2.f_Sig.f_Others), one (slVP (dC 32) a_2.f_Sig.f_Path)] 1 Tryz.isAgg24 Tryz.sizeOf24 q0 rfl rfl rfl) <| oc [506, 504, 502, 500] [3] Tryz.call80 (update_Claim_ok hr3) ⟨q0, q1, q2, q3, trivial⟩ <| ov [2] (op_fieldAddr_lbm (p := (b1 1)) (n := 4) 0 65 Tryz.underlying34 rfl Tryz.sizeOf32 (by decide) q0 rfl) <| ov [500, 5] (op_load_lb [one (intVP .u32 a_2.f_Home), bytesCk 32 a_2.f_Old, bytesCk 32 a_2.f_New] [one (intVP .i64 a_2.f_Sig.f_Index), one (slVP (dC 32) a_2.f_Sig.f_Parts), one (slVP (dC 32) a_2.f_Sig.f_Others), one (slVP (dC 32) a_2.f_Sig.f_Path)] [] 1 Tryz.isAgg32 Tryz.sizeOf32 q0 rfl rfl rfl) <| oc [512, 511, 503, 500] [502] Tryz.call61 (keys_Verify_ok hr4) ⟨q0, q1, q2, q3, trivial⟩ <| ov [501] (op_assign q0) .nil) fun _ a w h => ?_
  refine wp_ret ?_
  obtain rfl := Option.some.inj hF
  exact ⟨.inl rfl, ret1 h Tryz.results55 (r_tmp 0 rfl) [1] [(Log_e p_0 r4.2)] rfl rfl rfl⟩

def replica_trusted (L_0 : Option O_Log) (a_1 : S_api_Replica) (a_2 : S_api_Update) : Option (Int × (Option O_Log)) := ((replica_open a_1).bind fun r3 => (if (!decide (r3 = (0 : Int))) = true then some (r3, L_0) else (if (!decide (a_2.f_Home = a_1.f_Chain)) = true then some (38, L_0) else (if (!decide (a_2.f_Old = a_1.f_Committed)) = true then some (32, L_0) else ((update_Right L_0 a_1.f_Updater a_2).bind fun r7 => (if (!r7.1) = true then some (21, r7.2) else some (0, r7.2)))))))
theorem replica_trusted_ok {p_0 : Value} {L_0 : Option O_Log} {a_1 : S_api_Replica} {a_2 : S_api_Update} {r : Int × (Option O_Log)} (hF : replica_trusted L_0 a_1 a_2 = some r) : CallOk Tryz.prog KG 30 [(eqVP p_0), (aggVP [one (intVP .u32 a_1.f_Chain), one (intVP .u32 a_1.f_Here), bytesCk 32 a_1.f_Updater, one (slVP (dC 32) a_1.f_Watchers), one (intVP .u64 a_1.f_Window), bytesCk 32 a_1.f_Committed, one (slVP S_api_Timed.ck a_1.f_Roots), one (slVP S_api_State.ck a_1.f_States), one (boolVP a_1.f_Failed), one (boolVP a_1.f_Cut)]), (aggVP [one (intVP .u32 a_2.f_Home), bytesCk 32 a_2.f_Old, bytesCk 32 a_2.f_New, one (intVP .i64 a_2.f_Sig.f_Index), one (slVP (dC 32) a_2.f_Sig.f_Parts), one (slVP (dC 32) a_2.f_Sig.f_Others), one (slVP (dC 32) a_2.f_Sig.f_Path)])] [(Log_e p_0 L_0)] (fun _ => [Log_e p_0 r.2]) (intVP .i64 r.1) := by
  refine CallOk.intro 32 Tryz.func30 rfl Tryz.ntmps30 (Nat.le_of_ble_eq_true rfl) ?_
  intro c a w hG hn h
  unfold replica_trusted at hF
  change SatL c [.slot 0 (eqVP p_0), .slot 1 (aggVP [one (intVP .u32 a_1.f_Chain), one (intVP .u32 a_1.f_Here), bytesCk 32 a_1.f_Updater, one (slVP (dC 32) a_1.f_Watchers), one (intVP .u64 a_1.f_Window), bytesCk 32 a_1.f_Committed, one (slVP S_api_Timed.ck a_1.f_Roots), one (slVP S_api_State.ck a_1.f_States), one (boolVP a_1.f_Failed), one (boolVP a_1.f_Cut)]), .slot 2 (aggVP [one (intVP .u32 a_2.f_Home), bytesCk 32 a_2.f_Old, bytesCk 32 a_2.f_New, one (intVP .i64 a_2.f_Sig.f_Index), one (slVP (dC 32) a_2.f_Sig.f_Parts), one (slVP (dC 32) a_2.f_Sig.f_Others), one (slVP (dC 32) a_2.f_Sig.f_Path)]), .res (Log_e p_0 L_0)] a w at h
  refine regS mixed hn hG h [0, 504, 502, 3, 503, 501] (ob [1] (op_box q0 (cells_agg _)) <| ob [2] (op_box q0 (cells_agg _)) <| ov [] (op_assign qi) .nil) fun b1 a w h => ?_
  refine wp_seq ?_
  obtain ⟨r3, hr3, hF⟩ := bind_some hF
  refine regS mixed hn hG h [0, 1, 2, 500, 3, 4, 5] (ov [1, 4] (op_load_w 1 Tryz.isAgg30 Tryz.sizeOf30 q0) <| oc [500] [] Tryz.call52 (replica_open_ok hr3) ⟨q0, trivial⟩ <| ov [500] (op_assign q0) .nil) fun _ a w h => ?_
  refine regS mixed hn hG h [0, 1, 2, 3, 500, 4, 5, 6] (ov [3] (op_move q0) <| ov [500] (op_bin bin_neq q0 qi) .nil) fun _ a w h => ?_
  refine cnd h hF 4 [3, 5] [0, 1, 2, 5, 6, 7] (fun hb4 hF h => ?_) (fun hb4 hF h => ?_)
  · refine regS mixed hn hG h [500, 1] (ov [0] (op_move q0) <| ov [500] (op_assign q0) .nil) fun _ a w h => ?_
    refine wp_ret ?_
    obtain rfl := Option.some.inj hF
    exact ⟨.inl rfl, ret1 h Tryz.results30 (r_tmp 0 rfl) [1] [(Log_e p_0 L_0)] rfl rfl rfl⟩
  · refine wp_skip ?_
    show Code.wp Tryz.prog _ _ a w
    refine wp_seq ?_
    refine wp_block ?_
    refine regS mixed hn hG h [0, 1, 2, 500, 3, 4, 5] (ov [2] (op_fieldAddr_lbm (p := (b1 1)) (n := 1) 0 0 Tryz.underlying34 rfl Tryz.sizeOf22 (by decide) q0 rfl) <| ov [500, 5] (op_load_lb1 [] [bytesCk 32 a_2.f_Old, bytesCk 32 a_2.f_New, one (intVP .i64 a_2.f_Sig.f_Index), one (slVP (dC 32) a_2.f_Sig.f_Parts), one (slVP (dC 32) a_2.f_Sig.f_Others), one (slVP (dC 32) a_2.f_Sig.f_Path)] 1 Tryz.isAgg22 q0 rfl rfl) <| ov [1] (op_fieldAddr_lbm (p := (b1 0)) (n := 1) 0 0 Tryz.underlying30 rfl Tryz.sizeOf22 (by decide) q0 rfl) <| ov [500, 4] (op_load_lb1 [] [one (intVP .u32 a_1.f_Here), bytesCk 32 a_1.f_Updater, one (slVP (dC 32) a_1.f_Watchers), one (intVP .u64 a_1.f_Window), bytesCk 32 a_1.f_Committed, one (slVP S_api_Timed.ck a_1.f_Roots), one (slVP S_api_State.ck a_1.f_States), one (boolVP a_1.f_Failed), one (boolVP a_1.f_Cut)] 1 Tryz.isAgg22 q0 rfl rfl) <| ov [502, 500] (op_bin bin_neq q0 q1) <| ov [500] (op_assign q0) .nil) fun _ a w h => ?_
    refine cnd h hF 3 [4] [0, 1, 2, 4, 5, 6] (fun hb5 hF h => ?_) (fun hb5 hF h => ?_)
    · refine regS mixed hn hG h [500, 0] (ov [] (op_assign qi) .nil) fun _ a w h => ?_
      refine wp_ret ?_
      obtain rfl := Option.some.inj hF
      exact ⟨.inl rfl, ret1 h Tryz.results30 (r_tmp 0 rfl) [1] [(Log_e p_0 L_0)] rfl rfl rfl⟩
    · refine regS mixed hn hG h [0, 1, 2, 500, 3, 4, 5] (ov [2] (op_fieldAddr_lbm (p := (b1 1)) (n := 32) 0 1 Tryz.underlying34 rfl Tryz.sizeOf24 (by decide) q0 rfl) <| ov [500, 5] (op_load_lb [one (intVP .u32 a_2.f_Home)] [bytesCk 32 a_2.f_Old] [bytesCk 32 a_2.f_New, one (intVP .i64 a_2.f_Sig.f_Index), one (slVP (dC 32) a_2.f_Sig.f_Parts), one (slVP (dC 32) a_2.f_Sig.f_Others), one (slVP (dC 32) a_2.f_Sig.f_Path)] 1 Tryz.isAgg24 Tryz.sizeOf24 q0 rfl rfl rfl) <| ov [1] (op_fieldAddr_lbm (p := (b1 0)) (n := 32) 0 36 Tryz.underlying30 rfl Tryz.sizeOf24 (by decide) q0 rfl) <| ov [500, 4] (op_load_lb [one (intVP .u32 a_1.f_Chain), one (intVP .u32 a_1.f_Here), bytesCk 32 a_1.f_Updater, one (slVP (dC 32) a_1.f_Watchers), one (intVP .u64 a_1.f_Window)] [bytesCk 32 a_1.f_Committed] [one (slVP S_api_Timed.ck a_1.f_Roots), one (slVP S_api_State.ck a_1.f_States), one (boolVP a_1.f_Failed), one (boolVP a_1.f_Cut)] 1 Tryz.isAgg24 Tryz.sizeOf24 q0 rfl rfl rfl) <| ov [502, 500] (op_bin (bin_aneq Tryz.underlying24 Tryz.underlying5 Tryz.type5 Tryz.sizeOf5 Tryz.isAgg5 Tryz.eqGuardType24) q0 q1) <| ov [500] (op_assign q0) .nil) fun _ a w h => ?_
      refine cnd h hF 3 [4] [0, 1, 2, 4, 5, 6] (fun hb6 hF h => ?_) (fun hb6 hF h => ?_)
      · refine regS mixed hn hG h [500, 0] (ov [] (op_assign qi) .nil) fun _ a w h => ?_
        refine wp_ret ?_
        obtain rfl := Option.some.inj hF
        exact ⟨.inl rfl, ret1 h Tryz.results30 (r_tmp 0 rfl) [1] [(Log_e p_0 L_0)] rfl rfl rfl⟩
      · obtain ⟨r7, hr7, hF⟩ := bind_some hF
        refine regS mixed hn hG h [500, 502] (ov [0] (op_move q0) <| ov [1] (op_fieldAddr_lbm (p := (b1 0)) (n := 32) 0 2 Tryz.underlying30 rfl Tryz.sizeOf24 (by decide) q0 rfl) <| ov [500, 4] (op_load_lb [one (intVP .u32 a_1.f_Chain), one (intVP .u32 a_1.f_Here)] [bytesCk 32 a_1.f_Updater] [one (slVP (dC 32) a_1.f_Watchers), one (intVP .u64 a_1.f_Window), bytesCk 32 a_1.f_Committed, one (slVP S_api_Timed.ck a_1.f_Roots), one (slVP S_api_State.ck a_1.f_States), one (boolVP a_1.f_Failed), one (boolVP a_1.f_Cut)] 1 Tryz.isAgg24 Tryz.sizeOf24 q0 rfl rfl rfl) <| ov [2, 5] (op_load_w 1 Tryz.isAgg34 Tryz.sizeOf34 q0) <| oc [503, 501, 500] [3] Tryz.call55 (update_Right_ok hr7) ⟨q0, q1, q2, trivial⟩ <| ov [501] (op_un (un_not _) q0) <| ov [500] (op_assign q0) .nil) fun _ a w h => ?_
        refine cnd h hF 0 [1] [1] (fun hb8 hF h => ?_) (fun hb8 hF h => ?_)
        · refine regS mixed hn hG h [500, 0] (ov [] (op_assign qi) .nil) fun _ a w h => ?_
          refine wp_ret ?_
          obtain rfl := Option.some.inj hF
          exact ⟨.inl rfl, ret1 h Tryz.results30 (r_tmp 0 rfl) [1] [(Log_e p_0 r7.2)] rfl rfl rfl⟩
        · refine wp_skip ?_
          show Code.wp Tryz.prog _ _ a w
          refine regS mixed hn hG h [500, 0] (ov [] (op_assign qi) .nil) fun _ a w h => ?_
          refine wp_ret ?_
          obtain rfl := Option.some.inj hF
          exact ⟨.inl rfl, ret1 h Tryz.results30 (r_tmp 0 rfl) [1] [(Log_e p_0 r7.2)] rfl rfl rfl⟩

def amount_Add (a_0 : Int) (a_1 : Int) : Option (Int × Int) := (if (decide (((a_0 + a_1 + 0) / 18446744073709551616) = (0 : Int))) = true then some ((a_0 + a_1 + 0) % 18446744073709551616, 0) else some (0, 10))
theorem amount_Add_ok {a_0 : Int} {a_1 : Int} {r : Int × Int} (hF : amount_Add a_0 a_1 = some r) : CallOk Tryz.prog KG 32 [(intVP .u64 a_0), (intVP .u64 a_1)] [] (fun _ => []) (tupVP [(intVP .u64 r.1), (intVP .i64 r.2)]) := by
  refine CallOk.intro 17 Tryz.func32 rfl Tryz.ntmps32 (Nat.le_of_ble_eq_true rfl) ?_
  intro c a w hG hn h
  unfold amount_Add at hF
  change SatL c [.slot 0 (intVP .u64 a_0), .slot 1 (intVP .u64 a_1)] a w at h
  refine regS mixed hn hG h [0, 1] (ov [] (op_assign qi) <| ov [] (op_assign qi) .nil) fun _ a w h => ?_
  refine wp_seq ?_
  refine regS mixed hn hG h [501, 500] (ov [0] (op_move q0) <| ov [1] (op_move q0) <| ov [501, 500] (op_add64 add64_run q0 q1 qi (by decide)) <| ov [500] (op_move q0) <| ov [500] (op_extract q0 rfl) <| ov [501] (op_extract q0 rfl) <| ov [501] (op_assign q0) <| ov [501] (op_assign q0) .nil) fun _ a w h => ?_
  refine regS mixed hn hG h [0, 500] (ov [1] (op_move q0) <| ov [500] (op_bin bin_eql q0 qi) .nil) fun _ a w h => ?_
  refine cnd h hF 1 [0] [] (fun hb1 hF h => ?_) (fun hb1 hF h => ?_)
  · refine regS mixed hn hG h [501, 500] (ov [0] (op_move q0) <| ov [500] (op_assign q0) <| ov [] (op_assign qi) .nil) fun _ a w h => ?_
    refine wp_ret ?_
    obtain rfl := Option.some.inj hF
    exact ⟨.inl rfl, retn h (rs := [.tmp 4, .tmp 5]) (Vs := [(intVP .u64 ((a_0 + a_1 + 0) % 18446744073709551616)), (intVP .i64 0)]) Tryz.results32 (by decide) ⟨(r_tmp 0 rfl), (r_tmp 1 rfl), trivial⟩ [] [] rfl rfl rfl⟩
  · refine wp_skip ?_
    show Code.wp Tryz.prog _ _ a w
    refine regS mixed hn hG h [501, 500] (ov [] (op_assign qi) <| ov [] (op_assign qi) .nil) fun _ a w h => ?_
    refine wp_ret ?_
    obtain rfl := Option.some.inj hF
    exact ⟨.inl rfl, retn h (rs := [.tmp 4, .tmp 5]) (Vs := [(intVP .u64 0), (intVP .i64 10)]) Tryz.results32 (by decide) ⟨(r_tmp 0 rfl), (r_tmp 1 rfl), trivial⟩ [] [] rfl rfl rfl⟩

def replica_Accept.j2 (a_3 : S_api_Update) (r4 : Int × (Option O_Log)) (x16 : S_api_Replica) : Option (S_api_Replica × Int × (Option O_Log)) := some ((S_api_Replica.mk x16.f_Chain x16.f_Here x16.f_Updater x16.f_Watchers x16.f_Window a_3.f_New x16.f_Roots x16.f_States x16.f_Failed x16.f_Cut), 0, r4.2)
def replica_Accept.j1 (a_1 : S_api_Replica) (a_2 : Int) (a_3 : S_api_Update) (r4 : Int × (Option O_Log)) (r6 : Int) (x7 : Bool) : Option (S_api_Replica × Int × (Option O_Log)) := (if x7 = true then some (a_1, 6, r4.2) else ((amount_Add a_2 a_1.f_Window).bind fun r9 => (if (!decide (r9.2 = (0 : Int))) = true then some (a_1, r9.2, r4.2) else ((slices_Clone_api_Timed a_1.f_Roots).bind fun r11 => (if (decide ((0 : Int) ≤ r6)) = true then (if (0 : Int) ≤ r6 ∧ r6 < r11.length then replica_Accept.j2 a_3 r4 (S_api_Replica.mk a_1.f_Chain a_1.f_Here a_1.f_Updater a_1.f_Watchers a_1.f_Window a_1.f_Committed (r11.set r6.toNat (S_api_Timed.mk ((r11.getD r6.toNat default).f_Root) r9.1)) a_1.f_States a_1.f_Failed a_1.f_Cut) else none) else (if r11.length + [(S_api_Timed.mk a_3.f_New r9.1)].length ≤ mxl ∧ (r11.length + [(S_api_Timed.mk a_3.f_New r9.1)].length) * 40 ≤ 140737488355328 then replica_Accept.j2 a_3 r4 (S_api_Replica.mk a_1.f_Chain a_1.f_Here a_1.f_Updater a_1.f_Watchers a_1.f_Window a_1.f_Committed (r11 ++ [(S_api_Timed.mk a_3.f_New r9.1)]) a_1.f_States a_1.f_Failed a_1.f_Cut) else none))))))
def replica_Accept (L_0 : Option O_Log) (a_1 : S_api_Replica) (a_2 : Int) (a_3 : S_api_Update) : Option (S_api_Replica × Int × (Option O_Log)) := ((replica_trusted L_0 a_1 a_3).bind fun r4 => (if (!decide (r4.1 = (0 : Int))) = true then some (a_1, r4.1, r4.2) else ((replica_root a_1 a_3.f_New).bind fun r6 => (if (decide (r6 < (0 : Int))) = true then replica_Accept.j1 a_1 a_2 a_3 r4 r6 (decide ((256 : Int) ≤ (a_1.f_Roots.length : Int))) else replica_Accept.j1 a_1 a_2 a_3 r4 r6 false))))
theorem replica_Accept_ok {p_0 : Value} {L_0 : Option O_Log} {a_1 : S_api_Replica} {a_2 : Int} {a_3 : S_api_Update} {r : S_api_Replica × Int × (Option O_Log)} (hF : replica_Accept L_0 a_1 a_2 a_3 = some r) : CallOk Tryz.prog KG 9 [(eqVP p_0), (aggVP [one (intVP .u32 a_1.f_Chain), one (intVP .u32 a_1.f_Here), bytesCk 32 a_1.f_Updater, one (slVP (dC 32) a_1.f_Watchers), one (intVP .u64 a_1.f_Window), bytesCk 32 a_1.f_Committed, one (slVP S_api_Timed.ck a_1.f_Roots), one (slVP S_api_State.ck a_1.f_States), one (boolVP a_1.f_Failed), one (boolVP a_1.f_Cut)]), (intVP .u64 a_2), (aggVP [one (intVP .u32 a_3.f_Home), bytesCk 32 a_3.f_Old, bytesCk 32 a_3.f_New, one (intVP .i64 a_3.f_Sig.f_Index), one (slVP (dC 32) a_3.f_Sig.f_Parts), one (slVP (dC 32) a_3.f_Sig.f_Others), one (slVP (dC 32) a_3.f_Sig.f_Path)])] [(Log_e p_0 L_0)] (fun _ => [Log_e p_0 r.2.2]) (tupVP [(aggVP [one (intVP .u32 r.1.f_Chain), one (intVP .u32 r.1.f_Here), bytesCk 32 r.1.f_Updater, one (slVP (dC 32) r.1.f_Watchers), one (intVP .u64 r.1.f_Window), bytesCk 32 r.1.f_Committed, one (slVP S_api_Timed.ck r.1.f_Roots), one (slVP S_api_State.ck r.1.f_States), one (boolVP r.1.f_Failed), one (boolVP r.1.f_Cut)]), (intVP .i64 r.2.1)]) := by
  refine CallOk.intro 71 Tryz.func9 rfl Tryz.ntmps9 (Nat.le_of_ble_eq_true rfl) ?_
  intro c a w hG hn h
  unfold replica_Accept at hF
  change SatL c [.slot 0 (eqVP p_0), .slot 1 (aggVP [one (intVP .u32 a_1.f_Chain), one (intVP .u32 a_1.f_Here), bytesCk 32 a_1.f_Updater, one (slVP (dC 32) a_1.f_Watchers), one (intVP .u64 a_1.f_Window), bytesCk 32 a_1.f_Committed, one (slVP S_api_Timed.ck a_1.f_Roots), one (slVP S_api_State.ck a_1.f_States), one (boolVP a_1.f_Failed), one (boolVP a_1.f_Cut)]), .slot 2 (intVP .u64 a_2), .slot 3 (aggVP [one (intVP .u32 a_3.f_Home), bytesCk 32 a_3.f_Old, bytesCk 32 a_3.f_New, one (intVP .i64 a_3.f_Sig.f_Index), one (slVP (dC 32) a_3.f_Sig.f_Parts), one (slVP (dC 32) a_3.f_Sig.f_Others), one (slVP (dC 32) a_3.f_Sig.f_Path)]), .res (Log_e p_0 L_0)] a w at h
  refine regS mixed hn hG h [0, 2, 506, 504, 502, 4, 505, 503, 501] (ob [1] (op_box q0 (cells_agg _)) <| ob [3] (op_box q0 (cells_agg _)) <| ob [] (op_alloc Tryz.zeroValue30 z30) <| ov [] (op_assign qi) .nil) fun b1 a w h => ?_
  refine wp_seq ?_
  obtain ⟨r4, hr4, hF⟩ := bind_some hF
  refine regS mixed hn hG h [1, 2, 3, 4, 500, 6, 7, 8, 501] (ov [0] (op_move q0) <| ov [2, 6] (op_load_w 1 Tryz.isAgg30 Tryz.sizeOf30 q0) <| ov [3, 7] (op_load_w 1 Tryz.isAgg34 Tryz.sizeOf34 q0) <| oc [502, 501, 500] [5] Tryz.call30 (replica_trusted_ok hr4) ⟨q0, q1, q2, trivial⟩ <| ov [501] (op_assign q0) .nil) fun _ a w h => ?_
  refine regS mixed hn hG h [0, 1, 2, 3, 4, 500, 5, 6, 7, 8] (ov [4] (op_move q0) <| ov [500] (op_bin bin_neq q0 qi) .nil) fun _ a w h => ?_
  refine cnd h hF 5 [1, 3, 4, 6, 8, 9] [0, 1, 2, 3, 6, 7, 8, 9] (fun hb5 hF h => ?_) (fun hb5 hF h => ?_)
  · refine regS mixed hn hG h [1, 500, 501, 5] (ov [0, 3] (op_load_w 1 Tryz.isAgg30 Tryz.sizeOf30 q0) <| ov [2] (op_move q0) <| ou [1, 501] 4 (op_store_w Tryz.sizeOf30 q0 q1 (cells_agg _)) <| ov [501] (op_assign q0) .nil) fun _ a w h => ?_
    refine wp_ret ?_
    obtain rfl := Option.some.inj hF
    exact ⟨.inl rfl, retn h (rs := [.cell 8 30, .tmp 9]) (Vs := [(aggVP [one (intVP .u32 a_1.f_Chain), one (intVP .u32 a_1.f_Here), bytesCk 32 a_1.f_Updater, one (slVP (dC 32) a_1.f_Watchers), one (intVP .u64 a_1.f_Window), bytesCk 32 a_1.f_Committed, one (slVP S_api_Timed.ck a_1.f_Roots), one (slVP S_api_State.ck a_1.f_States), one (boolVP a_1.f_Failed), one (boolVP a_1.f_Cut)]), (intVP .i64 r4.1)]) Tryz.results9 (by decide) ⟨(r_cell 0 2 rfl rfl Tryz.isAgg30 Tryz.sizeOf30 rfl), (r_tmp 1 rfl), trivial⟩ [3] [(Log_e p_0 r4.2)] rfl rfl rfl⟩
  · refine wp_skip ?_
    show Code.wp Tryz.prog _ _ a w
    obtain ⟨r6, hr6, hF⟩ := bind_some hF
    refine regS mixed hn hG h [0, 1, 2, 3, 500, 4, 5, 6, 7] (ov [1, 4] (op_load_w 1 Tryz.isAgg30 Tryz.sizeOf30 q0) <| ov [2] (op_fieldAddr_lbm (p := (b1 1)) (n := 32) 0 33 Tryz.underlying34 rfl Tryz.sizeOf24 (by decide) q0 rfl) <| ov [500, 5] (op_load_lb [one (intVP .u32 a_3.f_Home), bytesCk 32 a_3.f_Old] [bytesCk 32 a_3.f_New] [one (intVP .i64 a_3.f_Sig.f_Index), one (slVP (dC 32) a_3.f_Sig.f_Parts), one (slVP (dC 32) a_3.f_Sig.f_Others), one (slVP (dC 32) a_3.f_Sig.f_Path)] 1 Tryz.isAgg24 Tryz.sizeOf24 q0 rfl rfl rfl) <| oc [502, 500] [] Tryz.call31 (replica_root_ok hr6) ⟨q0, q1, trivial⟩ <| ov [500] (op_assign q0) .nil) fun _ a w h => ?_
    refine wp_seq ?_
    refine wp_seq ?_
    refine wp_cut (fun a w => ∃ (x7 : Bool), replica_Accept.j1 a_1 a_2 a_3 r4 r6 x7 = some r ∧ SatL c [.slot 2 (intVP .u64 a_2), .slot 5 (lpVP (b1 0) 0), .slot 7 (lpVP (b1 1) 0), .slot 8 (lpVP (b1 2) 0), .slot 11 (intVP .i64 r6), .slot 33 (boolVP x7), .res (lb (b1 0) 30 [one (intVP .u32 a_1.f_Chain), one (intVP .u32 a_1.f_Here), bytesCk 32 a_1.f_Updater, one (slVP (dC 32) a_1.f_Watchers), one (intVP .u64 a_1.f_Window), bytesCk 32 a_1.f_Committed, one (slVP S_api_Timed.ck a_1.f_Roots), one (slVP S_api_State.ck a_1.f_States), one (boolVP a_1.f_Failed), one (boolVP a_1.f_Cut)]), .res (lb (b1 1) 34 [one (intVP .u32 a_3.f_Home), bytesCk 32 a_3.f_Old, bytesCk 32 a_3.f_New, one (intVP .i64 a_3.f_Sig.f_Index), one (slVP (dC 32) a_3.f_Sig.f_Parts), one (slVP (dC 32) a_3.f_Sig.f_Others), one (slVP (dC 32) a_3.f_Sig.f_Path)]), .res (lb (b1 2) 30 [one (intVP .u32 ((S_api_Replica.mk (0 : Int) (0 : Int) (List.replicate 32 0) [] (0 : Int) (List.replicate 32 0) [] [] false false).f_Chain)), one (intVP .u32 ((S_api_Replica.mk (0 : Int) (0 : Int) (List.replicate 32 0) [] (0 : Int) (List.replicate 32 0) [] [] false false).f_Here)), bytesCk 32 ((S_api_Replica.mk (0 : Int) (0 : Int) (List.replicate 32 0) [] (0 : Int) (List.replicate 32 0) [] [] false false).f_Updater), one (slVP (dC 32) ((S_api_Replica.mk (0 : Int) (0 : Int) (List.replicate 32 0) [] (0 : Int) (List.replicate 32 0) [] [] false false).f_Watchers)), one (intVP .u64 ((S_api_Replica.mk (0 : Int) (0 : Int) (List.replicate 32 0) [] (0 : Int) (List.replicate 32 0) [] [] false false).f_Window)), bytesCk 32 ((S_api_Replica.mk (0 : Int) (0 : Int) (List.replicate 32 0) [] (0 : Int) (List.replicate 32 0) [] [] false false).f_Committed), one (slVP S_api_Timed.ck ((S_api_Replica.mk (0 : Int) (0 : Int) (List.replicate 32 0) [] (0 : Int) (List.replicate 32 0) [] [] false false).f_Roots)), one (slVP S_api_State.ck ((S_api_Replica.mk (0 : Int) (0 : Int) (List.replicate 32 0) [] (0 : Int) (List.replicate 32 0) [] [] false false).f_States)), one (boolVP ((S_api_Replica.mk (0 : Int) (0 : Int) (List.replicate 32 0) [] (0 : Int) (List.replicate 32 0) [] [] false false).f_Failed)), one (boolVP ((S_api_Replica.mk (0 : Int) (0 : Int) (List.replicate 32 0) [] (0 : Int) (List.replicate 32 0) [] [] false false).f_Cut))]), .res (Log_e p_0 r4.2)] a w) ?_ ?_
    · rcases Bool.eq_false_or_eq_true (decide (r6 < (0 : Int))) with hb21 | hb21
      · replace hF := tt_of hb21 hF
        refine reg mixed hn hG h [0, 1, 2, 3, 4, 500, 5, 6, 7, 8] (ov [4] (op_move q0) <| ov [500] (op_bin bin_lss q0 qi) <| ov [500] (op_move q0) <| oe [500, 1] [] (GOk.on_eq hb21 rfl rfl rfl (op_fieldAddr_lbm (p := (b1 0)) (n := 1) 0 68 Tryz.underlying30 rfl Tryz.sizeOf27 (by decide) q0 rfl)) <| oe [501, 500, 5] [] (GOk.on_eq hb21 rfl rfl rfl (op_load_lb1 [one (intVP .u32 a_1.f_Chain), one (intVP .u32 a_1.f_Here), bytesCk 32 a_1.f_Updater, one (slVP (dC 32) a_1.f_Watchers), one (intVP .u64 a_1.f_Window), bytesCk 32 a_1.f_Committed] [one (slVP S_api_State.ck a_1.f_States), one (boolVP a_1.f_Failed), one (boolVP a_1.f_Cut)] 1 Tryz.isAgg27 q0 rfl rfl)) <| oe [502, 500] [] (GOk.on_eq hb21 rfl rfl rfl (op_len_sl Tryz.underlying27 q0)) <| oe [503, 500] [] (GOk.on_eq hb21 rfl rfl rfl (op_bin bin_geq q0 qi)) <| ov [504, 500] (op_pick_t hb21 q0 q1) .nil) fun _ a w h => ?_
        exact ⟨decide ((256 : Int) ≤ (a_1.f_Roots.length : Int)), hF, h.sub [0, 1, 2, 3, 4, 5, 6, 7, 8, 9] (by rfl)⟩
      · replace hF := ff_of hb21 hF
        refine reg mixed hn hG h [0, 1, 2, 3, 4, 500, 5, 6, 7, 8] (ov [4] (op_move q0) <| ov [500] (op_bin bin_lss q0 qi) <| ov [500] (op_move q0) <| oe [500] [] (GOk.off_v (want := true) hb21 rfl rfl rfl rfl) <| oe [501] [] (GOk.off_v (want := true) hb21 rfl rfl rfl rfl) <| oe [502] [] (GOk.off_v (want := true) hb21 rfl rfl rfl rfl) <| oe [503] [] (GOk.off_v (want := true) hb21 rfl rfl rfl rfl) <| ov [504] (op_pick_f hb21 q0 qb) .nil) fun _ a w h => ?_
        exact ⟨false, hF, h.sub [0, 1, 2, 3, 4, 5, 6, 7, 8, 9] (by rfl)⟩
    · clear h hF
      rintro a w ⟨x7, hF, h⟩
      unfold replica_Accept.j1 at hF
      show Code.wp Tryz.prog _ _ a w
      refine cnd h hF 5 [1, 3, 6, 8, 9] [0, 1, 2, 3, 4, 6, 7, 8, 9] (fun hb8 hF h => ?_) (fun hb8 hF h => ?_)
      · refine regS mixed hn hG h [1, 500, 501, 4] (ov [0, 2] (op_load_w 1 Tryz.isAgg30 Tryz.sizeOf30 q0) <| ou [1, 500] 3 (op_store_w Tryz.sizeOf30 q0 q1 (cells_agg _)) <| ov [] (op_assign qi) .nil) fun _ a w h => ?_
        refine wp_ret ?_
        obtain rfl := Option.some.inj hF
        exact ⟨.inl rfl, retn h (rs := [.cell 8 30, .tmp 9]) (Vs := [(aggVP [one (intVP .u32 a_1.f_Chain), one (intVP .u32 a_1.f_Here), bytesCk 32 a_1.f_Updater, one (slVP (dC 32) a_1.f_Watchers), one (intVP .u64 a_1.f_Window), bytesCk 32 a_1.f_Committed, one (slVP S_api_Timed.ck a_1.f_Roots), one (slVP S_api_State.ck a_1.f_States), one (boolVP a_1.f_Failed), one (boolVP a_1.f_Cut)]), (intVP .i64 6)]) Tryz.results9 (by decide) ⟨(r_cell 0 2 rfl rfl Tryz.isAgg30 Tryz.sizeOf30 rfl), (r_tmp 1 rfl), trivial⟩ [3] [(Log_e p_0 r4.2)] rfl rfl rfl⟩
      · refine wp_skip ?_
        show Code.wp Tryz.prog _ _ a w
        obtain ⟨r9, hr9, hF⟩ := bind_some hF
        refine regS mixed hn hG h [1, 2, 3, 4, 501, 500, 5, 6, 7, 8] (ov [0] (op_move q0) <| ov [1] (op_fieldAddr_lbm (p := (b1 0)) (n := 1) 0 35 Tryz.underlying30 rfl Tryz.sizeOf26 (by decide) q0 rfl) <| ov [500, 5] (op_load_lb1 [one (intVP .u32 a_1.f_Chain), one (intVP .u32 a_1.f_Here), bytesCk 32 a_1.f_Updater, one (slVP (dC 32) a_1.f_Watchers)] [bytesCk 32 a_1.f_Committed, one (slVP S_api_Timed.ck a_1.f_Roots), one (slVP S_api_State.ck a_1.f_States), one (boolVP a_1.f_Failed), one (boolVP a_1.f_Cut)] 1 Tryz.isAgg26 q0 rfl rfl) <| oc [502, 500] [] Tryz.call32 (amount_Add_ok hr9) ⟨q0, q1, trivial⟩ <| ov [500] (op_move q0) <| ov [500] (op_extract q0 rfl) <| ov [501] (op_extract q0 rfl) <| ov [501] (op_assign q0) <| ov [501] (op_assign q0) .nil) fun _ a w h => ?_
        refine wp_seq ?_
        refine regS mixed hn hG h [0, 1, 2, 3, 4, 5, 500, 6, 7, 8, 9] (ov [5] (op_move q0) <| ov [500] (op_bin bin_neq q0 qi) .nil) fun _ a w h => ?_
        refine cnd h hF 6 [0, 2, 5, 7, 9, 10] [0, 1, 2, 3, 4, 7, 8, 9, 10] (fun hb10 hF h => ?_) (fun hb10 hF h => ?_)
        · refine regS mixed hn hG h [1, 500, 501, 5] (ov [0, 3] (op_load_w 1 Tryz.isAgg30 Tryz.sizeOf30 q0) <| ov [2] (op_move q0) <| ou [1, 501] 4 (op_store_w Tryz.sizeOf30 q0 q1 (cells_agg _)) <| ov [501] (op_assign q0) .nil) fun _ a w h => ?_
          refine wp_ret ?_
          obtain rfl := Option.some.inj hF
          exact ⟨.inl rfl, retn h (rs := [.cell 8 30, .tmp 9]) (Vs := [(aggVP [one (intVP .u32 a_1.f_Chain), one (intVP .u32 a_1.f_Here), bytesCk 32 a_1.f_Updater, one (slVP (dC 32) a_1.f_Watchers), one (intVP .u64 a_1.f_Window), bytesCk 32 a_1.f_Committed, one (slVP S_api_Timed.ck a_1.f_Roots), one (slVP S_api_State.ck a_1.f_States), one (boolVP a_1.f_Failed), one (boolVP a_1.f_Cut)]), (intVP .i64 r9.2)]) Tryz.results9 (by decide) ⟨(r_cell 0 2 rfl rfl Tryz.isAgg30 Tryz.sizeOf30 rfl), (r_tmp 1 rfl), trivial⟩ [3] [(Log_e p_0 r4.2)] rfl rfl rfl⟩
        · refine wp_skip ?_
          show Code.wp Tryz.prog _ _ a w
          obtain ⟨r11, hr11, hF⟩ := bind_some hF
          refine regS mixed hn hG h [0, 1, 2, 3, 4, 500, 6, 7, 8, 502] (ov [0] (op_fieldAddr_lbm (p := (b1 0)) (n := 1) 0 68 Tryz.underlying30 rfl Tryz.sizeOf27 (by decide) q0 rfl) <| ov [500, 5] (op_load_lb1 [one (intVP .u32 a_1.f_Chain), one (intVP .u32 a_1.f_Here), bytesCk 32 a_1.f_Updater, one (slVP (dC 32) a_1.f_Watchers), one (intVP .u64 a_1.f_Window), bytesCk 32 a_1.f_Committed] [one (slVP S_api_State.ck a_1.f_States), one (boolVP a_1.f_Failed), one (boolVP a_1.f_Cut)] 1 Tryz.isAgg27 q0 rfl rfl) <| og [500] [] [.slot 48 2 100000 (fun v1_ _ => (eqVP v1_)), .res 2 100000 (fun v1_ _ => (own (v1_) 62 33 S_api_Timed.ck r11))] (GOk.plain (op_callv Tryz.call28 (slices_Clone_api_Timed_own hr11) ⟨q0, trivial⟩) rfl) <| ov [0] (op_fieldAddr_lbm (p := (b1 0)) (n := 1) 0 68 Tryz.underlying30 rfl Tryz.sizeOf27 (by decide) q0 rfl) <| og [500, 502, 501] [5] [.res 2 100000 (fun v1_ _ => (lb (b1 0) 30 [one (intVP .u32 a_1.f_Chain), one (intVP .u32 a_1.f_Here), bytesCk 32 a_1.f_Updater, one (slVP (dC 32) a_1.f_Watchers), one (intVP .u64 a_1.f_Window), bytesCk 32 a_1.f_Committed, one (eqVP (v1_)), one (slVP S_api_State.ck a_1.f_States), one (boolVP a_1.f_Failed), one (boolVP a_1.f_Cut)]))] (fun {β} => (GOk.plain (op_store_lb [one (intVP .u32 a_1.f_Chain), one (intVP .u32 a_1.f_Here), bytesCk 32 a_1.f_Updater, one (slVP (dC 32) a_1.f_Watchers), one (intVP .u64 a_1.f_Window), bytesCk 32 a_1.f_Committed] [one (slVP S_api_Timed.ck a_1.f_Roots)] [one (slVP S_api_State.ck a_1.f_States), one (boolVP a_1.f_Failed), one (boolVP a_1.f_Cut)] [one (eqVP ((β 2)))] Tryz.sizeOf27 q0 (opone 1 2 rfl rfl own_one) (cells_h _) rfl rfl rfl) rfl)) .nil) fun b12 a w h => ?_
          refine wp_seq ?_
          refine regS mixed hn hG h [0, 1, 2, 3, 4, 500, 5, 6, 7, 8, 9] (ov [3] (op_move q0) <| ov [500] (op_bin bin_geq q0 qi) .nil) fun _ a w h => ?_
          refine wp_cut (fun a w => ∃ (x16 : S_api_Replica), replica_Accept.j2 a_3 r4 x16 = some r ∧ SatL c [.slot 5 (lpVP (b1 0) 0), .slot 7 (lpVP (b1 1) 0), .slot 8 (lpVP (b1 2) 0), .res (lb (b1 0) 30 [one (intVP .u32 x16.f_Chain), one (intVP .u32 x16.f_Here), bytesCk 32 x16.f_Updater, one (slVP (dC 32) x16.f_Watchers), one (intVP .u64 x16.f_Window), bytesCk 32 x16.f_Committed, one (slVP S_api_Timed.ck x16.f_Roots), one (slVP S_api_State.ck x16.f_States), one (boolVP x16.f_Failed), one (boolVP x16.f_Cut)]), .res (lb (b1 1) 34 [one (intVP .u32 a_3.f_Home), bytesCk 32 a_3.f_Old, bytesCk 32 a_3.f_New, one (intVP .i64 a_3.f_Sig.f_Index), one (slVP (dC 32) a_3.f_Sig.f_Parts), one (slVP (dC 32) a_3.f_Sig.f_Others), one (slVP (dC 32) a_3.f_Sig.f_Path)]), .res (lb (b1 2) 30 [one (intVP .u32 ((S_api_Replica.mk (0 : Int) (0 : Int) (List.replicate 32 0) [] (0 : Int) (List.replicate 32 0) [] [] false false).f_Chain)), one (intVP .u32 ((S_api_Replica.mk (0 : Int) (0 : Int) (List.replicate 32 0) [] (0 : Int) (List.replicate 32 0) [] [] false false).f_Here)), bytesCk 32 ((S_api_Replica.mk (0 : Int) (0 : Int) (List.replicate 32 0) [] (0 : Int) (List.replicate 32 0) [] [] false false).f_Updater), one (slVP (dC 32) ((S_api_Replica.mk (0 : Int) (0 : Int) (List.replicate 32 0) [] (0 : Int) (List.replicate 32 0) [] [] false false).f_Watchers)), one (intVP .u64 ((S_api_Replica.mk (0 : Int) (0 : Int) (List.replicate 32 0) [] (0 : Int) (List.replicate 32 0) [] [] false false).f_Window)), bytesCk 32 ((S_api_Replica.mk (0 : Int) (0 : Int) (List.replicate 32 0) [] (0 : Int) (List.replicate 32 0) [] [] false false).f_Committed), one (slVP S_api_Timed.ck ((S_api_Replica.mk (0 : Int) (0 : Int) (List.replicate 32 0) [] (0 : Int) (List.replicate 32 0) [] [] false false).f_Roots)), one (slVP S_api_State.ck ((S_api_Replica.mk (0 : Int) (0 : Int) (List.replicate 32 0) [] (0 : Int) (List.replicate 32 0) [] [] false false).f_States)), one (boolVP ((S_api_Replica.mk (0 : Int) (0 : Int) (List.replicate 32 0) [] (0 : Int) (List.replicate 32 0) [] [] false false).f_Failed)), one (boolVP ((S_api_Replica.mk (0 : Int) (0 : Int) (List.replicate 32 0) [] (0 : Int) (List.replicate 32 0) [] [] false false).f_Cut))]), .res (Log_e p_0 r4.2)] a w) ?_ ?_
          · refine cnd h hF 5 [0, 1, 2, 3, 4, 6, 7, 8, 9, 10] [0, 1, 2, 4, 6, 7, 8, 9, 10] (fun hb17 hF h => ?_) (fun hb17 hF h => ?_)
            · obtain ⟨hv18, hF⟩ := ite_some hF
              refine reg mixed hn hG h [0, 1, 2, 5, 6, 7, 8, 500] (ov [0] (op_fieldAddr_lbm (p := (b1 0)) (n := 1) 0 68 Tryz.underlying30 rfl Tryz.sizeOf27 (by decide) q0 rfl) <| ov [500, 5] (op_load_lb1 [one (intVP .u32 a_1.f_Chain), one (intVP .u32 a_1.f_Here), bytesCk 32 a_1.f_Updater, one (slVP (dC 32) a_1.f_Watchers), one (intVP .u64 a_1.f_Window), bytesCk 32 a_1.f_Committed] [one (slVP S_api_State.ck a_1.f_States), one (boolVP a_1.f_Failed), one (boolVP a_1.f_Cut)] 1 Tryz.isAgg27 q0 rfl rfl) <| ov [3] (op_move q0) <| ov [4] (op_move q0) <| ov [502, 9, 501] (op_indexAddr_own 0 1 Tryz.underlying27 Tryz.sizeOf62 rfl rfl q2 hv18) <| ov [500] (op_fieldAddr_own (n := 1) (r6.toNat * 33) (r6.toNat * 33 + 32) Tryz.underlying62 rfl Tryz.sizeOf26 (by decide) q0 rfl) <| ou [500, 502] 9 (op_store_own (i := r6) (c := S_api_Timed.ck) (z := (S_api_Timed.mk ((r11.getD r6.toNat default).f_Root) r9.1)) S_api_Timed.lens [bytesCk 32 ((r11.getD r6.toNat default).f_Root)] [one (intVP .u64 ((r11.getD r6.toNat default).f_At))] [] [one (intVP .u64 r9.1)] Tryz.sizeOf26 q0 q1 (cells_one (one_int _ _)) rfl rfl rfl rfl rfl hv18) .nil) fun _ a w h => ?_
              replace h := h.ownacc 7 rfl
              change SatL c [.slot 5 (lpVP (b1 0) 0), .slot 7 (lpVP (b1 1) 0), .slot 8 (lpVP (b1 2) 0), .res (lb (b1 0) 30 [one (intVP .u32 a_1.f_Chain), one (intVP .u32 a_1.f_Here), bytesCk 32 a_1.f_Updater, one (slVP (dC 32) a_1.f_Watchers), one (intVP .u64 a_1.f_Window), bytesCk 32 a_1.f_Committed, one (eqVP (b12 2)), one (slVP S_api_State.ck a_1.f_States), one (boolVP a_1.f_Failed), one (boolVP a_1.f_Cut)]), .res (lb (b1 1) 34 [one (intVP .u32 a_3.f_Home), bytesCk 32 a_3.f_Old, bytesCk 32 a_3.f_New, one (intVP .i64 a_3.f_Sig.f_Index), one (slVP (dC 32) a_3.f_Sig.f_Parts), one (slVP (dC 32) a_3.f_Sig.f_Others), one (slVP (dC 32) a_3.f_Sig.f_Path)]), .res (lb (b1 2) 30 [one (intVP .u32 ((S_api_Replica.mk (0 : Int) (0 : Int) (List.replicate 32 0) [] (0 : Int) (List.replicate 32 0) [] [] false false).f_Chain)), one (intVP .u32 ((S_api_Replica.mk (0 : Int) (0 : Int) (List.replicate 32 0) [] (0 : Int) (List.replicate 32 0) [] [] false false).f_Here)), bytesCk 32 ((S_api_Replica.mk (0 : Int) (0 : Int) (List.replicate 32 0) [] (0 : Int) (List.replicate 32 0) [] [] false false).f_Updater), one (slVP (dC 32) ((S_api_Replica.mk (0 : Int) (0 : Int) (List.replicate 32 0) [] (0 : Int) (List.replicate 32 0) [] [] false false).f_Watchers)), one (intVP .u64 ((S_api_Replica.mk (0 : Int) (0 : Int) (List.replicate 32 0) [] (0 : Int) (List.replicate 32 0) [] [] false false).f_Window)), bytesCk 32 ((S_api_Replica.mk (0 : Int) (0 : Int) (List.replicate 32 0) [] (0 : Int) (List.replicate 32 0) [] [] false false).f_Committed), one (slVP S_api_Timed.ck ((S_api_Replica.mk (0 : Int) (0 : Int) (List.replicate 32 0) [] (0 : Int) (List.replicate 32 0) [] [] false false).f_Roots)), one (slVP S_api_State.ck ((S_api_Replica.mk (0 : Int) (0 : Int) (List.replicate 32 0) [] (0 : Int) (List.replicate 32 0) [] [] false false).f_States)), one (boolVP ((S_api_Replica.mk (0 : Int) (0 : Int) (List.replicate 32 0) [] (0 : Int) (List.replicate 32 0) [] [] false false).f_Failed)), one (boolVP ((S_api_Replica.mk (0 : Int) (0 : Int) (List.replicate 32 0) [] (0 : Int) (List.replicate 32 0) [] [] false false).f_Cut))]), .res (Log_e p_0 r4.2), .res (acc (b12 2) 62 33 S_api_Timed.ck (r11.set r6.toNat (S_api_Timed.mk ((r11.getD r6.toNat default).f_Root) r9.1)))] a w at h
              replace h := h.unsep 3 7 rfl rfl (by decide)
              replace h := h.conv 3 rfl (settle (pre := [one (intVP .u32 a_1.f_Chain), one (intVP .u32 a_1.f_Here), bytesCk 32 a_1.f_Updater, one (slVP (dC 32) a_1.f_Watchers), one (intVP .u64 a_1.f_Window), bytesCk 32 a_1.f_Committed]) (post := [one (slVP S_api_State.ck a_1.f_States), one (boolVP a_1.f_Failed), one (boolVP a_1.f_Cut)]))
              replace h := h.sep 3 rfl
              replace h := h.sub [0, 1, 2, 3, 4, 5, 6] (by rfl)
              change SatL c [.slot 5 (lpVP (b1 0) 0), .slot 7 (lpVP (b1 1) 0), .slot 8 (lpVP (b1 2) 0), .res (lb (b1 0) 30 [one (intVP .u32 a_1.f_Chain), one (intVP .u32 a_1.f_Here), bytesCk 32 a_1.f_Updater, one (slVP (dC 32) a_1.f_Watchers), one (intVP .u64 a_1.f_Window), bytesCk 32 a_1.f_Committed, one (slVP S_api_Timed.ck (r11.set r6.toNat (S_api_Timed.mk ((r11.getD r6.toNat default).f_Root) r9.1))), one (slVP S_api_State.ck a_1.f_States), one (boolVP a_1.f_Failed), one (boolVP a_1.f_Cut)]), .res (lb (b1 1) 34 [one (intVP .u32 a_3.f_Home), bytesCk 32 a_3.f_Old, bytesCk 32 a_3.f_New, one (intVP .i64 a_3.f_Sig.f_Index), one (slVP (dC 32) a_3.f_Sig.f_Parts), one (slVP (dC 32) a_3.f_Sig.f_Others), one (slVP (dC 32) a_3.f_Sig.f_Path)]), .res (lb (b1 2) 30 [one (intVP .u32 ((S_api_Replica.mk (0 : Int) (0 : Int) (List.replicate 32 0) [] (0 : Int) (List.replicate 32 0) [] [] false false).f_Chain)), one (intVP .u32 ((S_api_Replica.mk (0 : Int) (0 : Int) (List.replicate 32 0) [] (0 : Int) (List.replicate 32 0) [] [] false false).f_Here)), bytesCk 32 ((S_api_Replica.mk (0 : Int) (0 : Int) (List.replicate 32 0) [] (0 : Int) (List.replicate 32 0) [] [] false false).f_Updater), one (slVP (dC 32) ((S_api_Replica.mk (0 : Int) (0 : Int) (List.replicate 32 0) [] (0 : Int) (List.replicate 32 0) [] [] false false).f_Watchers)), one (intVP .u64 ((S_api_Replica.mk (0 : Int) (0 : Int) (List.replicate 32 0) [] (0 : Int) (List.replicate 32 0) [] [] false false).f_Window)), bytesCk 32 ((S_api_Replica.mk (0 : Int) (0 : Int) (List.replicate 32 0) [] (0 : Int) (List.replicate 32 0) [] [] false false).f_Committed), one (slVP S_api_Timed.ck ((S_api_Replica.mk (0 : Int) (0 : Int) (List.replicate 32 0) [] (0 : Int) (List.replicate 32 0) [] [] false false).f_Roots)), one (slVP S_api_State.ck ((S_api_Replica.mk (0 : Int) (0 : Int) (List.replicate 32 0) [] (0 : Int) (List.replicate 32 0) [] [] false false).f_States)), one (boolVP ((S_api_Replica.mk (0 : Int) (0 : Int) (List.replicate 32 0) [] (0 : Int) (List.replicate 32 0) [] [] false false).f_Failed)), one (boolVP ((S_api_Replica.mk (0 : Int) (0 : Int) (List.replicate 32 0) [] (0 : Int) (List.replicate 32 0) [] [] false false).f_Cut))]), .res (Log_e p_0 r4.2)] a w at h
              exact ⟨(S_api_Replica.mk a_1.f_Chain a_1.f_Here a_1.f_Updater a_1.f_Watchers a_1.f_Window a_1.f_Committed (r11.set r6.toNat (S_api_Timed.mk ((r11.getD r6.toNat default).f_Root) r9.1)) a_1.f_States a_1.f_Failed a_1.f_Cut), hF, h.sub [0, 1, 2, 3, 4, 5, 6] (by rfl)⟩
            · obtain ⟨hv19, hF⟩ := ite_some hF
              refine reg mixed hn hG h [0, 1, 2, 500, 5, 6, 7, 502] (ov [0] (op_fieldAddr_lbm (p := (b1 0)) (n := 1) 0 68 Tryz.underlying30 rfl Tryz.sizeOf27 (by decide) q0 rfl) <| ov [500, 4] (op_load_lb1 [one (intVP .u32 a_1.f_Chain), one (intVP .u32 a_1.f_Here), bytesCk 32 a_1.f_Updater, one (slVP (dC 32) a_1.f_Watchers), one (intVP .u64 a_1.f_Window), bytesCk 32 a_1.f_Committed] [one (slVP S_api_State.ck a_1.f_States), one (boolVP a_1.f_Failed), one (boolVP a_1.f_Cut)] 1 Tryz.isAgg27 q0 rfl rfl) <| ov [1] (op_fieldAddr_lbm (p := (b1 1)) (n := 32) 0 33 Tryz.underlying34 rfl Tryz.sizeOf24 (by decide) q0 rfl) <| ov [500, 5] (op_load_lb [one (intVP .u32 a_3.f_Home), bytesCk 32 a_3.f_Old] [bytesCk 32 a_3.f_New] [one (intVP .i64 a_3.f_Sig.f_Index), one (slVP (dC 32) a_3.f_Sig.f_Parts), one (slVP (dC 32) a_3.f_Sig.f_Others), one (slVP (dC 32) a_3.f_Sig.f_Path)] 1 Tryz.isAgg24 Tryz.sizeOf24 q0 rfl rfl rfl) <| ov [3] (op_move q0) <| ov [501, 500] (op_build [(0, .tmp 61), (1, .tmp 62)] rfl bu62 z62 ⟨[], [bytesCk 32 (List.replicate 32 0)], [one (intVP .u64 (0 : Int))], [bytesCk 32 a_3.f_New], _, rfl, rfl, rfl, q0, (cells_agg _), ⟨[bytesCk 32 a_3.f_New], [one (intVP .u64 (0 : Int))], [], [one (intVP .u64 r9.1)], _, rfl, rfl, rfl, q1, (cells_one (one_int _ _)), rfl⟩⟩) <| ov [500] (op_lit (xs := [.tmp 63]) (ys := [(S_api_Timed.mk a_3.f_New r9.1)]) _ rfl Tryz.underlying27 Tryz.sizeOf62 Tryz.zeroValue62 rfl rfl (by decide) (by decide) ⟨⟨_, q0, (cells_agg _)⟩, trivial⟩ S_api_Timed.lens) <| og [505, 500] [8] [.slot 65 7 100000 (fun v1_ _ => (eqVP v1_)), .res 7 100000 (fun v1_ _ => (own (v1_) 62 33 S_api_Timed.ck (r11 ++ [(S_api_Timed.mk a_3.f_New r9.1)])))] (GOk.plain (op_ownAppend (i := Tryz.t62) Tryz.underlying27 Tryz.type62 rfl S_api_Timed.lens (by decide) rfl q0 q1 hv19) rfl) <| ov [0] (op_fieldAddr_lbm (p := (b1 0)) (n := 1) 0 68 Tryz.underlying30 rfl Tryz.sizeOf27 (by decide) q0 rfl) <| og [500, 502, 501] [4] [.res 7 100000 (fun v1_ _ => (lb (b1 0) 30 [one (intVP .u32 a_1.f_Chain), one (intVP .u32 a_1.f_Here), bytesCk 32 a_1.f_Updater, one (slVP (dC 32) a_1.f_Watchers), one (intVP .u64 a_1.f_Window), bytesCk 32 a_1.f_Committed, one (eqVP (v1_)), one (slVP S_api_State.ck a_1.f_States), one (boolVP a_1.f_Failed), one (boolVP a_1.f_Cut)]))] (fun {β} => (GOk.plain (op_store_lb [one (intVP .u32 a_1.f_Chain), one (intVP .u32 a_1.f_Here), bytesCk 32 a_1.f_Updater, one (slVP (dC 32) a_1.f_Watchers), one (intVP .u64 a_1.f_Window), bytesCk 32 a_1.f_Committed] [one (eqVP (b12 2))] [one (slVP S_api_State.ck a_1.f_States), one (boolVP a_1.f_Failed), one (boolVP a_1.f_Cut)] [one (eqVP ((β 7)))] Tryz.sizeOf27 q0 (opone 1 2 rfl rfl own_one) (cells_h _) rfl rfl rfl) rfl)) .nil) fun b20 a w h => ?_
              replace h := h.ownacc 7 rfl
              change SatL c [.slot 5 (lpVP (b1 0) 0), .slot 7 (lpVP (b1 1) 0), .slot 8 (lpVP (b1 2) 0), .res (lb (b1 0) 30 [one (intVP .u32 a_1.f_Chain), one (intVP .u32 a_1.f_Here), bytesCk 32 a_1.f_Updater, one (slVP (dC 32) a_1.f_Watchers), one (intVP .u64 a_1.f_Window), bytesCk 32 a_1.f_Committed, one (eqVP (b20 7)), one (slVP S_api_State.ck a_1.f_States), one (boolVP a_1.f_Failed), one (boolVP a_1.f_Cut)]), .res (lb (b1 1) 34 [one (intVP .u32 a_3.f_Home), bytesCk 32 a_3.f_Old, bytesCk 32 a_3.f_New, one (intVP .i64 a_3.f_Sig.f_Index), one (slVP (dC 32) a_3.f_Sig.f_Parts), one (slVP (dC 32) a_3.f_Sig.f_Others), one (slVP (dC 32) a_3.f_Sig.f_Path)]), .res (lb (b1 2) 30 [one (intVP .u32 ((S_api_Replica.mk (0 : Int) (0 : Int) (List.replicate 32 0) [] (0 : Int) (List.replicate 32 0) [] [] false false).f_Chain)), one (intVP .u32 ((S_api_Replica.mk (0 : Int) (0 : Int) (List.replicate 32 0) [] (0 : Int) (List.replicate 32 0) [] [] false false).f_Here)), bytesCk 32 ((S_api_Replica.mk (0 : Int) (0 : Int) (List.replicate 32 0) [] (0 : Int) (List.replicate 32 0) [] [] false false).f_Updater), one (slVP (dC 32) ((S_api_Replica.mk (0 : Int) (0 : Int) (List.replicate 32 0) [] (0 : Int) (List.replicate 32 0) [] [] false false).f_Watchers)), one (intVP .u64 ((S_api_Replica.mk (0 : Int) (0 : Int) (List.replicate 32 0) [] (0 : Int) (List.replicate 32 0) [] [] false false).f_Window)), bytesCk 32 ((S_api_Replica.mk (0 : Int) (0 : Int) (List.replicate 32 0) [] (0 : Int) (List.replicate 32 0) [] [] false false).f_Committed), one (slVP S_api_Timed.ck ((S_api_Replica.mk (0 : Int) (0 : Int) (List.replicate 32 0) [] (0 : Int) (List.replicate 32 0) [] [] false false).f_Roots)), one (slVP S_api_State.ck ((S_api_Replica.mk (0 : Int) (0 : Int) (List.replicate 32 0) [] (0 : Int) (List.replicate 32 0) [] [] false false).f_States)), one (boolVP ((S_api_Replica.mk (0 : Int) (0 : Int) (List.replicate 32 0) [] (0 : Int) (List.replicate 32 0) [] [] false false).f_Failed)), one (boolVP ((S_api_Replica.mk (0 : Int) (0 : Int) (List.replicate 32 0) [] (0 : Int) (List.replicate 32 0) [] [] false false).f_Cut))]), .res (Log_e p_0 r4.2), .res (acc (b20 7) 62 33 S_api_Timed.ck (r11 ++ [(S_api_Timed.mk a_3.f_New r9.1)]))] a w at h
              replace h := h.unsep 3 7 rfl rfl (by decide)
              replace h := h.conv 3 rfl (settle (pre := [one (intVP .u32 a_1.f_Chain), one (intVP .u32 a_1.f_Here), bytesCk 32 a_1.f_Updater, one (slVP (dC 32) a_1.f_Watchers), one (intVP .u64 a_1.f_Window), bytesCk 32 a_1.f_Committed]) (post := [one (slVP S_api_State.ck a_1.f_States), one (boolVP a_1.f_Failed), one (boolVP a_1.f_Cut)]))
              replace h := h.sep 3 rfl
              replace h := h.sub [0, 1, 2, 3, 4, 5, 6] (by rfl)
              change SatL c [.slot 5 (lpVP (b1 0) 0), .slot 7 (lpVP (b1 1) 0), .slot 8 (lpVP (b1 2) 0), .res (lb (b1 0) 30 [one (intVP .u32 a_1.f_Chain), one (intVP .u32 a_1.f_Here), bytesCk 32 a_1.f_Updater, one (slVP (dC 32) a_1.f_Watchers), one (intVP .u64 a_1.f_Window), bytesCk 32 a_1.f_Committed, one (slVP S_api_Timed.ck (r11 ++ [(S_api_Timed.mk a_3.f_New r9.1)])), one (slVP S_api_State.ck a_1.f_States), one (boolVP a_1.f_Failed), one (boolVP a_1.f_Cut)]), .res (lb (b1 1) 34 [one (intVP .u32 a_3.f_Home), bytesCk 32 a_3.f_Old, bytesCk 32 a_3.f_New, one (intVP .i64 a_3.f_Sig.f_Index), one (slVP (dC 32) a_3.f_Sig.f_Parts), one (slVP (dC 32) a_3.f_Sig.f_Others), one (slVP (dC 32) a_3.f_Sig.f_Path)]), .res (lb (b1 2) 30 [one (intVP .u32 ((S_api_Replica.mk (0 : Int) (0 : Int) (List.replicate 32 0) [] (0 : Int) (List.replicate 32 0) [] [] false false).f_Chain)), one (intVP .u32 ((S_api_Replica.mk (0 : Int) (0 : Int) (List.replicate 32 0) [] (0 : Int) (List.replicate 32 0) [] [] false false).f_Here)), bytesCk 32 ((S_api_Replica.mk (0 : Int) (0 : Int) (List.replicate 32 0) [] (0 : Int) (List.replicate 32 0) [] [] false false).f_Updater), one (slVP (dC 32) ((S_api_Replica.mk (0 : Int) (0 : Int) (List.replicate 32 0) [] (0 : Int) (List.replicate 32 0) [] [] false false).f_Watchers)), one (intVP .u64 ((S_api_Replica.mk (0 : Int) (0 : Int) (List.replicate 32 0) [] (0 : Int) (List.replicate 32 0) [] [] false false).f_Window)), bytesCk 32 ((S_api_Replica.mk (0 : Int) (0 : Int) (List.replicate 32 0) [] (0 : Int) (List.replicate 32 0) [] [] false false).f_Committed), one (slVP S_api_Timed.ck ((S_api_Replica.mk (0 : Int) (0 : Int) (List.replicate 32 0) [] (0 : Int) (List.replicate 32 0) [] [] false false).f_Roots)), one (slVP S_api_State.ck ((S_api_Replica.mk (0 : Int) (0 : Int) (List.replicate 32 0) [] (0 : Int) (List.replicate 32 0) [] [] false false).f_States)), one (boolVP ((S_api_Replica.mk (0 : Int) (0 : Int) (List.replicate 32 0) [] (0 : Int) (List.replicate 32 0) [] [] false false).f_Failed)), one (boolVP ((S_api_Replica.mk (0 : Int) (0 : Int) (List.replicate 32 0) [] (0 : Int) (List.replicate 32 0) [] [] false false).f_Cut))]), .res (Log_e p_0 r4.2)] a w at h
              exact ⟨(S_api_Replica.mk a_1.f_Chain a_1.f_Here a_1.f_Updater a_1.f_Watchers a_1.f_Window a_1.f_Committed (r11 ++ [(S_api_Timed.mk a_3.f_New r9.1)]) a_1.f_States a_1.f_Failed a_1.f_Cut), hF, h.sub [0, 1, 2, 3, 4, 5, 6] (by rfl)⟩
          · clear h hF
            rintro a w ⟨x16, hF, h⟩
            unfold replica_Accept.j2 at hF
            show Code.wp Tryz.prog _ _ a w
            refine regS mixed hn hG h [0, 2, 500, 5, 6] (ov [1] (op_fieldAddr_lbm (p := (b1 1)) (n := 32) 0 33 Tryz.underlying34 rfl Tryz.sizeOf24 (by decide) q0 rfl) <| ov [500, 4] (op_load_lb [one (intVP .u32 a_3.f_Home), bytesCk 32 a_3.f_Old] [bytesCk 32 a_3.f_New] [one (intVP .i64 a_3.f_Sig.f_Index), one (slVP (dC 32) a_3.f_Sig.f_Parts), one (slVP (dC 32) a_3.f_Sig.f_Others), one (slVP (dC 32) a_3.f_Sig.f_Path)] 1 Tryz.isAgg24 Tryz.sizeOf24 q0 rfl rfl rfl) <| ov [0] (op_fieldAddr_lbm (p := (b1 0)) (n := 32) 0 36 Tryz.underlying30 rfl Tryz.sizeOf24 (by decide) q0 rfl) <| ou [500, 501] 3 (op_store_lb [one (intVP .u32 x16.f_Chain), one (intVP .u32 x16.f_Here), bytesCk 32 x16.f_Updater, one (slVP (dC 32) x16.f_Watchers), one (intVP .u64 x16.f_Window)] [bytesCk 32 x16.f_Committed] [one (slVP S_api_Timed.ck x16.f_Roots), one (slVP S_api_State.ck x16.f_States), one (boolVP x16.f_Failed), one (boolVP x16.f_Cut)] [bytesCk 32 a_3.f_New] Tryz.sizeOf24 q0 q1 (cells_agg _) rfl rfl rfl) .nil) fun _ a w h => ?_
            refine regS mixed hn hG h [1, 500, 501, 4] (ov [0, 2] (op_load_w 1 Tryz.isAgg30 Tryz.sizeOf30 q0) <| ou [1, 500] 3 (op_store_w Tryz.sizeOf30 q0 q1 (cells_agg _)) <| ov [] (op_assign qi) .nil) fun _ a w h => ?_
            refine wp_ret ?_
            obtain rfl := Option.some.inj hF
            exact ⟨.inl rfl, retn h (rs := [.cell 8 30, .tmp 9]) (Vs := [(aggVP [one (intVP .u32 x16.f_Chain), one (intVP .u32 x16.f_Here), bytesCk 32 x16.f_Updater, one (slVP (dC 32) x16.f_Watchers), one (intVP .u64 x16.f_Window), bytesCk 32 a_3.f_New, one (slVP S_api_Timed.ck x16.f_Roots), one (slVP S_api_State.ck x16.f_States), one (boolVP x16.f_Failed), one (boolVP x16.f_Cut)]), (intVP .i64 0)]) Tryz.results9 (by decide) ⟨(r_cell 0 2 rfl rfl Tryz.isAgg30 Tryz.sizeOf30 rfl), (r_tmp 1 rfl), trivial⟩ [3] [(Log_e p_0 r4.2)] rfl rfl rfl⟩

def ref03_Big.b1 (x4 : Int) (x5 : Int) (x6 : List UInt8) : Option (Flow (List UInt8) (Int × Int × (List UInt8))) := (if (decide ((0 : Int) ≤ x5)) = true then (if (0 : Int) ≤ x5 ∧ x5 < 8 then some (.cont (IntKind.wrap .u64 (x4.tdiv 256), IntKind.wrap .i64 (x5 - 1), x6.set x5.toNat (u8of (IntKind.wrap .u8 (x4.tmod 256))))) else none) else some (.brk (x4, x5, x6)))
def ref03_Big (a_0 : Int) (a_1 : Int) : Option (List UInt8) := ((loopN (fun s : Int × Int × (List UInt8) => ref03_Big.b1 s.1 s.2.1 s.2.2) (((IntKind.wrap .i64 (a_1 - 1)) - 0 : Int).toNat + 2) (a_0, IntKind.wrap .i64 (a_1 - 1), (List.replicate 8 0))).bind fun cr => match cr with | .ret r => some r | .next (y18, y19, y20) => (if (0 : Int) ≤ 0 ∧ (0 : Int) ≤ a_1 ∧ a_1 ≤ 8 ∧ (0 : Int) < 8 then (if (a_1 : Int).toNat - (0 : Int).toNat ≤ 8 then some (y20.take ((a_1 : Int).toNat - (0 : Int).toNat)) else none) else none))
theorem ref03_Big_ok {a_0 : Int} {a_1 : Int} {r : (List UInt8)} (hF : ref03_Big a_0 a_1 = some r) : CallOk Tryz.prog KG 68 [(intVP .u64 a_0), (intVP .i64 a_1)] [] (fun _ => []) (strVP r) := by
  refine CallOk.intro 23 Tryz.func68 rfl Tryz.ntmps68 (Nat.le_of_ble_eq_true rfl) ?_
  intro c a w hG hn h
  unfold ref03_Big at hF
  change SatL c [.slot 0 (intVP .u64 a_0), .slot 1 (intVP .i64 a_1)] a w at h
  refine regS mixed hn hG h [0, 1] (ov [] (op_assign (opc (sc _ (by decide)))) .nil) fun _ a w h => ?_
  refine regS mixed hn hG h [0, 1, 501, 500] (ob [] (op_alloc Tryz.zeroValue189 z189) .nil) fun b1 a w h => ?_
  refine wp_seq ?_
  refine regS mixed hn hG h [0, 1, 2, 500, 3] (ov [1] (op_move q0) <| ov [500] (op_bin bin_sub q0 qi) <| ov [500] (op_assign q0) .nil) fun _ a w h => ?_
  refine wp_block ?_
  obtain ⟨cr14, hl15, hF⟩ := bind_some hF
  refine wp_mono (wp_loopN (R := (List UInt8)) (S := Int × Int × (List UInt8)) (fun s a w => SatL c [.slot 0 (intVP .u64 s.1), .slot 1 (intVP .i64 a_1), .slot 5 (lpVP (b1 0) 0), .slot 6 (intVP .i64 s.2.1), .res (lb (b1 0) 189 [bytesCk 8 s.2.2])] a w) (fun res e a w => match res with | .next s => e = .exit 0 ∧ SatL c [.slot 1 (intVP .i64 a_1), .slot 5 (lpVP (b1 0) 0), .res (lb (b1 0) 189 [bytesCk 8 s.2.2])] a w | .ret r => e = .ret ∧ RetOk Tryz.prog Tryz.f68 c (strVP r) (fun _ => []) a w) ?_ _ (a_0, IntKind.wrap .i64 (a_1 - 1), (List.replicate 8 0)) _ _ _ (h.sub [0, 1, 2, 3, 4] (by rfl)) hl15) ?_
  · clear hl15 hF h
    intro s a w o h hF
    obtain ⟨x4, x5, x6⟩ := s
    change ref03_Big.b1 x4 x5 x6 = some o at hF
    unfold ref03_Big.b1 at hF
    change SatL c [.slot 0 (intVP .u64 x4), .slot 1 (intVP .i64 a_1), .slot 5 (lpVP (b1 0) 0), .slot 6 (intVP .i64 x5), .res (lb (b1 0) 189 [bytesCk 8 x6])] a w at h
    refine wp_seq ?_
    refine regS mixed hn hG h [0, 1, 2, 3, 500, 4] (ov [3] (op_move q0) <| ov [500] (op_bin bin_geq q0 qi) .nil) fun _ a w h => ?_
    refine cnd h hF 4 [0, 1, 2, 3, 5] [0, 1, 2, 3, 5] (fun hb12 hF h => ?_) (fun hb12 hF h => ?_)
    · refine wp_skip ?_
      show Code.wp Tryz.prog _ _ a w
      refine wp_seq ?_
      refine wp_block ?_
      obtain ⟨hv13, hF⟩ := ite_some hF
      refine regS mixed hn hG h [0, 1, 2, 3, 500] (ov [3] (op_move q0) <| ov [0] (op_move q0) <| ov [500] (op_bin (bin_rem (by decide)) q0 qi) <| ov [500] (op_convert_int Tryz.underlying26 Tryz.underlying5 q0) <| ov [2, 503] (op_indexAddr_lb Tryz.underlying189 Tryz.sizeOf5 q0 q1 hv13) <| ou [500, 501] 4 (op_store_lbB (i := x5) [] [] Tryz.sizeOf5 q0 q1 rfl hv13) .nil) fun _ a w h => ?_
      refine reg mixed hn hG h [500, 1, 2, 3, 4] (ov [0] (op_move q0) <| ov [500] (op_bin (bin_quo (by decide)) q0 qi) <| od [500] 0 (op_assign q0) .nil) fun _ a w h => ?_
      show Code.wp Tryz.prog _ _ a w
      refine reg mixed hn hG h [0, 1, 2, 500, 4] (ov [3] (op_move q0) <| ov [500] (op_bin bin_sub q0 qi) <| od [500] 3 (op_assign q0) .nil) fun _ a w h => ?_
      obtain rfl := Option.some.inj hF
      exact ⟨rfl, h.sub [0, 1, 2, 3, 4] (by rfl)⟩
    · refine wp_exit ?_
      obtain rfl := Option.some.inj hF
      exact ⟨exit_ne _, rfl, h.sub [1, 2, 4] (by rfl)⟩
  · clear hl15
    intro e a w hq
    cases cr14 with
    | ret r16 =>
      obtain ⟨rfl, hq⟩ := hq
      obtain rfl := Option.some.inj hF
      exact ⟨.inl rfl, hq⟩
    | next s17 =>
      obtain ⟨y18, y19, y20⟩ := s17
      obtain ⟨rfl, h⟩ := hq
      change SatL c [.slot 1 (intVP .i64 a_1), .slot 5 (lpVP (b1 0) 0), .res (lb (b1 0) 189 [bytesCk 8 y20])] a w at h
      refine inBlock_at ?_
      show Code.wp Tryz.prog _ _ a w
      obtain ⟨hv21, hF⟩ := ite_some hF
      obtain ⟨hv22, hF⟩ := ite_some hF
      refine regS mixed hn hG h [500] (ov [0] (op_move q0) <| ov [1, 500] (op_slice_lb (a := 0) (b := a_1) Tryz.underlying189 Tryz.sizeOf5 q0 rfl ⟨_, q1⟩ hv21) <| ov [500, 2] (op_str_lsl [] [] 1 Tryz.underlying180 Tryz.underlying5 Tryz.underlying9 q0 rfl rfl hv22 (by decide)) <| ov [500] (op_assign q0) .nil) fun _ a w h => ?_
      refine wp_ret ?_
      obtain rfl := Option.some.inj hF
      exact ⟨.inl rfl, ret1 h Tryz.results68 (r_tmp 0 rfl) [] [] rfl rfl rfl⟩

def ref03_Text (a_0 : List UInt8) : Option (List UInt8) := ((ref03_Big (IntKind.wrap .u64 (a_0.length : Int)) 4).bind fun r1 => (if r1.length + a_0.length ≤ mxl then some (r1 ++ a_0) else none))
theorem ref03_Text_ok {a_0 : List UInt8} {r : (List UInt8)} (hF : ref03_Text a_0 = some r) : CallOk Tryz.prog KG 69 [(strVP a_0)] [] (fun _ => []) (strVP r) := by
  refine CallOk.intro 9 Tryz.func69 rfl Tryz.ntmps69 (Nat.le_of_ble_eq_true rfl) ?_
  intro c a w hG hn h
  unfold ref03_Text at hF
  change SatL c [.slot 0 (strVP a_0)] a w at h
  refine regS mixed hn hG h [0] (ov [] (op_assign (opc (sc _ (by decide)))) .nil) fun _ a w h => ?_
  obtain ⟨r1, hr1, hF⟩ := bind_some hF
  obtain ⟨hv2, hF⟩ := ite_some hF
  refine regS mixed hn hG h [500] (ov [0] (op_move q0) <| ov [500] (op_len_str Tryz.underlying9 q0) <| ov [500] (op_convert_int Tryz.underlying3 Tryz.underlying26 q0) <| oc [500] [] Tryz.call68 (ref03_Big_ok hr1) ⟨q0, qi, trivial⟩ <| ov [0] (op_move q0) <| ov [501, 500] (op_bin (bin_sadd hv2) q0 q1) <| ov [500] (op_assign q0) .nil) fun _ a w h => ?_
  refine wp_ret ?_
  obtain rfl := Option.some.inj hF
  exact ⟨.inl rfl, ret1 h Tryz.results69 (r_tmp 0 rfl) [] [] rfl rfl rfl⟩

def ref04_Input.b1 (a_1 : List (List UInt8)) (x5 : List UInt8) (x6 : Int) : Option (Flow (List UInt8) ((List UInt8) × Int)) := (if (decide (x6 < (a_1.length : Int))) = true then (if (0 : Int) ≤ x6 ∧ x6 < a_1.length then ((ref03_Text (a_1.getD x6.toNat default)).bind fun r15 => (if x5.length + r15.length ≤ mxl then some (.cont (x5 ++ r15, IntKind.wrap .i64 (x6 + 1))) else none)) else none) else some (.brk (x5, x6)))
def ref04_Input (a_0 : Int) (a_1 : List (List UInt8)) : Option (List UInt8) := ((loopN (fun s : (List UInt8) × Int => ref04_Input.b1 a_1 s.1 s.2) (((a_1.length : Int) - 0 : Int).toNat + 2) ([u8of a_0], 0)).bind fun cr => match cr with | .ret r => some r | .next (y21, y22) => some y21)
theorem ref04_Input_ok {a_0 : Int} {a_1 : List (List UInt8)} {r : (List UInt8)} (hF : ref04_Input a_0 a_1 = some r) : CallOk Tryz.prog KG 65 [(intVP .u8 a_0), (slVP strC a_1)] [] (fun _ => []) (strVP r) := by
  refine CallOk.intro 23 Tryz.func65 rfl Tryz.ntmps65 (Nat.le_of_ble_eq_true rfl) ?_
  intro c a w hG hn h
  unfold ref04_Input at hF
  change SatL c [.slot 0 (intVP .u8 a_0), .slot 1 (slVP strC a_1)] a w at h
  refine regS mixed hn hG h [0, 1] (ov [] (op_assign (opc (sc _ (by decide)))) .nil) fun _ a w h => ?_
  refine regS mixed hn hG h [1, 500] (ov [0] (op_move q0) <| ov [500] (op_lit (xs := [.tmp 8]) (ys := [u8of a_0]) _ rfl Tryz.underlying180 Tryz.sizeOf5 Tryz.zeroValue5 rfl rfl (by decide) (by decide) ⟨⟨_, q0, (cells_u8 _)⟩, trivial⟩ lens_bC) <| ov [500] (op_conv_sl_str Tryz.underlying180 Tryz.underlying5 Tryz.underlying9 q0) <| ov [500] (op_assign q0) .nil) fun _ a w h => ?_
  refine wp_seq ?_
  refine regS mixed hn hG h [1, 502, 501, 500] (ov [0] (op_move q0) <| ov [500] (op_len_sl Tryz.underlying53 q0) <| ov [] (op_move qi) .nil) fun _ a w h => ?_
  refine wp_block ?_
  obtain ⟨cr17, hl18, hF⟩ := bind_some hF
  refine wp_mono (wp_loopN (R := (List UInt8)) (S := (List UInt8) × Int) (fun s a w => SatL c [.slot 5 (strVP s.1), .slot 11 (slVP strC a_1), .slot 12 (intVP .i64 (a_1.length : Int)), .slot 13 (intVP .i64 s.2)] a w) (fun res e a w => match res with | .next s => e = .exit 0 ∧ SatL c [.slot 5 (strVP s.1)] a w | .ret r => e = .ret ∧ RetOk Tryz.prog Tryz.f65 c (strVP r) (fun _ => []) a w) ?_ _ ([u8of a_0], 0) _ _ _ (h.sub [0, 1, 2, 3] (by rfl)) hl18) ?_
  · clear hl18 hF h
    intro s a w o h hF
    obtain ⟨x5, x6⟩ := s
    change ref04_Input.b1 a_1 x5 x6 = some o at hF
    unfold ref04_Input.b1 at hF
    change SatL c [.slot 5 (strVP x5), .slot 11 (slVP strC a_1), .slot 12 (intVP .i64 (a_1.length : Int)), .slot 13 (intVP .i64 x6)] a w at h
    refine regS mixed hn hG h [0, 1, 2, 3, 500] (ov [3, 2] (op_bin bin_lss q0 q1) .nil) fun _ a w h => ?_
    refine wp_seq ?_
    refine cnd h hF 4 [0, 1, 2, 3] [0, 1, 2, 3] (fun hb13 hF h => ?_) (fun hb13 hF h => ?_)
    · refine wp_skip ?_
      show Code.wp Tryz.prog _ _ a w
      refine wp_seq ?_
      refine wp_block ?_
      obtain ⟨hv14, hF⟩ := ite_some hF
      refine regS mixed hn hG h [0, 500, 1, 2, 3] (ov [1, 3] (op_indexAddr_sl Tryz.underlying53 Tryz.sizeOf9 lens_strC q0 q1 hv14) <| ov [500] (op_load_pp1 [] Tryz.isAgg9 q0) <| ov [500] (op_assign q0) .nil) fun _ a w h => ?_
      obtain ⟨r15, hr15, hF⟩ := bind_some hF
      obtain ⟨hv16, hF⟩ := ite_some hF
      refine reg mixed hn hG h [500, 2, 3, 4] (ov [0] (op_move q0) <| ov [1] (op_move q0) <| oc [500] [] Tryz.call69 (ref03_Text_ok hr15) ⟨q0, trivial⟩ <| ov [502, 500] (op_bin (bin_sadd hv16) q0 q1) <| od [500] 0 (op_assign q0) .nil) fun _ a w h => ?_
      show Code.wp Tryz.prog _ _ a w
      refine reg mixed hn hG h [0, 1, 2, 500] (ov [3] (op_bin bin_add q0 qi) <| od [500] 3 (op_move q0) .nil) fun _ a w h => ?_
      obtain rfl := Option.some.inj hF
      exact ⟨rfl, h.sub [0, 1, 2, 3] (by rfl)⟩
    · refine wp_exit ?_
      obtain rfl := Option.some.inj hF
      exact ⟨exit_ne _, rfl, h.sub [0] (by rfl)⟩
  · clear hl18
    intro e a w hq
    cases cr17 with
    | ret r19 =>
      obtain ⟨rfl, hq⟩ := hq
      obtain rfl := Option.some.inj hF
      exact ⟨.inl rfl, hq⟩
    | next s20 =>
      obtain ⟨y21, y22⟩ := s20
      obtain ⟨rfl, h⟩ := hq
      change SatL c [.slot 5 (strVP y21)] a w at h
      refine inBlock_at ?_
      show Code.wp Tryz.prog _ _ a w
      refine regS mixed hn hG h [500] (ov [0] (op_move q0) <| ov [500] (op_assign q0) .nil) fun _ a w h => ?_
      refine wp_ret ?_
      obtain rfl := Option.some.inj hF
      exact ⟨.inl rfl, ret1 h Tryz.results65 (r_tmp 0 rfl) [] [] rfl rfl rfl⟩

def ref01_constants : Option (List Int) := some ([1116352408, 1899447441, 3049323471, 3921009573, 961987163, 1508970993, 2453635748, 2870763221, 3624381080, 310598401, 607225278, 1426881987, 1925078388, 2162078206, 2614888103, 3248222580, 3835390401, 4022224774, 264347078, 604807628, 770255983, 1249150122, 1555081692, 1996064986, 2554220882, 2821834349, 2952996808, 3210313671, 3336571891, 3584528711, 113926993, 338241895, 666307205, 773529912, 1294757372, 1396182291, 1695183700, 1986661051, 2177026350, 2456956037, 2730485921, 2820302411, 3259730800, 3345764771, 3516065817, 3600352804, 4094571909, 275423344, 430227734, 506948616, 659060556, 883997877, 958139571, 1322822218, 1537002063, 1747873779, 1955562222, 2024104815, 2227730452, 2361852424, 2428436474, 2756734187, 3204031479, 3329325298] ++ List.replicate (64 - 64) 0)
theorem ref01_constants_ok {r : (List Int)} (hF : ref01_constants = some r) : CallOk Tryz.prog KG 125 [] [] (fun _ => []) (aggVP [intsCk .u32 64 r]) := by
  refine CallOk.intro 2 Tryz.func125 rfl Tryz.ntmps125 (Nat.le_of_ble_eq_true rfl) ?_
  intro c a w hG hn h
  unfold ref01_constants at hF
  change SatL c [] a w at h
  refine regS mixed hn hG h [501, 500] (ob [] (op_alloc Tryz.zeroValue237 z237) .nil) fun b1 a w h => ?_
  refine regS mixed hn hG h [0, 500] (ov [] (op_buildI (xs := [.const (.int .u32 1116352408), .const (.int .u32 1899447441), .const (.int .u32 3049323471), .const (.int .u32 3921009573), .const (.int .u32 961987163), .const (.int .u32 1508970993), .const (.int .u32 2453635748), .const (.int .u32 2870763221), .const (.int .u32 3624381080), .const (.int .u32 310598401), .const (.int .u32 607225278), .const (.int .u32 1426881987), .const (.int .u32 1925078388), .const (.int .u32 2162078206), .const (.int .u32 2614888103), .const (.int .u32 3248222580), .const (.int .u32 3835390401), .const (.int .u32 4022224774), .const (.int .u32 264347078), .const (.int .u32 604807628), .const (.int .u32 770255983), .const (.int .u32 1249150122), .const (.int .u32 1555081692), .const (.int .u32 1996064986), .const (.int .u32 2554220882), .const (.int .u32 2821834349), .const (.int .u32 2952996808), .const (.int .u32 3210313671), .const (.int .u32 3336571891), .const (.int .u32 3584528711), .const (.int .u32 113926993), .const (.int .u32 338241895), .const (.int .u32 666307205), .const (.int .u32 773529912), .const (.int .u32 1294757372), .const (.int .u32 1396182291), .const (.int .u32 1695183700), .const (.int .u32 1986661051), .const (.int .u32 2177026350), .const (.int .u32 2456956037), .const (.int .u32 2730485921), .const (.int .u32 2820302411), .const (.int .u32 3259730800), .const (.int .u32 3345764771), .const (.int .u32 3516065817), .const (.int .u32 3600352804), .const (.int .u32 4094571909), .const (.int .u32 275423344), .const (.int .u32 430227734), .const (.int .u32 506948616), .const (.int .u32 659060556), .const (.int .u32 883997877), .const (.int .u32 958139571), .const (.int .u32 1322822218), .const (.int .u32 1537002063), .const (.int .u32 1747873779), .const (.int .u32 1955562222), .const (.int .u32 2024104815), .const (.int .u32 2227730452), .const (.int .u32 2361852424), .const (.int .u32 2428436474), .const (.int .u32 2756734187), .const (.int .u32 3204031479), .const (.int .u32 3329325298)]) (ys := [1116352408, 1899447441, 3049323471, 3921009573, 961987163, 1508970993, 2453635748, 2870763221, 3624381080, 310598401, 607225278, 1426881987, 1925078388, 2162078206, 2614888103, 3248222580, 3835390401, 4022224774, 264347078, 604807628, 770255983, 1249150122, 1555081692, 1996064986, 2554220882, 2821834349, 2952996808, 3210313671, 3336571891, 3584528711, 113926993, 338241895, 666307205, 773529912, 1294757372, 1396182291, 1695183700, 1986661051, 2177026350, 2456956037, 2730485921, 2820302411, 3259730800, 3345764771, 3516065817, 3600352804, 4094571909, 275423344, 430227734, 506948616, 659060556, 883997877, 958139571, 1322822218, 1537002063, 1747873779, 1955562222, 2024104815, 2227730452, 2361852424, 2428436474, 2756734187, 3204031479, 3329325298]) rfl bu237 ⟨⟨_, qi, (cells_one (one_int _ _))⟩, ⟨_, qi, (cells_one (one_int _ _))⟩, ⟨_, qi, (cells_one (one_int _ _))⟩, ⟨_, qi, (cells_one (one_int _ _))⟩, ⟨_, qi, (cells_one (one_int _ _))⟩, ⟨_, qi, (cells_one (one_int _ _))⟩, ⟨_, qi, (cells_one (one_int _ _))⟩, ⟨_, qi, (cells_one (one_int _ _))⟩, ⟨_, qi, (cells_one (one_int _ _))⟩, ⟨_, qi, (cells_one (one_int _ _))⟩, ⟨_, qi, (cells_one (one_int _ _))⟩, ⟨_, qi, (cells_one (one_int _ _))⟩, ⟨_, qi, (cells_one (one_int _ _))⟩, ⟨_, qi, (cells_one (one_int _ _))⟩, ⟨_, qi, (cells_one (one_int _ _))⟩, ⟨_, qi, (cells_one (one_int _ _))⟩, ⟨_, qi, (cells_one (one_int _ _))⟩, ⟨_, qi, (cells_one (one_int _ _))⟩, ⟨_, qi, (cells_one (one_int _ _))⟩, ⟨_, qi, (cells_one (one_int _ _))⟩, ⟨_, qi, (cells_one (one_int _ _))⟩, ⟨_, qi, (cells_one (one_int _ _))⟩, ⟨_, qi, (cells_one (one_int _ _))⟩, ⟨_, qi, (cells_one (one_int _ _))⟩, ⟨_, qi, (cells_one (one_int _ _))⟩, ⟨_, qi, (cells_one (one_int _ _))⟩, ⟨_, qi, (cells_one (one_int _ _))⟩, ⟨_, qi, (cells_one (one_int _ _))⟩, ⟨_, qi, (cells_one (one_int _ _))⟩, ⟨_, qi, (cells_one (one_int _ _))⟩, ⟨_, qi, (cells_one (one_int _ _))⟩, ⟨_, qi, (cells_one (one_int _ _))⟩, ⟨_, qi, (cells_one (one_int _ _))⟩, ⟨_, qi, (cells_one (one_int _ _))⟩, ⟨_, qi, (cells_one (one_int _ _))⟩, ⟨_, qi, (cells_one (one_int _ _))⟩, ⟨_, qi, (cells_one (one_int _ _))⟩, ⟨_, qi, (cells_one (one_int _ _))⟩, ⟨_, qi, (cells_one (one_int _ _))⟩, ⟨_, qi, (cells_one (one_int _ _))⟩, ⟨_, qi, (cells_one (one_int _ _))⟩, ⟨_, qi, (cells_one (one_int _ _))⟩, ⟨_, qi, (cells_one (one_int _ _))⟩, ⟨_, qi, (cells_one (one_int _ _))⟩, ⟨_, qi, (cells_one (one_int _ _))⟩, ⟨_, qi, (cells_one (one_int _ _))⟩, ⟨_, qi, (cells_one (one_int _ _))⟩, ⟨_, qi, (cells_one (one_int _ _))⟩, ⟨_, qi, (cells_one (one_int _ _))⟩, ⟨_, qi, (cells_one (one_int _ _))⟩, ⟨_, qi, (cells_one (one_int _ _))⟩, ⟨_, qi, (cells_one (one_int _ _))⟩, ⟨_, qi, (cells_one (one_int _ _))⟩, ⟨_, qi, (cells_one (one_int _ _))⟩, ⟨_, qi, (cells_one (one_int _ _))⟩, ⟨_, qi, (cells_one (one_int _ _))⟩, ⟨_, qi, (cells_one (one_int _ _))⟩, ⟨_, qi, (cells_one (one_int _ _))⟩, ⟨_, qi, (cells_one (one_int _ _))⟩, ⟨_, qi, (cells_one (one_int _ _))⟩, ⟨_, qi, (cells_one (one_int _ _))⟩, ⟨_, qi, (cells_one (one_int _ _))⟩, ⟨_, qi, (cells_one (one_int _ _))⟩, ⟨_, qi, (cells_one (one_int _ _))⟩, trivial⟩ (by decide) rfl) <| ou [0, 500] 1 (op_store_w Tryz.sizeOf237 q0 q1 (cells_agg _)) .nil) fun _ a w h => ?_
  refine wp_ret ?_
  obtain rfl := Option.some.inj hF
  exact ⟨.inl rfl, ret1 h Tryz.results125 (r_cell 0 1 rfl rfl Tryz.isAgg237 Tryz.sizeOf237 rfl) [] [] rfl rfl rfl⟩

def ref01_turn (a_0 : Int) (a_1 : Int) : Option Int := some (bits .or .u32 (shr .u32 a_0 a_1) (shl .u32 a_0 (IntKind.wrap .u64 (32 - a_1))))
theorem ref01_turn_ok {a_0 : Int} {a_1 : Int} {r : Int} (hF : ref01_turn a_0 a_1 = some r) : CallOk Tryz.prog KG 126 [(intVP .u32 a_0), (intVP .u64 a_1)] [] (fun _ => []) (intVP .u32 r) := by
  refine CallOk.intro 13 Tryz.func126 rfl Tryz.ntmps126 (Nat.le_of_ble_eq_true rfl) ?_
  intro c a w hG hn h
  unfold ref01_turn at hF
  change SatL c [.slot 0 (intVP .u32 a_0), .slot 1 (intVP .u64 a_1)] a w at h
  refine regS mixed hn hG h [0, 1] (ov [] (op_assign qi) .nil) fun _ a w h => ?_
  refine regS mixed hn hG h [500] (ov [0] (op_move q0) <| ov [1] (op_move q0) <| ov [501, 500] (op_bin (bin_shru rfl) q0 q1) <| ov [0] (op_move q0) <| ov [1] (op_move q0) <| ov [500] (op_bin bin_sub qi q0) <| ov [502, 500] (op_bin (bin_shlu rfl) q0 q1) <| ov [504, 500] (op_bin bin_or q0 q1) <| ov [500] (op_assign q0) .nil) fun _ a w h => ?_
  refine wp_ret ?_
  obtain rfl := Option.some.inj hF
  exact ⟨.inl rfl, ret1 h Tryz.results126 (r_tmp 0 rfl) [] [] rfl rfl rfl⟩

def ref01_Block.b1 (a_1 : List (UInt8)) (x12 : Int) (x13 : List Int) : Option (Flow (List Int) (Int × (List Int))) := (if (decide (x12 < (16 : Int))) = true then (if (0 : Int) ≤ IntKind.wrap .i64 (4 * x12) ∧ IntKind.wrap .i64 (4 * x12) < a_1.length then (if (0 : Int) ≤ IntKind.wrap .i64 ((IntKind.wrap .i64 (4 * x12)) + 1) ∧ IntKind.wrap .i64 ((IntKind.wrap .i64 (4 * x12)) + 1) < a_1.length then (if (0 : Int) ≤ IntKind.wrap .i64 ((IntKind.wrap .i64 (4 * x12)) + 2) ∧ IntKind.wrap .i64 ((IntKind.wrap .i64 (4 * x12)) + 2) < a_1.length then (if (0 : Int) ≤ IntKind.wrap .i64 ((IntKind.wrap .i64 (4 * x12)) + 3) ∧ IntKind.wrap .i64 ((IntKind.wrap .i64 (4 * x12)) + 3) < a_1.length then (if (0 : Int) ≤ x12 ∧ x12 < 64 then some (.cont (IntKind.wrap .i64 (x12 + 1), x13.set x12.toNat (IntKind.wrap .u32 ((IntKind.wrap .u32 ((IntKind.wrap .u32 ((IntKind.wrap .u32 ((IntKind.wrap .u32 ((a_1.getD (IntKind.wrap .i64 (4 * x12)).toNat default).toNat)) * 16777216)) + (IntKind.wrap .u32 ((IntKind.wrap .u32 ((a_1.getD (IntKind.wrap .i64 ((IntKind.wrap .i64 (4 * x12)) + 1)).toNat default).toNat)) * 65536)))) + (IntKind.wrap .u32 ((IntKind.wrap .u32 ((a_1.getD (IntKind.wrap .i64 ((IntKind.wrap .i64 (4 * x12)) + 2)).toNat default).toNat)) * 256)))) + (IntKind.wrap .u32 ((a_1.getD (IntKind.wrap .i64 ((IntKind.wrap .i64 (4 * x12)) + 3)).toNat default).toNat)))))) else none) else none) else none) else none) else none) else some (.brk (x12, x13)))
def ref01_Block.b2 (x43 : Int) (x44 : List Int) : Option (Flow (List Int) (Int × (List Int))) := (if (decide (x43 < (64 : Int))) = true then (if (0 : Int) ≤ IntKind.wrap .i64 (x43 - 15) ∧ IntKind.wrap .i64 (x43 - 15) < 64 then ((ref01_turn (x44.getD (IntKind.wrap .i64 (x43 - 15)).toNat 0) 7).bind fun r59 => ((ref01_turn (x44.getD (IntKind.wrap .i64 (x43 - 15)).toNat 0) 18).bind fun r60 => (if (0 : Int) ≤ IntKind.wrap .i64 (x43 - 2) ∧ IntKind.wrap .i64 (x43 - 2) < 64 then ((ref01_turn (x44.getD (IntKind.wrap .i64 (x43 - 2)).toNat 0) 17).bind fun r62 => ((ref01_turn (x44.getD (IntKind.wrap .i64 (x43 - 2)).toNat 0) 19).bind fun r63 => (if (0 : Int) ≤ IntKind.wrap .i64 (x43 - 16) ∧ IntKind.wrap .i64 (x43 - 16) < 64 then (if (0 : Int) ≤ IntKind.wrap .i64 (x43 - 7) ∧ IntKind.wrap .i64 (x43 - 7) < 64 then (if (0 : Int) ≤ x43 ∧ x43 < 64 then some (.cont (IntKind.wrap .i64 (x43 + 1), x44.set x43.toNat (IntKind.wrap .u32 ((IntKind.wrap .u32 ((IntKind.wrap .u32 ((x44.getD (IntKind.wrap .i64 (x43 - 16)).toNat 0) + (bits .xor .u32 (bits .xor .u32 r59 r60) (shr .u32 (x44.getD (IntKind.wrap .i64 (x43 - 15)).toNat 0) 3)))) + (x44.getD (IntKind.wrap .i64 (x43 - 7)).toNat 0))) + (bits .xor .u32 (bits .xor .u32 r62 r63) (shr .u32 (x44.getD (IntKind.wrap .i64 (x43 - 2)).toNat 0) 10)))))) else none) else none) else none))) else none))) else none) else some (.brk (x43, x44)))
def ref01_Block.b3 (r4 : (List Int)) (y72 : List Int) (x80 : Int) (x81 : Int) (x82 : Int) (x83 : Int) (x84 : Int) (x85 : Int) (x86 : Int) (x87 : Int) (x88 : Int) : Option (Flow (List Int) (Int × Int × Int × Int × Int × Int × Int × Int × Int)) := (if (decide (x88 < (64 : Int))) = true then ((ref01_turn x84 6).bind fun r107 => ((ref01_turn x84 11).bind fun r108 => ((ref01_turn x84 25).bind fun r109 => (if (0 : Int) ≤ x88 ∧ x88 < 64 then ((ref01_turn x80 2).bind fun r111 => ((ref01_turn x80 13).bind fun r112 => ((ref01_turn x80 22).bind fun r113 => some (.cont (IntKind.wrap .u32 ((IntKind.wrap .u32 ((IntKind.wrap .u32 ((IntKind.wrap .u32 ((IntKind.wrap .u32 (x87 + (bits .xor .u32 (bits .xor .u32 r107 r108) r109))) + (bits .xor .u32 (bits .and .u32 x84 x85) (bits .and .u32 (bits .xor .u32 4294967295 x84) x86)))) + (r4.getD x88.toNat 0))) + (y72.getD x88.toNat 0))) + (IntKind.wrap .u32 ((bits .xor .u32 (bits .xor .u32 r111 r112) r113) + (bits .xor .u32 (bits .xor .u32 (bits .and .u32 x80 x81) (bits .and .u32 x80 x82)) (bits .and .u32 x81 x82))))), x80, x81, x82, IntKind.wrap .u32 (x83 + (IntKind.wrap .u32 ((IntKind.wrap .u32 ((IntKind.wrap .u32 ((IntKind.wrap .u32 (x87 + (bits .xor .u32 (bits .xor .u32 r107 r108) r109))) + (bits .xor .u32 (bits .and .u32 x84 x85) (bits .and .u32 (bits .xor .u32 4294967295 x84) x86)))) + (r4.getD x88.toNat 0))) + (y72.getD x88.toNat 0)))), x84, x85, x86, IntKind.wrap .i64 (x88 + 1)))))) else none)))) else some (.brk (x80, x81, x82, x83, x84, x85, x86, x87, x88)))
def ref01_Block (a_0 : List Int) (a_1 : List (UInt8)) : Option (List Int) := (if (!decide ((a_1.length : Int) = (64 : Int))) = true then some a_0 else ((ref01_constants).bind fun r4 => ((loopN (fun s : Int × (List Int) => ref01_Block.b1 a_1 s.1 s.2) ((16 - 0 : Int).toNat + 2) (0, (List.replicate 64 0))).bind fun cr => match cr with | .ret r => some r | .next (y32, y33) => ((loopN (fun s : Int × (List Int) => ref01_Block.b2 s.1 s.2) ((64 - 16 : Int).toNat + 2) (16, y33)).bind fun cr => match cr with | .ret r => some r | .next (y71, y72) => ((loopN (fun s : Int × Int × Int × Int × Int × Int × Int × Int × Int => ref01_Block.b3 r4 y72 s.1 s.2.1 s.2.2.1 s.2.2.2.1 s.2.2.2.2.1 s.2.2.2.2.2.1 s.2.2.2.2.2.2.1 s.2.2.2.2.2.2.2.1 s.2.2.2.2.2.2.2.2) ((64 - 0 : Int).toNat + 2) (a_0.getD (0 : Int).toNat 0, a_0.getD (1 : Int).toNat 0, a_0.getD (2 : Int).toNat 0, a_0.getD (3 : Int).toNat 0, a_0.getD (4 : Int).toNat 0, a_0.getD (5 : Int).toNat 0, a_0.getD (6 : Int).toNat 0, a_0.getD (7 : Int).toNat 0, 0)).bind fun cr => match cr with | .ret r => some r | .next (y118, y119, y120, y121, y122, y123, y124, y125, y126) => some ([IntKind.wrap .u32 ((a_0.getD (0 : Int).toNat 0) + y118), IntKind.wrap .u32 ((a_0.getD (1 : Int).toNat 0) + y119), IntKind.wrap .u32 ((a_0.getD (2 : Int).toNat 0) + y120), IntKind.wrap .u32 ((a_0.getD (3 : Int).toNat 0) + y121), IntKind.wrap .u32 ((a_0.getD (4 : Int).toNat 0) + y122), IntKind.wrap .u32 ((a_0.getD (5 : Int).toNat 0) + y123), IntKind.wrap .u32 ((a_0.getD (6 : Int).toNat 0) + y124), IntKind.wrap .u32 ((a_0.getD (7 : Int).toNat 0) + y125)] ++ List.replicate (8 - 8) 0))))))
theorem ref01_Block_ok {a_0 : List Int} {a_1 : List (UInt8)} {r : (List Int)} (hF : ref01_Block a_0 a_1 = some r) : CallOk Tryz.prog KG 113 [(aggVP [intsCk .u32 8 a_0]), (slVP bC a_1)] [] (fun _ => []) (aggVP [intsCk .u32 8 r]) := by
  refine CallOk.intro 231 Tryz.func113 rfl Tryz.ntmps113 (Nat.le_of_ble_eq_true rfl) ?_
  intro c a w hG hn h
  unfold ref01_Block at hF
  change SatL c [.slot 0 (aggVP [intsCk .u32 8 a_0]), .slot 1 (slVP bC a_1)] a w at h
  refine regS mixed hn hG h [1, 503, 501, 502, 500] (ob [0] (op_box q0 (cells_agg _)) <| ob [] (op_alloc Tryz.zeroValue181 z181) .nil) fun b1 a w h => ?_
  refine wp_seq ?_
  refine regS mixed hn hG h [0, 1, 2, 500, 3, 4] (ov [0] (op_move q0) <| ov [500] (op_len_sl Tryz.underlying180 q0) <| ov [500] (op_bin bin_neq q0 qi) .nil) fun _ a w h => ?_
  refine cnd h hF 3 [1, 2, 4, 5] [0, 1, 2, 4, 5] (fun hb3 hF h => ?_) (fun hb3 hF h => ?_)
  · refine regS mixed hn hG h [1, 500] (ov [0, 2] (op_load_w 1 Tryz.isAgg181 Tryz.sizeOf181 q0) <| ou [1, 500] 3 (op_store_w Tryz.sizeOf181 q0 q1 (cells_agg _)) .nil) fun _ a w h => ?_
    refine wp_ret ?_
    obtain rfl := Option.some.inj hF
    exact ⟨.inl rfl, ret1 h Tryz.results113 (r_cell 0 1 rfl rfl Tryz.isAgg181 Tryz.sizeOf181 rfl) [] [] rfl rfl rfl⟩
  · refine wp_skip ?_
    show Code.wp Tryz.prog _ _ a w
    obtain ⟨r4, hr4, hF⟩ := bind_some hF
    refine regS mixed hn hG h [0, 1, 2, 502, 3, 4, 500] (oc [] [] Tryz.call125 (ref01_constants_ok hr4) trivial <| ob [] (op_alloc Tryz.zeroValue237 z237) <| og [501, 502] [500] [.res 1 100000 (fun v1_ _ => (lb (v1_) 237 [intsCk .u32 64 r4]))] (GOk.plain (op_store_w Tryz.sizeOf237 q0 q1 (cells_agg _)) rfl) .nil) fun b5 a w h => ?_
    refine regS mixed hn hG h [0, 1, 2, 3, 501, 4, 5, 6, 500] (ob [] (op_alloc Tryz.zeroValue237 z237) .nil) fun b6 a w h => ?_
    refine wp_seq ?_
    refine regS mixed hn hG h [0, 1, 2, 3, 4, 500, 5, 6, 7, 8] (ov [] (op_assign qi) .nil) fun _ a w h => ?_
    refine wp_block ?_
    obtain ⟨cr28, hl29, hF⟩ := bind_some hF
    refine wp_mono (wp_loopN (R := (List Int)) (S := Int × (List Int)) (fun s a w => SatL c [.slot 1 (slVP bC a_1), .slot 2 (lpVP (b1 0) 0), .slot 4 (lpVP (b1 1) 0), .slot 5 (lpVP (b5 1) 0), .slot 6 (lpVP (b6 0) 0), .slot 7 (intVP .i64 s.1), .res (lb (b1 0) 181 [intsCk .u32 8 a_0]), .res (lb (b1 1) 181 [intsCk .u32 8 (List.replicate 8 0)]), .res (lb (b5 1) 237 [intsCk .u32 64 r4]), .res (lb (b6 0) 237 [intsCk .u32 64 s.2])] a w) (fun res e a w => match res with | .next s => e = .exit 0 ∧ SatL c [.slot 2 (lpVP (b1 0) 0), .slot 4 (lpVP (b1 1) 0), .slot 5 (lpVP (b5 1) 0), .slot 6 (lpVP (b6 0) 0), .res (lb (b1 0) 181 [intsCk .u32 8 a_0]), .res (lb (b1 1) 181 [intsCk .u32 8 (List.replicate 8 0)]), .res (lb (b5 1) 237 [intsCk .u32 64 r4]), .res (lb (b6 0) 237 [intsCk .u32 64 s.2])] a w | .ret r => e = .ret ∧ RetOk Tryz.prog Tryz.f113 c (aggVP [intsCk .u32 8 r]) (fun _ => []) a w) ?_ _ (0, (List.replicate 64 0)) _ _ _ (h.sub [0, 1, 2, 3, 4, 5, 6, 7, 8, 9] (by rfl)) hl29) ?_
    · clear hl29 hF h
      intro s a w o h hF
      obtain ⟨x12, x13⟩ := s
      change ref01_Block.b1 a_1 x12 x13 = some o at hF
      unfold ref01_Block.b1 at hF
      change SatL c [.slot 1 (slVP bC a_1), .slot 2 (lpVP (b1 0) 0), .slot 4 (lpVP (b1 1) 0), .slot 5 (lpVP (b5 1) 0), .slot 6 (lpVP (b6 0) 0), .slot 7 (intVP .i64 x12), .res (lb (b1 0) 181 [intsCk .u32 8 a_0]), .res (lb (b1 1) 181 [intsCk .u32 8 (List.replicate 8 0)]), .res (lb (b5 1) 237 [intsCk .u32 64 r4]), .res (lb (b6 0) 237 [intsCk .u32 64 x13])] a w at h
      refine wp_seq ?_
      refine regS mixed hn hG h [0, 1, 2, 3, 4, 5, 500, 6, 7, 8, 9] (ov [5] (op_move q0) <| ov [500] (op_bin bin_lss q0 qi) .nil) fun _ a w h => ?_
      refine cnd h hF 6 [0, 1, 2, 3, 4, 5, 7, 8, 9, 10] [0, 1, 2, 3, 4, 5, 7, 8, 9, 10] (fun hb22 hF h => ?_) (fun hb22 hF h => ?_)
      · refine wp_skip ?_
        show Code.wp Tryz.prog _ _ a w
        refine wp_seq ?_
        refine wp_block ?_
        obtain ⟨hv23, hF⟩ := ite_some hF
        obtain ⟨hv24, hF⟩ := ite_some hF
        obtain ⟨hv25, hF⟩ := ite_some hF
        obtain ⟨hv26, hF⟩ := ite_some hF
        obtain ⟨hv27, hF⟩ := ite_some hF
        refine reg mixed hn hG h [0, 1, 2, 3, 4, 5, 6, 7, 8, 500] (ov [5] (op_move q0) <| ov [0] (op_move q0) <| ov [5] (op_move q0) <| ov [500] (op_bin bin_mul qi q0) <| ov [502, 500] (op_indexAddr_sl Tryz.underlying180 Tryz.sizeOf5 lens_bC q0 q1 hv23) <| ov [500] (op_load_pp1 [] Tryz.isAgg5 q0) <| ov [500] (op_convert_int Tryz.underlying5 Tryz.underlying22 q0) <| ov [500] (op_bin bin_mul q0 qi) <| ov [0] (op_move q0) <| ov [5] (op_move q0) <| ov [500] (op_bin bin_mul qi q0) <| ov [500] (op_bin bin_add q0 qi) <| ov [503, 500] (op_indexAddr_sl Tryz.underlying180 Tryz.sizeOf5 lens_bC q0 q1 hv24) <| ov [500] (op_load_pp1 [] Tryz.isAgg5 q0) <| ov [500] (op_convert_int Tryz.underlying5 Tryz.underlying22 q0) <| ov [500] (op_bin bin_mul q0 qi) <| ov [508, 500] (op_bin bin_add q0 q1) <| ov [0] (op_move q0) <| ov [5] (op_move q0) <| ov [500] (op_bin bin_mul qi q0) <| ov [500] (op_bin bin_add q0 qi) <| ov [503, 500] (op_indexAddr_sl Tryz.underlying180 Tryz.sizeOf5 lens_bC q0 q1 hv25) <| ov [500] (op_load_pp1 [] Tryz.isAgg5 q0) <| ov [500] (op_convert_int Tryz.underlying5 Tryz.underlying22 q0) <| ov [500] (op_bin bin_mul q0 qi) <| ov [508, 500] (op_bin bin_add q0 q1) <| ov [0] (op_move q0) <| ov [5] (op_move q0) <| ov [500] (op_bin bin_mul qi q0) <| ov [500] (op_bin bin_add q0 qi) <| ov [503, 500] (op_indexAddr_sl Tryz.underlying180 Tryz.sizeOf5 lens_bC q0 q1 hv26) <| ov [500] (op_load_pp1 [] Tryz.isAgg5 q0) <| ov [500] (op_convert_int Tryz.underlying5 Tryz.underlying22 q0) <| ov [507, 500] (op_bin bin_add q0 q1) <| ov [4, 533] (op_indexAddr_lb Tryz.underlying237 Tryz.sizeOf22 q0 q1 hv27) <| ou [500, 501] 9 (op_store_lbI (i := x12) [] [] Tryz.sizeOf22 q0 q1 rfl hv27) .nil) fun _ a w h => ?_
        show Code.wp Tryz.prog _ _ a w
        refine reg mixed hn hG h [0, 1, 2, 3, 4, 500, 6, 7, 8, 9] (ov [5] (op_move q0) <| ov [500] (op_bin bin_add q0 qi) <| od [500] 5 (op_assign q0) .nil) fun _ a w h => ?_
        obtain rfl := Option.some.inj hF
        exact ⟨rfl, h.sub [0, 1, 2, 3, 4, 5, 6, 7, 8, 9] (by rfl)⟩
      · refine wp_exit ?_
        obtain rfl := Option.some.inj hF
        exact ⟨exit_ne _, rfl, h.sub [1, 2, 3, 4, 6, 7, 8, 9] (by rfl)⟩
    · clear hl29
      intro e a w hq
      cases cr28 with
      | ret r30 =>
        obtain ⟨rfl, hq⟩ := hq
        obtain rfl := Option.some.inj hF
        exact ⟨.inl rfl, hq⟩
      | next s31 =>
        obtain ⟨y32, y33⟩ := s31
        obtain ⟨rfl, h⟩ := hq
        change SatL c [.slot 2 (lpVP (b1 0) 0), .slot 4 (lpVP (b1 1) 0), .slot 5 (lpVP (b5 1) 0), .slot 6 (lpVP (b6 0) 0), .res (lb (b1 0) 181 [intsCk .u32 8 a_0]), .res (lb (b1 1) 181 [intsCk .u32 8 (List.replicate 8 0)]), .res (lb (b5 1) 237 [intsCk .u32 64 r4]), .res (lb (b6 0) 237 [intsCk .u32 64 y33])] a w at h
        refine inBlock_at ?_
        show Code.wp Tryz.prog _ _ a w
        refine wp_seq ?_
        refine regS mixed hn hG h [0, 1, 2, 3, 500, 4, 5, 6, 7] (ov [] (op_assign qi) .nil) fun _ a w h => ?_
        refine wp_block ?_
        obtain ⟨cr67, hl68, hF⟩ := bind_some hF
        refine wp_mono (wp_loopN (R := (List Int)) (S := Int × (List Int)) (fun s a w => SatL c [.slot 2 (lpVP (b1 0) 0), .slot 4 (lpVP (b1 1) 0), .slot 5 (lpVP (b5 1) 0), .slot 6 (lpVP (b6 0) 0), .slot 8 (intVP .i64 s.1), .res (lb (b1 0) 181 [intsCk .u32 8 a_0]), .res (lb (b1 1) 181 [intsCk .u32 8 (List.replicate 8 0)]), .res (lb (b5 1) 237 [intsCk .u32 64 r4]), .res (lb (b6 0) 237 [intsCk .u32 64 s.2])] a w) (fun res e a w => match res with | .next s => e = .exit 2 ∧ SatL c [.slot 2 (lpVP (b1 0) 0), .slot 4 (lpVP (b1 1) 0), .slot 5 (lpVP (b5 1) 0), .slot 6 (lpVP (b6 0) 0), .res (lb (b1 0) 181 [intsCk .u32 8 a_0]), .res (lb (b1 1) 181 [intsCk .u32 8 (List.replicate 8 0)]), .res (lb (b5 1) 237 [intsCk .u32 64 r4]), .res (lb (b6 0) 237 [intsCk .u32 64 s.2])] a w | .ret r => e = .ret ∧ RetOk Tryz.prog Tryz.f113 c (aggVP [intsCk .u32 8 r]) (fun _ => []) a w) ?_ _ (16, y33) _ _ _ (h.sub [0, 1, 2, 3, 4, 5, 6, 7, 8] (by rfl)) hl68) ?_
        · clear hl68 hF h
          intro s a w o h hF
          obtain ⟨x43, x44⟩ := s
          change ref01_Block.b2 x43 x44 = some o at hF
          unfold ref01_Block.b2 at hF
          change SatL c [.slot 2 (lpVP (b1 0) 0), .slot 4 (lpVP (b1 1) 0), .slot 5 (lpVP (b5 1) 0), .slot 6 (lpVP (b6 0) 0), .slot 8 (intVP .i64 x43), .res (lb (b1 0) 181 [intsCk .u32 8 a_0]), .res (lb (b1 1) 181 [intsCk .u32 8 (List.replicate 8 0)]), .res (lb (b5 1) 237 [intsCk .u32 64 r4]), .res (lb (b6 0) 237 [intsCk .u32 64 x44])] a w at h
          refine wp_seq ?_
          refine regS mixed hn hG h [0, 1, 2, 3, 4, 500, 5, 6, 7, 8] (ov [4] (op_move q0) <| ov [500] (op_bin bin_lss q0 qi) .nil) fun _ a w h => ?_
          refine cnd h hF 5 [0, 1, 2, 3, 4, 6, 7, 8, 9] [0, 1, 2, 3, 4, 6, 7, 8, 9] (fun hb57 hF h => ?_) (fun hb57 hF h => ?_)
          · refine wp_skip ?_
            show Code.wp Tryz.prog _ _ a w
            refine wp_seq ?_
            refine wp_block ?_
            obtain ⟨hv58, hF⟩ := ite_some hF
            obtain ⟨r59, hr59, hF⟩ := bind_some hF
            obtain ⟨r60, hr60, hF⟩ := bind_some hF
            refine regS mixed hn hG h [0, 1, 2, 3, 4, 500, 5, 6, 7, 8] (ov [4] (op_move q0) <| ov [500] (op_bin bin_sub q0 qi) <| ov [3, 500] (op_indexAddr_lb Tryz.underlying237 Tryz.sizeOf22 q0 q1 hv58) <| ov [500, 8] (op_load_lbI (i := IntKind.wrap .i64 (x43 - 15)) [] [] 1 Tryz.isAgg22 q0 rfl rfl hv58) <| oc [500] [] Tryz.call126 (ref01_turn_ok hr59) ⟨q0, qi, trivial⟩ <| ov [4] (op_move q0) <| ov [500] (op_bin bin_sub q0 qi) <| ov [3, 500] (op_indexAddr_lb Tryz.underlying237 Tryz.sizeOf22 q0 q1 hv58) <| ov [500, 8] (op_load_lbI (i := IntKind.wrap .i64 (x43 - 15)) [] [] 1 Tryz.isAgg22 q0 rfl rfl hv58) <| oc [500] [] Tryz.call126 (ref01_turn_ok hr60) ⟨q0, qi, trivial⟩ <| ov [505, 500] (op_bin bin_xor q0 q1) <| ov [4] (op_move q0) <| ov [500] (op_bin bin_sub q0 qi) <| ov [3, 500] (op_indexAddr_lb Tryz.underlying237 Tryz.sizeOf22 q0 q1 hv58) <| ov [500, 8] (op_load_lbI (i := IntKind.wrap .i64 (x43 - 15)) [] [] 1 Tryz.isAgg22 q0 rfl rfl hv58) <| ov [500] (op_bin (bin_shru rfl) q0 qi) <| ov [505, 500] (op_bin bin_xor q0 q1) <| ov [500] (op_assign q0) .nil) fun _ a w h => ?_
            obtain ⟨hv61, hF⟩ := ite_some hF
            obtain ⟨r62, hr62, hF⟩ := bind_some hF
            obtain ⟨r63, hr63, hF⟩ := bind_some hF
            refine regS mixed hn hG h [0, 1, 2, 3, 4, 5, 500, 6, 7, 8, 9] (ov [4] (op_move q0) <| ov [500] (op_bin bin_sub q0 qi) <| ov [3, 500] (op_indexAddr_lb Tryz.underlying237 Tryz.sizeOf22 q0 q1 hv61) <| ov [500, 9] (op_load_lbI (i := IntKind.wrap .i64 (x43 - 2)) [] [] 1 Tryz.isAgg22 q0 rfl rfl hv61) <| oc [500] [] Tryz.call126 (ref01_turn_ok hr62) ⟨q0, qi, trivial⟩ <| ov [4] (op_move q0) <| ov [500] (op_bin bin_sub q0 qi) <| ov [3, 500] (op_indexAddr_lb Tryz.underlying237 Tryz.sizeOf22 q0 q1 hv61) <| ov [500, 9] (op_load_lbI (i := IntKind.wrap .i64 (x43 - 2)) [] [] 1 Tryz.isAgg22 q0 rfl rfl hv61) <| oc [500] [] Tryz.call126 (ref01_turn_ok hr63) ⟨q0, qi, trivial⟩ <| ov [505, 500] (op_bin bin_xor q0 q1) <| ov [4] (op_move q0) <| ov [500] (op_bin bin_sub q0 qi) <| ov [3, 500] (op_indexAddr_lb Tryz.underlying237 Tryz.sizeOf22 q0 q1 hv61) <| ov [500, 9] (op_load_lbI (i := IntKind.wrap .i64 (x43 - 2)) [] [] 1 Tryz.isAgg22 q0 rfl rfl hv61) <| ov [500] (op_bin (bin_shru rfl) q0 qi) <| ov [505, 500] (op_bin bin_xor q0 q1) <| ov [500] (op_assign q0) .nil) fun _ a w h => ?_
            obtain ⟨hv64, hF⟩ := ite_some hF
            obtain ⟨hv65, hF⟩ := ite_some hF
            obtain ⟨hv66, hF⟩ := ite_some hF
            refine reg mixed hn hG h [0, 1, 2, 3, 4, 7, 8, 9, 500] (ov [4] (op_move q0) <| ov [4] (op_move q0) <| ov [500] (op_bin bin_sub q0 qi) <| ov [3, 500] (op_indexAddr_lb Tryz.underlying237 Tryz.sizeOf22 q0 q1 hv64) <| ov [500, 10] (op_load_lbI (i := IntKind.wrap .i64 (x43 - 16)) [] [] 1 Tryz.isAgg22 q0 rfl rfl hv64) <| ov [5] (op_move q0) <| ov [501, 500] (op_bin bin_add q0 q1) <| ov [4] (op_move q0) <| ov [500] (op_bin bin_sub q0 qi) <| ov [3, 500] (op_indexAddr_lb Tryz.underlying237 Tryz.sizeOf22 q0 q1 hv65) <| ov [500, 10] (op_load_lbI (i := IntKind.wrap .i64 (x43 - 7)) [] [] 1 Tryz.isAgg22 q0 rfl rfl hv65) <| ov [504, 500] (op_bin bin_add q0 q1) <| ov [6] (op_move q0) <| ov [501, 500] (op_bin bin_add q0 q1) <| ov [3, 513] (op_indexAddr_lb Tryz.underlying237 Tryz.sizeOf22 q0 q1 hv66) <| ou [500, 501] 10 (op_store_lbI (i := x43) [] [] Tryz.sizeOf22 q0 q1 rfl hv66) .nil) fun _ a w h => ?_
            show Code.wp Tryz.prog _ _ a w
            refine reg mixed hn hG h [0, 1, 2, 3, 500, 5, 6, 7, 8] (ov [4] (op_move q0) <| ov [500] (op_bin bin_add q0 qi) <| od [500] 4 (op_assign q0) .nil) fun _ a w h => ?_
            obtain rfl := Option.some.inj hF
            exact ⟨rfl, h.sub [0, 1, 2, 3, 4, 5, 6, 7, 8] (by rfl)⟩
          · refine wp_exit ?_
            obtain rfl := Option.some.inj hF
            exact ⟨exit_ne _, rfl, h.sub [0, 1, 2, 3, 5, 6, 7, 8] (by rfl)⟩
        · clear hl68
          intro e a w hq
          cases cr67 with
          | ret r69 =>
            obtain ⟨rfl, hq⟩ := hq
            obtain rfl := Option.some.inj hF
            exact ⟨.inl rfl, hq⟩
          | next s70 =>
            obtain ⟨y71, y72⟩ := s70
            obtain ⟨rfl, h⟩ := hq
            change SatL c [.slot 2 (lpVP (b1 0) 0), .slot 4 (lpVP (b1 1) 0), .slot 5 (lpVP (b5 1) 0), .slot 6 (lpVP (b6 0) 0), .res (lb (b1 0) 181 [intsCk .u32 8 a_0]), .res (lb (b1 1) 181 [intsCk .u32 8 (List.replicate 8 0)]), .res (lb (b5 1) 237 [intsCk .u32 64 r4]), .res (lb (b6 0) 237 [intsCk .u32 64 y72])] a w at h
            refine inBlock_at ?_
            show Code.wp Tryz.prog _ _ a w
            refine regS mixed hn hG h [0, 1, 2, 3, 507, 506, 505, 504, 503, 502, 501, 500, 4, 5, 6, 7] (ov [0] (op_indexAddr_lb Tryz.underlying181 Tryz.sizeOf22 q0 qi (by decide)) <| ov [500, 4] (op_load_lbI (i := 0) [] [] 1 Tryz.isAgg22 q0 rfl rfl (by decide)) <| ov [0] (op_indexAddr_lb Tryz.underlying181 Tryz.sizeOf22 q0 qi (by decide)) <| ov [500, 4] (op_load_lbI (i := 1) [] [] 1 Tryz.isAgg22 q0 rfl rfl (by decide)) <| ov [0] (op_indexAddr_lb Tryz.underlying181 Tryz.sizeOf22 q0 qi (by decide)) <| ov [500, 4] (op_load_lbI (i := 2) [] [] 1 Tryz.isAgg22 q0 rfl rfl (by decide)) <| ov [0] (op_indexAddr_lb Tryz.underlying181 Tryz.sizeOf22 q0 qi (by decide)) <| ov [500, 4] (op_load_lbI (i := 3) [] [] 1 Tryz.isAgg22 q0 rfl rfl (by decide)) <| ov [0] (op_indexAddr_lb Tryz.underlying181 Tryz.sizeOf22 q0 qi (by decide)) <| ov [500, 4] (op_load_lbI (i := 4) [] [] 1 Tryz.isAgg22 q0 rfl rfl (by decide)) <| ov [0] (op_indexAddr_lb Tryz.underlying181 Tryz.sizeOf22 q0 qi (by decide)) <| ov [500, 4] (op_load_lbI (i := 5) [] [] 1 Tryz.isAgg22 q0 rfl rfl (by decide)) <| ov [0] (op_indexAddr_lb Tryz.underlying181 Tryz.sizeOf22 q0 qi (by decide)) <| ov [500, 4] (op_load_lbI (i := 6) [] [] 1 Tryz.isAgg22 q0 rfl rfl (by decide)) <| ov [0] (op_indexAddr_lb Tryz.underlying181 Tryz.sizeOf22 q0 qi (by decide)) <| ov [500, 4] (op_load_lbI (i := 7) [] [] 1 Tryz.isAgg22 q0 rfl rfl (by decide)) <| ov [514] (op_assign q0) <| ov [513] (op_assign q0) <| ov [512] (op_assign q0) <| ov [511] (op_assign q0) <| ov [510] (op_assign q0) <| ov [509] (op_assign q0) <| ov [508] (op_assign q0) <| ov [507] (op_assign q0) .nil) fun _ a w h => ?_
            refine wp_seq ?_
            refine regS mixed hn hG h [0, 1, 2, 3, 4, 5, 6, 7, 8, 9, 10, 11, 500, 12, 13, 14, 15] (ov [] (op_assign qi) .nil) fun _ a w h => ?_
            refine wp_block ?_
            obtain ⟨cr114, hl115, hF⟩ := bind_some hF
            refine wp_mono (wp_loopN (R := (List Int)) (S := Int × Int × Int × Int × Int × Int × Int × Int × Int) (fun s a w => SatL c [.slot 2 (lpVP (b1 0) 0), .slot 4 (lpVP (b1 1) 0), .slot 5 (lpVP (b5 1) 0), .slot 6 (lpVP (b6 0) 0), .slot 11 (intVP .u32 s.1), .slot 12 (intVP .u32 s.2.1), .slot 13 (intVP .u32 s.2.2.1), .slot 14 (intVP .u32 s.2.2.2.1), .slot 15 (intVP .u32 s.2.2.2.2.1), .slot 16 (intVP .u32 s.2.2.2.2.2.1), .slot 17 (intVP .u32 s.2.2.2.2.2.2.1), .slot 18 (intVP .u32 s.2.2.2.2.2.2.2.1), .slot 19 (intVP .i64 s.2.2.2.2.2.2.2.2), .res (lb (b1 0) 181 [intsCk .u32 8 a_0]), .res (lb (b1 1) 181 [intsCk .u32 8 (List.replicate 8 0)]), .res (lb (b5 1) 237 [intsCk .u32 64 r4]), .res (lb (b6 0) 237 [intsCk .u32 64 y72])] a w) (fun res e a w => match res with | .next s => e = .exit 4 ∧ SatL c [.slot 2 (lpVP (b1 0) 0), .slot 4 (lpVP (b1 1) 0), .slot 11 (intVP .u32 s.1), .slot 12 (intVP .u32 s.2.1), .slot 13 (intVP .u32 s.2.2.1), .slot 14 (intVP .u32 s.2.2.2.1), .slot 15 (intVP .u32 s.2.2.2.2.1), .slot 16 (intVP .u32 s.2.2.2.2.2.1), .slot 17 (intVP .u32 s.2.2.2.2.2.2.1), .slot 18 (intVP .u32 s.2.2.2.2.2.2.2.1), .res (lb (b1 0) 181 [intsCk .u32 8 a_0]), .res (lb (b1 1) 181 [intsCk .u32 8 (List.replicate 8 0)])] a w | .ret r => e = .ret ∧ RetOk Tryz.prog Tryz.f113 c (aggVP [intsCk .u32 8 r]) (fun _ => []) a w) ?_ _ (a_0.getD (0 : Int).toNat 0, a_0.getD (1 : Int).toNat 0, a_0.getD (2 : Int).toNat 0, a_0.getD (3 : Int).toNat 0, a_0.getD (4 : Int).toNat 0, a_0.getD (5 : Int).toNat 0, a_0.getD (6 : Int).toNat 0, a_0.getD (7 : Int).toNat 0, 0) _ _ _ (h.sub [0, 1, 2, 3, 4, 5, 6, 7, 8, 9, 10, 11, 12, 13, 14, 15, 16] (by rfl)) hl115) ?_
            · clear hl115 hF h
              intro s a w o h hF
              obtain ⟨x80, x81, x82, x83, x84, x85, x86, x87, x88⟩ := s
              change ref01_Block.b3 r4 y72 x80 x81 x82 x83 x84 x85 x86 x87 x88 = some o at hF
              unfold ref01_Block.b3 at hF
              change SatL c [.slot 2 (lpVP (b1 0) 0), .slot 4 (lpVP (b1 1) 0), .slot 5 (lpVP (b5 1) 0), .slot 6 (lpVP (b6 0) 0), .slot 11 (intVP .u32 x80), .slot 12 (intVP .u32 x81), .slot 13 (intVP .u32 x82), .slot 14 (intVP .u32 x83), .slot 15 (intVP .u32 x84), .slot 16 (intVP .u32 x85), .slot 17 (intVP .u32 x86), .slot 18 (intVP .u32 x87), .slot 19 (intVP .i64 x88), .res (lb (b1 0) 181 [intsCk .u32 8 a_0]), .res (lb (b1 1) 181 [intsCk .u32 8 (List.replicate 8 0)]), .res (lb (b5 1) 237 [intsCk .u32 64 r4]), .res (lb (b6 0) 237 [intsCk .u32 64 y72])] a w at h
              refine wp_seq ?_
              refine regS mixed hn hG h [0, 1, 2, 3, 4, 5, 6, 7, 8, 9, 10, 11, 12, 500, 13, 14, 15, 16] (ov [12] (op_move q0) <| ov [500] (op_bin bin_lss q0 qi) .nil) fun _ a w h => ?_
              refine cnd h hF 13 [0, 1, 2, 3, 4, 5, 6, 7, 8, 9, 10, 11, 12, 14, 15, 16, 17] [0, 1, 2, 3, 4, 5, 6, 7, 8, 9, 10, 11, 12, 14, 15, 16, 17] (fun hb106 hF h => ?_) (fun hb106 hF h => ?_)
              · refine wp_skip ?_
                show Code.wp Tryz.prog _ _ a w
                refine wp_seq ?_
                refine wp_block ?_
                obtain ⟨r107, hr107, hF⟩ := bind_some hF
                obtain ⟨r108, hr108, hF⟩ := bind_some hF
                obtain ⟨r109, hr109, hF⟩ := bind_some hF
                obtain ⟨hv110, hF⟩ := ite_some hF
                refine regS mixed hn hG h [0, 1, 2, 3, 4, 5, 6, 7, 8, 9, 10, 12, 500, 13, 14, 15, 16] (ov [11] (op_move q0) <| ov [8] (op_move q0) <| oc [500] [] Tryz.call126 (ref01_turn_ok hr107) ⟨q0, qi, trivial⟩ <| ov [8] (op_move q0) <| oc [500] [] Tryz.call126 (ref01_turn_ok hr108) ⟨q0, qi, trivial⟩ <| ov [502, 500] (op_bin bin_xor q0 q1) <| ov [8] (op_move q0) <| oc [500] [] Tryz.call126 (ref01_turn_ok hr109) ⟨q0, qi, trivial⟩ <| ov [502, 500] (op_bin bin_xor q0 q1) <| ov [508, 500] (op_bin bin_add q0 q1) <| ov [8] (op_move q0) <| ov [9] (op_move q0) <| ov [501, 500] (op_bin bin_and q0 q1) <| ov [8] (op_move q0) <| ov [500] (op_bin bin_xor qi q0) <| ov [10] (op_move q0) <| ov [501, 500] (op_bin bin_and q0 q1) <| ov [504, 500] (op_bin bin_xor q0 q1) <| ov [508, 500] (op_bin bin_add q0 q1) <| ov [12] (op_move q0) <| ov [2, 500] (op_indexAddr_lb Tryz.underlying237 Tryz.sizeOf22 q0 q1 hv110) <| ov [500, 15] (op_load_lbI (i := x88) [] [] 1 Tryz.isAgg22 q0 rfl rfl hv110) <| ov [503, 500] (op_bin bin_add q0 q1) <| ov [12] (op_move q0) <| ov [3, 500] (op_indexAddr_lb Tryz.underlying237 Tryz.sizeOf22 q0 q1 hv110) <| ov [500, 16] (op_load_lbI (i := x88) [] [] 1 Tryz.isAgg22 q0 rfl rfl hv110) <| ov [503, 500] (op_bin bin_add q0 q1) <| ov [500] (op_assign q0) .nil) fun _ a w h => ?_
                obtain ⟨r111, hr111, hF⟩ := bind_some hF
                obtain ⟨r112, hr112, hF⟩ := bind_some hF
                obtain ⟨r113, hr113, hF⟩ := bind_some hF
                refine regS mixed hn hG h [0, 1, 2, 3, 4, 5, 6, 7, 8, 9, 10, 11, 12, 500, 13, 14, 15, 16] (ov [4] (op_move q0) <| oc [500] [] Tryz.call126 (ref01_turn_ok hr111) ⟨q0, qi, trivial⟩ <| ov [4] (op_move q0) <| oc [500] [] Tryz.call126 (ref01_turn_ok hr112) ⟨q0, qi, trivial⟩ <| ov [502, 500] (op_bin bin_xor q0 q1) <| ov [4] (op_move q0) <| oc [500] [] Tryz.call126 (ref01_turn_ok hr113) ⟨q0, qi, trivial⟩ <| ov [502, 500] (op_bin bin_xor q0 q1) <| ov [4] (op_move q0) <| ov [5] (op_move q0) <| ov [501, 500] (op_bin bin_and q0 q1) <| ov [4] (op_move q0) <| ov [6] (op_move q0) <| ov [501, 500] (op_bin bin_and q0 q1) <| ov [503, 500] (op_bin bin_xor q0 q1) <| ov [5] (op_move q0) <| ov [6] (op_move q0) <| ov [501, 500] (op_bin bin_and q0 q1) <| ov [503, 500] (op_bin bin_xor q0 q1) <| ov [511, 500] (op_bin bin_add q0 q1) <| ov [500] (op_assign q0) .nil) fun _ a w h => ?_
                refine regS mixed hn hG h [0, 1, 2, 3, 4, 5, 6, 7, 8, 9, 500, 11, 12, 13, 14, 15, 16, 17] (ov [10] (op_move q0) <| ov [500] (op_assign q0) .nil) fun _ a w h => ?_
                refine regS mixed hn hG h [0, 1, 2, 3, 4, 5, 6, 7, 8, 500, 10, 11, 12, 13, 14, 15, 16, 17] (ov [9] (op_move q0) <| ov [500] (op_assign q0) .nil) fun _ a w h => ?_
                refine regS mixed hn hG h [0, 1, 2, 3, 4, 5, 6, 7, 500, 9, 10, 11, 12, 13, 14, 15, 16, 17] (ov [8] (op_move q0) <| ov [500] (op_assign q0) .nil) fun _ a w h => ?_
                refine regS mixed hn hG h [0, 1, 2, 3, 4, 5, 6, 500, 8, 9, 10, 11, 12, 13, 14, 15, 16, 17] (ov [7] (op_move q0) <| ov [12] (op_move q0) <| ov [501, 500] (op_bin bin_add q0 q1) <| ov [500] (op_assign q0) .nil) fun _ a w h => ?_
                refine regS mixed hn hG h [0, 1, 2, 3, 4, 5, 500, 7, 8, 9, 10, 11, 12, 13, 14, 15, 16, 17] (ov [6] (op_move q0) <| ov [500] (op_assign q0) .nil) fun _ a w h => ?_
                refine regS mixed hn hG h [0, 1, 2, 3, 4, 500, 6, 7, 8, 9, 10, 11, 12, 13, 14, 15, 16, 17] (ov [5] (op_move q0) <| ov [500] (op_assign q0) .nil) fun _ a w h => ?_
                refine regS mixed hn hG h [0, 1, 2, 3, 500, 5, 6, 7, 8, 9, 10, 11, 12, 13, 14, 15, 16, 17] (ov [4] (op_move q0) <| ov [500] (op_assign q0) .nil) fun _ a w h => ?_
                refine reg mixed hn hG h [0, 1, 2, 3, 500, 4, 5, 6, 7, 8, 9, 10, 11, 14, 15, 16, 17] (ov [12] (op_move q0) <| ov [13] (op_move q0) <| ov [501, 500] (op_bin bin_add q0 q1) <| ov [500] (op_assign q0) .nil) fun _ a w h => ?_
                show Code.wp Tryz.prog _ _ a w
                refine reg mixed hn hG h [0, 1, 2, 3, 4, 5, 6, 7, 8, 9, 10, 11, 500, 13, 14, 15, 16] (ov [12] (op_move q0) <| ov [500] (op_bin bin_add q0 qi) <| od [500] 12 (op_assign q0) .nil) fun _ a w h => ?_
                obtain rfl := Option.some.inj hF
                exact ⟨rfl, h.sub [0, 1, 2, 3, 4, 5, 6, 7, 8, 9, 10, 11, 12, 13, 14, 15, 16] (by rfl)⟩
              · refine wp_exit ?_
                obtain rfl := Option.some.inj hF
                exact ⟨exit_ne _, rfl, h.sub [0, 1, 4, 5, 6, 7, 8, 9, 10, 11, 13, 14] (by rfl)⟩
            · clear hl115
              intro e a w hq
              cases cr114 with
              | ret r116 =>
                obtain ⟨rfl, hq⟩ := hq
                obtain rfl := Option.some.inj hF
                exact ⟨.inl rfl, hq⟩
              | next s117 =>
                obtain ⟨y118, y119, y120, y121, y122, y123, y124, y125, y126⟩ := s117
                obtain ⟨rfl, h⟩ := hq
                change SatL c [.slot 2 (lpVP (b1 0) 0), .slot 4 (lpVP (b1 1) 0), .slot 11 (intVP .u32 y118), .slot 12 (intVP .u32 y119), .slot 13 (intVP .u32 y120), .slot 14 (intVP .u32 y121), .slot 15 (intVP .u32 y122), .slot 16 (intVP .u32 y123), .slot 17 (intVP .u32 y124), .slot 18 (intVP .u32 y125), .res (lb (b1 0) 181 [intsCk .u32 8 a_0]), .res (lb (b1 1) 181 [intsCk .u32 8 (List.replicate 8 0)])] a w at h
                refine inBlock_at ?_
                show Code.wp Tryz.prog _ _ a w
                refine regS mixed hn hG h [1, 500] (ov [0] (op_indexAddr_lb Tryz.underlying181 Tryz.sizeOf22 q0 qi (by decide)) <| ov [500, 10] (op_load_lbI (i := 0) [] [] 1 Tryz.isAgg22 q0 rfl rfl (by decide)) <| ov [2] (op_move q0) <| ov [501, 500] (op_bin bin_add q0 q1) <| ov [0] (op_indexAddr_lb Tryz.underlying181 Tryz.sizeOf22 q0 qi (by decide)) <| ov [500, 10] (op_load_lbI (i := 1) [] [] 1 Tryz.isAgg22 q0 rfl rfl (by decide)) <| ov [3] (op_move q0) <| ov [501, 500] (op_bin bin_add q0 q1) <| ov [0] (op_indexAddr_lb Tryz.underlying181 Tryz.sizeOf22 q0 qi (by decide)) <| ov [500, 10] (op_load_lbI (i := 2) [] [] 1 Tryz.isAgg22 q0 rfl rfl (by decide)) <| ov [4] (op_move q0) <| ov [501, 500] (op_bin bin_add q0 q1) <| ov [0] (op_indexAddr_lb Tryz.underlying181 Tryz.sizeOf22 q0 qi (by decide)) <| ov [500, 10] (op_load_lbI (i := 3) [] [] 1 Tryz.isAgg22 q0 rfl rfl (by decide)) <| ov [5] (op_move q0) <| ov [501, 500] (op_bin bin_add q0 q1) <| ov [0] (op_indexAddr_lb Tryz.underlying181 Tryz.sizeOf22 q0 qi (by decide)) <| ov [500, 10] (op_load_lbI (i := 4) [] [] 1 Tryz.isAgg22 q0 rfl rfl (by decide)) <| ov [6] (op_move q0) <| ov [501, 500] (op_bin bin_add q0 q1) <| ov [0] (op_indexAddr_lb Tryz.underlying181 Tryz.sizeOf22 q0 qi (by decide)) <| ov [500, 10] (op_load_lbI (i := 5) [] [] 1 Tryz.isAgg22 q0 rfl rfl (by decide)) <| ov [7] (op_move q0) <| ov [501, 500] (op_bin bin_add q0 q1) <| ov [0] (op_indexAddr_lb Tryz.underlying181 Tryz.sizeOf22 q0 qi (by decide)) <| ov [500, 10] (op_load_lbI (i := 6) [] [] 1 Tryz.isAgg22 q0 rfl rfl (by decide)) <| ov [8] (op_move q0) <| ov [501, 500] (op_bin bin_add q0 q1) <| ov [0] (op_indexAddr_lb Tryz.underlying181 Tryz.sizeOf22 q0 qi (by decide)) <| ov [500, 10] (op_load_lbI (i := 7) [] [] 1 Tryz.isAgg22 q0 rfl rfl (by decide)) <| ov [9] (op_move q0) <| ov [501, 500] (op_bin bin_add q0 q1) <| ov [528, 524, 520, 516, 512, 508, 504, 500] (op_buildI (xs := [.tmp 201, .tmp 205, .tmp 209, .tmp 213, .tmp 217, .tmp 221, .tmp 225, .tmp 229]) (ys := [IntKind.wrap .u32 ((a_0.getD (0 : Int).toNat 0) + y118), IntKind.wrap .u32 ((a_0.getD (1 : Int).toNat 0) + y119), IntKind.wrap .u32 ((a_0.getD (2 : Int).toNat 0) + y120), IntKind.wrap .u32 ((a_0.getD (3 : Int).toNat 0) + y121), IntKind.wrap .u32 ((a_0.getD (4 : Int).toNat 0) + y122), IntKind.wrap .u32 ((a_0.getD (5 : Int).toNat 0) + y123), IntKind.wrap .u32 ((a_0.getD (6 : Int).toNat 0) + y124), IntKind.wrap .u32 ((a_0.getD (7 : Int).toNat 0) + y125)]) rfl bu181 ⟨⟨_, q0, (cells_one (one_int _ _))⟩, ⟨_, q1, (cells_one (one_int _ _))⟩, ⟨_, q2, (cells_one (one_int _ _))⟩, ⟨_, q3, (cells_one (one_int _ _))⟩, ⟨_, (opt 4 rfl), (cells_one (one_int _ _))⟩, ⟨_, (opt 5 rfl), (cells_one (one_int _ _))⟩, ⟨_, (opt 6 rfl), (cells_one (one_int _ _))⟩, ⟨_, (opt 7 rfl), (cells_one (one_int _ _))⟩, trivial⟩ (by decide) rfl) <| ou [1, 500] 11 (op_store_w Tryz.sizeOf181 q0 q1 (cells_agg _)) .nil) fun _ a w h => ?_
                refine wp_ret ?_
                obtain rfl := Option.some.inj hF
                exact ⟨.inl rfl, ret1 h Tryz.results113 (r_cell 0 1 rfl rfl Tryz.isAgg181 Tryz.sizeOf181 rfl) [] [] rfl rfl rfl⟩

def ref01_After.b1 (x7 : List (UInt8)) (x8 : List Int) : Option (Flow ((List Int) × (List (UInt8))) ((List (UInt8)) × (List Int))) := (if (decide ((64 : Int) ≤ (x7.length : Int))) = true then (if (0 : Int) ≤ 0 ∧ (0 : Int) ≤ 64 ∧ (64 : Int) ≤ x7.length then ((ref01_Block x8 ((x7.take 64).drop (0 : Int).toNat)).bind fun r17 => (if (0 : Int) ≤ 64 ∧ (64 : Int) ≤ (x7.length : Int) ∧ (x7.length : Int) ≤ x7.length then some (.cont ((x7.take (x7.length : Int).toNat).drop 64, r17)) else none)) else none) else some (.brk (x7, x8)))
def ref01_After (a_0 : List Int) (a_1 : List (UInt8)) : Option ((List Int) × (List (UInt8))) := ((loopN (fun s : (List (UInt8)) × (List Int) => ref01_After.b1 s.1 s.2) (((a_1.length : Int) - 64 : Int).toNat + 2) (a_1, a_0)).bind fun cr => match cr with | .ret r => some r | .next (y23, y24) => some (y24, y23))
theorem ref01_After_ok {a_0 : List Int} {a_1 : List (UInt8)} {r : (List Int) × (List (UInt8))} (hF : ref01_After a_0 a_1 = some r) : CallOk Tryz.prog KG 88 [(aggVP [intsCk .u32 8 a_0]), (slVP bC a_1)] [] (fun _ => []) (tupVP [(aggVP [intsCk .u32 8 r.1]), (slVP bC r.2)]) := by
  refine CallOk.intro 17 Tryz.func88 rfl Tryz.ntmps88 (Nat.le_of_ble_eq_true rfl) ?_
  intro c a w hG hn h
  unfold ref01_After at hF
  change SatL c [.slot 0 (aggVP [intsCk .u32 8 a_0]), .slot 1 (slVP bC a_1)] a w at h
  refine regS mixed hn hG h [1, 504, 502, 503, 501] (ob [0] (op_box q0 (cells_agg _)) <| ob [] (op_alloc Tryz.zeroValue181 z181) <| ov [] (op_assign (opc (ec _))) .nil) fun b1 a w h => ?_
  refine wp_seq ?_
  refine wp_block ?_
  obtain ⟨cr19, hl20, hF⟩ := bind_some hF
  refine wp_mono (wp_loopN (R := (List Int) × (List (UInt8))) (S := (List (UInt8)) × (List Int)) (fun s a w => SatL c [.slot 1 (slVP bC s.1), .slot 2 (lpVP (b1 0) 0), .slot 4 (lpVP (b1 1) 0), .res (lb (b1 0) 181 [intsCk .u32 8 s.2]), .res (lb (b1 1) 181 [intsCk .u32 8 (List.replicate 8 0)])] a w) (fun res e a w => match res with | .next s => e = .exit 0 ∧ SatL c [.slot 1 (slVP bC s.1), .slot 2 (lpVP (b1 0) 0), .slot 4 (lpVP (b1 1) 0), .res (lb (b1 0) 181 [intsCk .u32 8 s.2]), .res (lb (b1 1) 181 [intsCk .u32 8 (List.replicate 8 0)])] a w | .ret r => e = .ret ∧ RetOk Tryz.prog Tryz.f88 c (tupVP [(aggVP [intsCk .u32 8 r.1]), (slVP bC r.2)]) (fun _ => []) a w) ?_ _ (a_1, a_0) _ _ _ (h.sub [0, 1, 2, 3, 4] (by rfl)) hl20) ?_
  · clear hl20 hF h
    intro s a w o h hF
    obtain ⟨x7, x8⟩ := s
    change ref01_After.b1 x7 x8 = some o at hF
    unfold ref01_After.b1 at hF
    change SatL c [.slot 1 (slVP bC x7), .slot 2 (lpVP (b1 0) 0), .slot 4 (lpVP (b1 1) 0), .res (lb (b1 0) 181 [intsCk .u32 8 x8]), .res (lb (b1 1) 181 [intsCk .u32 8 (List.replicate 8 0)])] a w at h
    refine wp_seq ?_
    refine regS mixed hn hG h [0, 1, 2, 500, 3, 4] (ov [0] (op_move q0) <| ov [500] (op_len_sl Tryz.underlying180 q0) <| ov [500] (op_bin bin_geq q0 qi) .nil) fun _ a w h => ?_
    refine cnd h hF 3 [0, 1, 2, 4, 5] [0, 1, 2, 4, 5] (fun hb15 hF h => ?_) (fun hb15 hF h => ?_)
    · refine wp_skip ?_
      show Code.wp Tryz.prog _ _ a w
      refine wp_block ?_
      obtain ⟨hv16, hF⟩ := ite_some hF
      obtain ⟨r17, hr17, hF⟩ := bind_some hF
      refine regS mixed hn hG h [0, 1, 2, 500, 4] (ov [1, 3] (op_load_w 1 Tryz.isAgg181 Tryz.sizeOf181 q0) <| ov [0] (op_move q0) <| ov [500] (op_slice_sl (a := 0) (b := 64) Tryz.underlying180 Tryz.sizeOf5 lens_bC q0 rfl ⟨_, qi⟩ hv16) <| oc [502, 500] [] Tryz.call113 (ref01_Block_ok hr17) ⟨q0, q1, trivial⟩ <| ou [1, 500] 3 (op_store_w Tryz.sizeOf181 q0 q1 (cells_agg _)) .nil) fun _ a w h => ?_
      obtain ⟨hv18, hF⟩ := ite_some hF
      refine reg mixed hn hG h [500, 1, 2, 3, 4] (ov [0] (op_move q0) <| ov [500] (op_slice_sl (a := 64) (b := (x7.length : Int)) Tryz.underlying180 Tryz.sizeOf5 lens_bC q0 ⟨_, qi⟩ rfl hv18) <| od [500] 0 (op_assign q0) .nil) fun _ a w h => ?_
      obtain rfl := Option.some.inj hF
      exact ⟨rfl, h.sub [0, 1, 2, 3, 4] (by rfl)⟩
    · refine wp_exit ?_
      obtain rfl := Option.some.inj hF
      exact ⟨exit_ne _, rfl, h.sub [0, 1, 2, 3, 4] (by rfl)⟩
  · clear hl20
    intro e a w hq
    cases cr19 with
    | ret r21 =>
      obtain ⟨rfl, hq⟩ := hq
      obtain rfl := Option.some.inj hF
      exact ⟨.inl rfl, hq⟩
    | next s22 =>
      obtain ⟨y23, y24⟩ := s22
      obtain ⟨rfl, h⟩ := hq
      change SatL c [.slot 1 (slVP bC y23), .slot 2 (lpVP (b1 0) 0), .slot 4 (lpVP (b1 1) 0), .res (lb (b1 0) 181 [intsCk .u32 8 y24]), .res (lb (b1 1) 181 [intsCk .u32 8 (List.replicate 8 0)])] a w at h
      refine inBlock_at ?_
      show Code.wp Tryz.prog _ _ a w
      refine regS mixed hn hG h [2, 500, 501] (ov [1, 3] (op_load_w 1 Tryz.isAgg181 Tryz.sizeOf181 q0) <| ov [0] (op_move q0) <| ou [2, 501] 4 (op_store_w Tryz.sizeOf181 q0 q1 (cells_agg _)) <| ov [501] (op_assign q0) .nil) fun _ a w h => ?_
      refine wp_ret ?_
      obtain rfl := Option.some.inj hF
      exact ⟨.inl rfl, retn h (rs := [.cell 4 181, .tmp 5]) (Vs := [(aggVP [intsCk .u32 8 y24]), (slVP bC y23)]) Tryz.results88 (by decide) ⟨(r_cell 0 2 rfl rfl Tryz.isAgg181 Tryz.sizeOf181 rfl), (r_tmp 1 rfl), trivial⟩ [] [] rfl rfl rfl⟩

def ref01_First : Option (List Int) := some ([1779033703, 3144134277, 1013904242, 2773480762, 1359893119, 2600822924, 528734635, 1541459225] ++ List.replicate (8 - 8) 0)
theorem ref01_First_ok {r : (List Int)} (hF : ref01_First = some r) : CallOk Tryz.prog KG 89 [] [] (fun _ => []) (aggVP [intsCk .u32 8 r]) := by
  refine CallOk.intro 2 Tryz.func89 rfl Tryz.ntmps89 (Nat.le_of_ble_eq_true rfl) ?_
  intro c a w hG hn h
  unfold ref01_First at hF
  change SatL c [] a w at h
  refine regS mixed hn hG h [501, 500] (ob [] (op_alloc Tryz.zeroValue181 z181) .nil) fun b1 a w h => ?_
  refine regS mixed hn hG h [0, 500] (ov [] (op_buildI (xs := [.const (.int .u32 1779033703), .const (.int .u32 3144134277), .const (.int .u32 1013904242), .const (.int .u32 2773480762), .const (.int .u32 1359893119), .const (.int .u32 2600822924), .const (.int .u32 528734635), .const (.int .u32 1541459225)]) (ys := [1779033703, 3144134277, 1013904242, 2773480762, 1359893119, 2600822924, 528734635, 1541459225]) rfl bu181 ⟨⟨_, qi, (cells_one (one_int _ _))⟩, ⟨_, qi, (cells_one (one_int _ _))⟩, ⟨_, qi, (cells_one (one_int _ _))⟩, ⟨_, qi, (cells_one (one_int _ _))⟩, ⟨_, qi, (cells_one (one_int _ _))⟩, ⟨_, qi, (cells_one (one_int _ _))⟩, ⟨_, qi, (cells_one (one_int _ _))⟩, ⟨_, qi, (cells_one (one_int _ _))⟩, trivial⟩ (by decide) rfl) <| ou [0, 500] 1 (op_store_w Tryz.sizeOf181 q0 q1 (cells_agg _)) .nil) fun _ a w h => ?_
  refine wp_ret ?_
  obtain rfl := Option.some.inj hF
  exact ⟨.inl rfl, ret1 h Tryz.results89 (r_cell 0 1 rfl rfl Tryz.isAgg181 Tryz.sizeOf181 rfl) [] [] rfl rfl rfl⟩

def ref01_End.b1 (x11 : List (UInt8)) : Option (Flow (List UInt8) (List (UInt8))) := (if (!decide (((x11.length : Int).tmod 64) = (56 : Int))) = true then (if x11.length + [u8of 0].length ≤ mxl ∧ (x11.length + [u8of 0].length) * 1 ≤ 140737488355328 then some (.cont (x11 ++ [u8of 0])) else none) else some (.brk x11))
def ref01_End.b2 (a_2 : Int) (x29 : Int) (x30 : List (UInt8)) : Option (Flow (List UInt8) (Int × (List (UInt8)))) := (if (decide (x29 < (8 : Int))) = true then (if x30.length + [u8of (IntKind.wrap .u8 (shr .u64 (IntKind.wrap .u64 (8 * a_2)) (IntKind.wrap .u64 (IntKind.wrap .i64 (56 - (IntKind.wrap .i64 (8 * x29)))))))].length ≤ mxl ∧ (x30.length + [u8of (IntKind.wrap .u8 (shr .u64 (IntKind.wrap .u64 (8 * a_2)) (IntKind.wrap .u64 (IntKind.wrap .i64 (56 - (IntKind.wrap .i64 (8 * x29)))))))].length) * 1 ≤ 140737488355328 then some (.cont (IntKind.wrap .i64 (x29 + 1), x30 ++ [u8of (IntKind.wrap .u8 (shr .u64 (IntKind.wrap .u64 (8 * a_2)) (IntKind.wrap .u64 (IntKind.wrap .i64 (56 - (IntKind.wrap .i64 (8 * x29)))))))])) else none) else some (.brk (x29, x30)))
def ref01_End.b3 (r47 : (List Int) × (List (UInt8))) (x51 : Int) (x52 : List UInt8) : Option (Flow (List UInt8) (Int × (List UInt8))) := (if (decide (x51 < (32 : Int))) = true then (if (0 : Int) ≤ IntKind.wrap .i64 (x51.tdiv 4) ∧ IntKind.wrap .i64 (x51.tdiv 4) < 8 then (if (0 : Int) ≤ x51 ∧ x51 < 32 then some (.cont (IntKind.wrap .i64 (x51 + 1), x52.set x51.toNat (u8of (IntKind.wrap .u8 (shr .u32 (r47.1.getD (IntKind.wrap .i64 (x51.tdiv 4)).toNat 0) (IntKind.wrap .u64 (IntKind.wrap .i64 (24 - (IntKind.wrap .i64 (8 * (x51.tmod 4))))))))))) else none) else none) else some (.brk (x51, x52)))
def ref01_End (a_0 : List Int) (a_1 : List (UInt8)) (a_2 : Int) : Option (List UInt8) := (if ([] : List UInt8).length + a_1.length ≤ mxl ∧ (([] : List UInt8).length + a_1.length) * 1 ≤ 140737488355328 then (if (([] : List UInt8) ++ a_1).length + [u8of 128].length ≤ mxl ∧ ((([] : List UInt8) ++ a_1).length + [u8of 128].length) * 1 ≤ 140737488355328 then ((loopN (fun s : (List (UInt8)) => ref01_End.b1 s) 100000 ((([] : List UInt8) ++ a_1) ++ [u8of 128])).bind fun cr => match cr with | .ret r => some r | .next y25 => ((loopN (fun s : Int × (List (UInt8)) => ref01_End.b2 a_2 s.1 s.2) ((8 - 0 : Int).toNat + 2) (0, y25)).bind fun cr => match cr with | .ret r => some r | .next (y45, y46) => ((ref01_After a_0 y46).bind fun r47 => ((loopN (fun s : Int × (List UInt8) => ref01_End.b3 r47 s.1 s.2) ((32 - 0 : Int).toNat + 2) (0, (List.replicate 32 0))).bind fun cr => match cr with | .ret r => some r | .next (y65, y66) => some y66)))) else none) else none)
theorem ref01_End_ok {a_0 : List Int} {a_1 : List (UInt8)} {a_2 : Int} {r : (List UInt8)} (hF : ref01_End a_0 a_1 a_2 = some r) : CallOk Tryz.prog KG 90 [(aggVP [intsCk .u32 8 a_0]), (slVP bC a_1), (intVP .u64 a_2)] [] (fun _ => []) (aggVP [bytesCk 32 r]) := by
  refine CallOk.intro 65 Tryz.func90 rfl Tryz.ntmps90 (Nat.le_of_ble_eq_true rfl) ?_
  intro c a w hG hn h
  unfold ref01_End at hF
  change SatL c [.slot 0 (aggVP [intsCk .u32 8 a_0]), .slot 1 (slVP bC a_1), .slot 2 (intVP .u64 a_2)] a w at h
  refine regS mixed hn hG h [1, 2, 503, 501, 502, 500] (ob [0] (op_box q0 (cells_agg _)) <| ob [] (op_alloc Tryz.zeroValue24 z24) .nil) fun b1 a w h => ?_
  refine regS mixed hn hG h [0, 1, 2, 3, 500, 4, 5] (ov [] (op_assign (opc (ec _))) .nil) fun _ a w h => ?_
  obtain ⟨q3, h⟩ : ∃ q3 : Value, SatL c [.slot 1 (slVP bC a_1), .slot 2 (intVP .u64 a_2), .slot 3 (lpVP (b1 0) 0), .slot 6 (lpVP (b1 1) 0), .slot 7 (eqVP q3), .res (lb (b1 0) 181 [intsCk .u32 8 a_0]), .res (lb (b1 1) 24 [bytesCk 32 (List.replicate 32 0)]), .res (acc q3 5 1 bC ([] : List UInt8))] a w := ⟨.slice none 0 0, (h.nilacc 5 1 bC).sub [0, 1, 2, 3, 4, 5, 6, 7] (by rfl)⟩
  obtain ⟨hv4, hF⟩ := ite_some hF
  refine regS mixed hn hG h [1, 2, 3, 500, 5, 6, 501] (ov [4] (op_move q0) <| ov [0] (op_move q0) <| og [501, 500] [7] [.slot 14 2 100000 (fun v1_ _ => (eqVP v1_)), .res 2 100000 (fun v1_ _ => (acc (v1_) 5 1 bC (([] : List UInt8) ++ a_1)))] (GOk.plain (op_append (i := Tryz.t5) Tryz.underlying180 Tryz.type5 rfl lens_bC (by decide) rfl q0 q1 hv4) rfl) <| og [501] [4] [.slot 7 2 100000 (fun v1_ _ => (eqVP v1_))] (fun {β} => (GOk.drop _ (GOk.plain (op_assign (V := (eqVP (β 2))) q0) rfl))) .nil) fun b5 a w h => ?_
  obtain ⟨hv6, hF⟩ := ite_some hF
  refine regS mixed hn hG h [0, 1, 2, 500, 4, 5, 501] (ov [3] (op_move q0) <| ov [] (op_lit (xs := [.const (.int .u8 128)]) (ys := [u8of 128]) _ rfl Tryz.underlying180 Tryz.sizeOf5 Tryz.zeroValue5 rfl rfl (by decide) (by decide) ⟨⟨_, qi, (cells_u8 _)⟩, trivial⟩ lens_bC) <| og [501, 500] [6] [.slot 17 2 100000 (fun v1_ _ => (eqVP v1_)), .res 2 100000 (fun v1_ _ => (acc (v1_) 5 1 bC ((([] : List UInt8) ++ a_1) ++ [u8of 128])))] (GOk.plain (op_append (i := Tryz.t5) Tryz.underlying180 Tryz.type5 rfl lens_bC (by decide) rfl q0 q1 hv6) rfl) <| og [501] [3] [.slot 7 2 100000 (fun v1_ _ => (eqVP v1_))] (fun {β} => (GOk.drop _ (GOk.plain (op_assign (V := (eqVP (β 2))) q0) rfl))) .nil) fun b7 a w h => ?_
  refine wp_seq ?_
  refine wp_block ?_
  obtain ⟨cr21, hl22, hF⟩ := bind_some hF
  refine wp_mono (wp_loopN (R := (List UInt8)) (S := (List (UInt8))) (fun s a w => ∃ q12 : Value, SatL c [.slot 2 (intVP .u64 a_2), .slot 3 (lpVP (b1 0) 0), .slot 6 (lpVP (b1 1) 0), .slot 7 (eqVP q12), .res (lb (b1 0) 181 [intsCk .u32 8 a_0]), .res (lb (b1 1) 24 [bytesCk 32 (List.replicate 32 0)]), .res (acc q12 5 1 bC s)] a w) (fun res e a w => match res with | .next s => e = .exit 0 ∧ ∃ q12 : Value, SatL c [.slot 2 (intVP .u64 a_2), .slot 3 (lpVP (b1 0) 0), .slot 6 (lpVP (b1 1) 0), .slot 7 (eqVP q12), .res (lb (b1 0) 181 [intsCk .u32 8 a_0]), .res (lb (b1 1) 24 [bytesCk 32 (List.replicate 32 0)]), .res (acc q12 5 1 bC s)] a w | .ret r => e = .ret ∧ RetOk Tryz.prog Tryz.f90 c (aggVP [bytesCk 32 r]) (fun _ => []) a w) ?_ _ ((([] : List UInt8) ++ a_1) ++ [u8of 128]) _ _ _ ⟨(b7 2), (h.sub [0, 1, 2, 3, 4, 5, 6] (by rfl))⟩ hl22) ?_
  · clear hl22 hF h
    intro x11 a w o h hF
    obtain ⟨q12, h⟩ := h
    change ref01_End.b1 x11 = some o at hF
    unfold ref01_End.b1 at hF
    change SatL c [.slot 2 (intVP .u64 a_2), .slot 3 (lpVP (b1 0) 0), .slot 6 (lpVP (b1 1) 0), .slot 7 (eqVP q12), .res (lb (b1 0) 181 [intsCk .u32 8 a_0]), .res (lb (b1 1) 24 [bytesCk 32 (List.replicate 32 0)]), .res (acc q12 5 1 bC x11)] a w at h
    refine wp_seq ?_
    refine regS mixed hn hG h [0, 1, 2, 3, 500, 4, 5, 6] (ov [3] (op_move q0) <| ov [500, 6] (op_len_sl Tryz.underlying180 (opacc 0 1 rfl rfl)) <| ov [500] (op_bin (bin_rem (by decide)) q0 qi) <| ov [500] (op_bin bin_neq q0 qi) .nil) fun _ a w h => ?_
    refine cnd h hF 4 [0, 1, 2, 3, 5, 6, 7] [0, 1, 2, 3, 5, 6, 7] (fun hb18 hF h => ?_) (fun hb18 hF h => ?_)
    · refine wp_skip ?_
      show Code.wp Tryz.prog _ _ a w
      refine wp_block ?_
      obtain ⟨hv19, hF⟩ := ite_some hF
      refine reg mixed hn hG h [0, 1, 2, 500, 4, 5, 501] (ov [3] (op_move q0) <| ov [] (op_lit (xs := [.const (.int .u8 0)]) (ys := [u8of 0]) _ rfl Tryz.underlying180 Tryz.sizeOf5 Tryz.zeroValue5 rfl rfl (by decide) (by decide) ⟨⟨_, qi, (cells_u8 _)⟩, trivial⟩ lens_bC) <| og [501, 500] [6] [.slot 24 2 100000 (fun v1_ _ => (eqVP v1_)), .res 2 100000 (fun v1_ _ => (acc (v1_) 5 1 bC (x11 ++ [u8of 0])))] (GOk.plain (op_append (i := Tryz.t5) Tryz.underlying180 Tryz.type5 rfl lens_bC (by decide) rfl q0 q1 hv19) rfl) <| og [501] [3] [.slot 7 2 100000 (fun v1_ _ => (eqVP v1_))] (fun {β} => (GOk.drop _ (GOk.plain (op_assign (V := (eqVP (β 2))) q0) rfl))) .nil) fun b20 a w h => ?_
      obtain rfl := Option.some.inj hF
      exact ⟨rfl, (b20 2), h.sub [0, 1, 2, 3, 4, 5, 6] (by rfl)⟩
    · refine wp_exit ?_
      obtain rfl := Option.some.inj hF
      exact ⟨exit_ne _, rfl, q12, h.sub [0, 1, 2, 3, 4, 5, 6] (by rfl)⟩
  · clear hl22
    intro e a w hq
    cases cr21 with
    | ret r23 =>
      obtain ⟨rfl, hq⟩ := hq
      obtain rfl := Option.some.inj hF
      exact ⟨.inl rfl, hq⟩
    | next y25 =>
      obtain ⟨rfl, q12, h⟩ := hq
      change SatL c [.slot 2 (intVP .u64 a_2), .slot 3 (lpVP (b1 0) 0), .slot 6 (lpVP (b1 1) 0), .slot 7 (eqVP q12), .res (lb (b1 0) 181 [intsCk .u32 8 a_0]), .res (lb (b1 1) 24 [bytesCk 32 (List.replicate 32 0)]), .res (acc q12 5 1 bC y25)] a w at h
      refine inBlock_at ?_
      show Code.wp Tryz.prog _ _ a w
      refine regS mixed hn hG h [1, 2, 3, 500, 4, 5, 6] (ov [0] (op_move q0) <| ov [500] (op_bin bin_mul qi q0) <| ov [500] (op_assign q0) .nil) fun _ a w h => ?_
      refine wp_seq ?_
      refine regS mixed hn hG h [0, 1, 2, 3, 500, 4, 5, 6] (ov [] (op_assign qi) .nil) fun _ a w h => ?_
      refine wp_block ?_
      obtain ⟨cr41, hl42, hF⟩ := bind_some hF
      refine wp_mono (wp_loopN (R := (List UInt8)) (S := Int × (List (UInt8))) (fun s a w => ∃ q31 : Value, SatL c [.slot 3 (lpVP (b1 0) 0), .slot 6 (lpVP (b1 1) 0), .slot 7 (eqVP q31), .slot 8 (intVP .u64 (IntKind.wrap .u64 (8 * a_2))), .slot 9 (intVP .i64 s.1), .res (lb (b1 0) 181 [intsCk .u32 8 a_0]), .res (lb (b1 1) 24 [bytesCk 32 (List.replicate 32 0)]), .res (acc q31 5 1 bC s.2)] a w) (fun res e a w => match res with | .next s => e = .exit 2 ∧ ∃ q31 : Value, SatL c [.slot 3 (lpVP (b1 0) 0), .slot 6 (lpVP (b1 1) 0), .slot 7 (eqVP q31), .res (lb (b1 0) 181 [intsCk .u32 8 a_0]), .res (lb (b1 1) 24 [bytesCk 32 (List.replicate 32 0)]), .res (acc q31 5 1 bC s.2)] a w | .ret r => e = .ret ∧ RetOk Tryz.prog Tryz.f90 c (aggVP [bytesCk 32 r]) (fun _ => []) a w) ?_ _ (0, y25) _ _ _ ⟨q12, (h.sub [0, 1, 2, 3, 4, 5, 6, 7] (by rfl))⟩ hl42) ?_
      · clear hl42 hF h
        intro s a w o h hF
        obtain ⟨x29, x30⟩ := s
        obtain ⟨q31, h⟩ := h
        change ref01_End.b2 a_2 x29 x30 = some o at hF
        unfold ref01_End.b2 at hF
        change SatL c [.slot 3 (lpVP (b1 0) 0), .slot 6 (lpVP (b1 1) 0), .slot 7 (eqVP q31), .slot 8 (intVP .u64 (IntKind.wrap .u64 (8 * a_2))), .slot 9 (intVP .i64 x29), .res (lb (b1 0) 181 [intsCk .u32 8 a_0]), .res (lb (b1 1) 24 [bytesCk 32 (List.replicate 32 0)]), .res (acc q31 5 1 bC x30)] a w at h
        refine wp_seq ?_
        refine regS mixed hn hG h [0, 1, 2, 3, 4, 500, 5, 6, 7] (ov [4] (op_move q0) <| ov [500] (op_bin bin_lss q0 qi) .nil) fun _ a w h => ?_
        refine cnd h hF 5 [0, 1, 2, 3, 4, 6, 7, 8] [0, 1, 2, 3, 4, 6, 7, 8] (fun hb38 hF h => ?_) (fun hb38 hF h => ?_)
        · refine wp_skip ?_
          show Code.wp Tryz.prog _ _ a w
          refine wp_seq ?_
          refine wp_block ?_
          obtain ⟨hv39, hF⟩ := ite_some hF
          refine reg mixed hn hG h [0, 1, 500, 3, 4, 5, 6, 501] (ov [2] (op_move q0) <| ov [3] (op_move q0) <| ov [4] (op_move q0) <| ov [500] (op_bin bin_mul qi q0) <| ov [500] (op_bin bin_sub qi q0) <| ov [500] (op_convert_int Tryz.underlying3 Tryz.underlying202 q0) <| ov [504, 500] (op_bin (bin_shru rfl) q0 q1) <| ov [500] (op_convert_int Tryz.underlying26 Tryz.underlying5 q0) <| ov [500] (op_lit (xs := [.tmp 38]) (ys := [u8of (IntKind.wrap .u8 (shr .u64 (IntKind.wrap .u64 (8 * a_2)) (IntKind.wrap .u64 (IntKind.wrap .i64 (56 - (IntKind.wrap .i64 (8 * x29)))))))]) _ rfl Tryz.underlying180 Tryz.sizeOf5 Tryz.zeroValue5 rfl rfl (by decide) (by decide) ⟨⟨_, q0, (cells_u8 _)⟩, trivial⟩ lens_bC) <| og [508, 500] [7] [.slot 40 9 100000 (fun v1_ _ => (eqVP v1_)), .res 9 100000 (fun v1_ _ => (acc (v1_) 5 1 bC (x30 ++ [u8of (IntKind.wrap .u8 (shr .u64 (IntKind.wrap .u64 (8 * a_2)) (IntKind.wrap .u64 (IntKind.wrap .i64 (56 - (IntKind.wrap .i64 (8 * x29)))))))])))] (GOk.plain (op_append (i := Tryz.t5) Tryz.underlying180 Tryz.type5 rfl lens_bC (by decide) rfl q0 q1 hv39) rfl) <| og [501] [2] [.slot 7 9 100000 (fun v1_ _ => (eqVP v1_))] (fun {β} => (GOk.drop _ (GOk.plain (op_assign (V := (eqVP (β 9))) q0) rfl))) .nil) fun b40 a w h => ?_
          show Code.wp Tryz.prog _ _ a w
          refine reg mixed hn hG h [0, 1, 2, 3, 500, 5, 6, 7] (ov [4] (op_move q0) <| ov [500] (op_bin bin_add q0 qi) <| od [500] 4 (op_assign q0) .nil) fun _ a w h => ?_
          obtain rfl := Option.some.inj hF
          exact ⟨rfl, (b40 9), h.sub [0, 1, 2, 3, 4, 5, 6, 7] (by rfl)⟩
        · refine wp_exit ?_
          obtain rfl := Option.some.inj hF
          exact ⟨exit_ne _, rfl, q31, h.sub [0, 1, 2, 5, 6, 7] (by rfl)⟩
      · clear hl42
        intro e a w hq
        cases cr41 with
        | ret r43 =>
          obtain ⟨rfl, hq⟩ := hq
          obtain rfl := Option.some.inj hF
          exact ⟨.inl rfl, hq⟩
        | next s44 =>
          obtain ⟨y45, y46⟩ := s44
          obtain ⟨rfl, q31, h⟩ := hq
          change SatL c [.slot 3 (lpVP (b1 0) 0), .slot 6 (lpVP (b1 1) 0), .slot 7 (eqVP q31), .res (lb (b1 0) 181 [intsCk .u32 8 a_0]), .res (lb (b1 1) 24 [bytesCk 32 (List.replicate 32 0)]), .res (acc q31 5 1 bC y46)] a w at h
          refine inBlock_at ?_
          show Code.wp Tryz.prog _ _ a w
          obtain ⟨r47, hr47, hF⟩ := bind_some hF
          refine regS mixed hn hG h [0, 1, 500, 4] (ov [0, 3] (op_load_w 1 Tryz.isAgg181 Tryz.sizeOf181 q0) <| ov [2] (op_move q0) <| oc [501, 500, 5] [] Tryz.call88 (ref01_After_ok hr47) ⟨q0, (opacc 1 2 rfl rfl), trivial⟩ <| ov [500] (op_move q0) <| ov [500] (op_extract q0 rfl) <| ov [501] (op_extract q0 rfl) <| ou [0, 501] 3 (op_store_w Tryz.sizeOf181 q0 q1 (cells_agg _)) .nil) fun _ a w h => ?_
          refine regS mixed hn hG h [0, 1, 501, 2, 3, 500] (ob [] (op_alloc Tryz.zeroValue24 z24) .nil) fun b48 a w h => ?_
          refine wp_seq ?_
          refine regS mixed hn hG h [0, 1, 2, 500, 3, 4, 5] (ov [] (op_assign qi) .nil) fun _ a w h => ?_
          refine wp_block ?_
          obtain ⟨cr61, hl62, hF⟩ := bind_some hF
          refine wp_mono (wp_loopN (R := (List UInt8)) (S := Int × (List UInt8)) (fun s a w => SatL c [.slot 3 (lpVP (b1 0) 0), .slot 6 (lpVP (b1 1) 0), .slot 10 (lpVP (b48 0) 0), .slot 11 (intVP .i64 s.1), .res (lb (b1 0) 181 [intsCk .u32 8 r47.1]), .res (lb (b1 1) 24 [bytesCk 32 (List.replicate 32 0)]), .res (lb (b48 0) 24 [bytesCk 32 s.2])] a w) (fun res e a w => match res with | .next s => e = .exit 4 ∧ SatL c [.slot 6 (lpVP (b1 1) 0), .slot 10 (lpVP (b48 0) 0), .res (lb (b1 1) 24 [bytesCk 32 (List.replicate 32 0)]), .res (lb (b48 0) 24 [bytesCk 32 s.2])] a w | .ret r => e = .ret ∧ RetOk Tryz.prog Tryz.f90 c (aggVP [bytesCk 32 r]) (fun _ => []) a w) ?_ _ (0, (List.replicate 32 0)) _ _ _ (h.sub [0, 1, 2, 3, 4, 5, 6] (by rfl)) hl62) ?_
          · clear hl62 hF h
            intro s a w o h hF
            obtain ⟨x51, x52⟩ := s
            change ref01_End.b3 r47 x51 x52 = some o at hF
            unfold ref01_End.b3 at hF
            change SatL c [.slot 3 (lpVP (b1 0) 0), .slot 6 (lpVP (b1 1) 0), .slot 10 (lpVP (b48 0) 0), .slot 11 (intVP .i64 x51), .res (lb (b1 0) 181 [intsCk .u32 8 r47.1]), .res (lb (b1 1) 24 [bytesCk 32 (List.replicate 32 0)]), .res (lb (b48 0) 24 [bytesCk 32 x52])] a w at h
            refine wp_seq ?_
            refine regS mixed hn hG h [0, 1, 2, 3, 500, 4, 5, 6] (ov [3] (op_move q0) <| ov [500] (op_bin bin_lss q0 qi) .nil) fun _ a w h => ?_
            refine cnd h hF 4 [0, 1, 2, 3, 5, 6, 7] [0, 1, 2, 3, 5, 6, 7] (fun hb58 hF h => ?_) (fun hb58 hF h => ?_)
            · refine wp_skip ?_
              show Code.wp Tryz.prog _ _ a w
              refine wp_seq ?_
              refine wp_block ?_
              obtain ⟨hv59, hF⟩ := ite_some hF
              obtain ⟨hv60, hF⟩ := ite_some hF
              refine reg mixed hn hG h [0, 1, 2, 3, 4, 5, 500] (ov [3] (op_move q0) <| ov [3] (op_move q0) <| ov [500] (op_bin (bin_quo (by decide)) q0 qi) <| ov [0, 500] (op_indexAddr_lb Tryz.underlying181 Tryz.sizeOf22 q0 q1 hv59) <| ov [500, 4] (op_load_lbI (i := IntKind.wrap .i64 (x51.tdiv 4)) [] [] 1 Tryz.isAgg22 q0 rfl rfl hv59) <| ov [3] (op_move q0) <| ov [500] (op_bin (bin_rem (by decide)) q0 qi) <| ov [500] (op_bin bin_mul qi q0) <| ov [500] (op_bin bin_sub qi q0) <| ov [500] (op_convert_int Tryz.underlying3 Tryz.underlying202 q0) <| ov [505, 500] (op_bin (bin_shru rfl) q0 q1) <| ov [500] (op_convert_int Tryz.underlying22 Tryz.underlying5 q0) <| ov [2, 511] (op_indexAddr_lb Tryz.underlying24 Tryz.sizeOf5 q0 q1 hv60) <| ou [500, 501] 6 (op_store_lbB (i := x51) [] [] Tryz.sizeOf5 q0 q1 rfl hv60) .nil) fun _ a w h => ?_
              show Code.wp Tryz.prog _ _ a w
              refine reg mixed hn hG h [0, 1, 2, 500, 4, 5, 6] (ov [3] (op_move q0) <| ov [500] (op_bin bin_add q0 qi) <| od [500] 3 (op_assign q0) .nil) fun _ a w h => ?_
              obtain rfl := Option.some.inj hF
              exact ⟨rfl, h.sub [0, 1, 2, 3, 4, 5, 6] (by rfl)⟩
            · refine wp_exit ?_
              obtain rfl := Option.some.inj hF
              exact ⟨exit_ne _, rfl, h.sub [1, 2, 5, 6] (by rfl)⟩
          · clear hl62
            intro e a w hq
            cases cr61 with
            | ret r63 =>
              obtain ⟨rfl, hq⟩ := hq
              obtain rfl := Option.some.inj hF
              exact ⟨.inl rfl, hq⟩
            | next s64 =>
              obtain ⟨y65, y66⟩ := s64
              obtain ⟨rfl, h⟩ := hq
              change SatL c [.slot 6 (lpVP (b1 1) 0), .slot 10 (lpVP (b48 0) 0), .res (lb (b1 1) 24 [bytesCk 32 (List.replicate 32 0)]), .res (lb (b48 0) 24 [bytesCk 32 y66])] a w at h
              refine inBlock_at ?_
              show Code.wp Tryz.prog _ _ a w
              refine regS mixed hn hG h [0, 500] (ov [1, 3] (op_load_w 1 Tryz.isAgg24 Tryz.sizeOf24 q0) <| ou [0, 500] 2 (op_store_w Tryz.sizeOf24 q0 q1 (cells_agg _)) .nil) fun _ a w h => ?_
              refine wp_ret ?_
              obtain rfl := Option.some.inj hF
              exact ⟨.inl rfl, ret1 h Tryz.results90 (r_cell 0 1 rfl rfl Tryz.isAgg24 Tryz.sizeOf24 rfl) [] [] rfl rfl rfl⟩

def ref01_Sum (a_0 : List UInt8) : Option (List UInt8) := ((ref01_First).bind fun r2 => ((ref01_After r2 a_0).bind fun r3 => ((ref01_End r3.1 r3.2 (IntKind.wrap .u64 (a_0.length : Int))).bind fun r5 => some r5)))
theorem ref01_Sum_ok {a_0 : List UInt8} {r : (List UInt8)} (hF : ref01_Sum a_0 = some r) : CallOk Tryz.prog KG 66 [(strVP a_0)] [] (fun _ => []) (aggVP [bytesCk 32 r]) := by
  refine CallOk.intro 18 Tryz.func66 rfl Tryz.ntmps66 (Nat.le_of_ble_eq_true rfl) ?_
  intro c a w hG hn h
  unfold ref01_Sum at hF
  change SatL c [.slot 0 (strVP a_0)] a w at h
  refine regS mixed hn hG h [0, 501, 500] (ob [] (op_alloc Tryz.zeroValue24 z24) .nil) fun b1 a w h => ?_
  obtain ⟨r2, hr2, hF⟩ := bind_some hF
  obtain ⟨r3, hr3, hF⟩ := bind_some hF
  refine regS mixed hn hG h [0, 1, 503, 500, 2, 501] (oc [] [] Tryz.call89 (ref01_First_ok hr2) trivial <| ov [0] (op_move q0) <| ov [500] (op_conv_str_sl Tryz.underlying9 Tryz.underlying180 Tryz.underlying5 q0) <| oc [502, 500] [] Tryz.call88 (ref01_After_ok hr3) ⟨q0, q1, trivial⟩ <| ov [500] (op_move q0) <| ov [500] (op_extract q0 rfl) <| ov [501] (op_extract q0 rfl) <| ob [] (op_alloc Tryz.zeroValue181 z181) <| og [501, 503] [500] [.res 7 100000 (fun v1_ _ => (lb (v1_) 181 [intsCk .u32 8 r3.1]))] (GOk.plain (op_store_w Tryz.sizeOf181 q0 q1 (cells_agg _)) rfl) <| ov [503] (op_assign q0) .nil) fun b4 a w h => ?_
  obtain ⟨r5, hr5, hF⟩ := bind_some hF
  refine regS mixed hn hG h [1, 500] (ov [2, 5] (op_load_w 1 Tryz.isAgg181 Tryz.sizeOf181 q0) <| ov [3] (op_move q0) <| ov [0] (op_move q0) <| ov [500] (op_len_str Tryz.underlying9 q0) <| ov [500] (op_convert_int Tryz.underlying3 Tryz.underlying26 q0) <| oc [504, 503, 500] [] Tryz.call90 (ref01_End_ok hr5) ⟨q0, q1, q2, trivial⟩ <| ou [1, 500] 4 (op_store_w Tryz.sizeOf24 q0 q1 (cells_agg _)) .nil) fun _ a w h => ?_
  refine wp_ret ?_
  obtain rfl := Option.some.inj hF
  exact ⟨.inl rfl, ret1 h Tryz.results66 (r_cell 0 1 rfl rfl Tryz.isAgg24 Tryz.sizeOf24 rfl) [] [] rfl rfl rfl⟩

def ref04_Log_Note.n (a_1 : List UInt8) (a_2 : List UInt8) : Option (Option O_RLog) := some none
def ref04_Log_Note.b1 (s_0 : O_RLog) (a_1 : List UInt8) (a_2 : List UInt8) (x8 : Int) : Option (Flow (Option O_RLog) Int) := (if (decide (x8 < (((lkp a_1 s_0.f_Digests).getD []).length : Int))) = true then (if (0 : Int) ≤ x8 ∧ x8 < ((lkp a_1 s_0.f_Digests).getD []).length then (if (decide ((((lkp a_1 s_0.f_Digests).getD []).getD x8.toNat default) = a_2)) = true then some (.ret (some s_0)) else some (.cont (IntKind.wrap .i64 (x8 + 1)))) else none) else some (.brk x8))
def ref04_Log_Note.s (s_0 : O_RLog) (a_1 : List UInt8) (a_2 : List UInt8) : Option (Option O_RLog) := ((loopN (fun s : Int => ref04_Log_Note.b1 s_0 a_1 a_2 s) (((((lkp a_1 s_0.f_Digests).getD []).length : Int) - 0 : Int).toNat + 2) 0).bind fun cr => match cr with | .ret r => some r | .next y20 => (if ((lkp a_1 s_0.f_Digests).getD ([] : List (List UInt8))).length + [a_2].length ≤ mxl ∧ (((lkp a_1 s_0.f_Digests).getD ([] : List (List UInt8))).length + [a_2].length) * 16 ≤ 140737488355328 then (if s_0.f_Inputs.length + [a_2].length ≤ mxl ∧ (s_0.f_Inputs.length + [a_2].length) * 16 ≤ 140737488355328 then some (some ⟨s_0.f_Inputs ++ [a_2], upd a_1 (((lkp a_1 s_0.f_Digests).getD ([] : List (List UInt8))) ++ [a_2]) (ens a_1 ([] : List (List UInt8)) s_0.f_Digests)⟩) else none) else none))
def ref04_Log_Note (L_0 : Option O_RLog) (a_1 : List UInt8) (a_2 : List UInt8) : Option (Option O_RLog) := match L_0 with | none => ref04_Log_Note.n a_1 a_2 | some s_0 => ref04_Log_Note.s s_0 a_1 a_2
theorem ref04_Log_Note_ok {p_0 : Value} {L_0 : Option O_RLog} {a_1 : List UInt8} {a_2 : List UInt8} {r : (Option O_RLog)} (hF : ref04_Log_Note L_0 a_1 a_2 = some r) : CallOk Tryz.prog KG 67 [(eqVP p_0), (aggVP [bytesCk 32 a_1]), (strVP a_2)] [(RLog_e p_0 L_0)] (fun _ => [RLog_e p_0 r]) (tupVP []) := by
  refine CallOk.intro 46 Tryz.func67 rfl Tryz.ntmps67 (Nat.le_of_ble_eq_true rfl) ?_
  intro c a w hG hn h
  unfold ref04_Log_Note at hF
  change SatL c [.slot 0 (eqVP p_0), .slot 1 (aggVP [bytesCk 32 a_1]), .slot 2 (strVP a_2), .res (RLog_e p_0 L_0)] a w at h
  obtain ⟨h_0_0, h⟩ := h.ex 3 rfl
  obtain ⟨h_0_1, h⟩ := h.ex 3 rfl
  change SatL c [.slot 0 (eqVP p_0), .slot 1 (aggVP [bytesCk 32 a_1]), .slot 2 (strVP a_2), .res (RLog_o p_0 h_0_0 h_0_1 L_0)] a w at h
  cases L_0 with
  | none =>
    change ref04_Log_Note.n a_1 a_2 = some r at hF
    unfold ref04_Log_Note.n at hF
    obtain rfl := h.isp 3 rfl (fun _ _ _ q => q.2)
    replace h := h.slotc 0 rfl (V' := ptrVP (.pointer none) false) (fun _ _ h => ⟨h, rfl⟩)
    change SatL c [.slot 0 (ptrVP (.pointer none) false), .slot 1 (aggVP [bytesCk 32 a_1]), .slot 2 (strVP a_2), .res (RLog_o (.pointer none) h_0_0 h_0_1 none)] a w at h
    refine regS mixed hn hG h [0, 2, 501, 3, 500] (ob [1] (op_box q0 (cells_agg _)) .nil) fun b1 a w h => ?_
    refine wp_seq ?_
    refine regS mixed hn hG h [0, 1, 2, 500, 3, 4] (ov [0] (op_move q0) <| ov [500] (op_bin (bin_pnil Tryz.underlying85) q0 (opc (ec _))) .nil) fun _ a w h => ?_
    refine cond_L h 3 rfl (fun hb2 => ?_) (fun hb2 => ?_)
    · skip
      replace h := h.sel [4]
      refine wp_ret ?_
      replace h := h.conv 0 rfl RLog_packo
      change SatL c [.res (RLog_e (.pointer none) none)] a w at h
      obtain rfl := Option.some.inj hF
      exact ⟨.inl rfl, retn h (rs := []) (Vs := []) Tryz.results67 (by decide) trivial [0] [(RLog_e (.pointer none) none)] rfl rfl rfl⟩
    · cases hb2
  | some s_0 =>
    change ref04_Log_Note.s s_0 a_1 a_2 = some r at hF
    unfold ref04_Log_Note.s at hF
    have hp := h.isp 3 rfl (fun Φ f w q => RLog_lp Φ f w q)
    replace h := h.slotc 0 rfl (V' := lpVP p_0 0) (fun _ _ h => eq_lp h hp)
    replace h := h.sep (R := lb p_0 188 [one (eqVP h_0_0), one (eqVP h_0_1)]) (S := (RP.sep (acc h_0_0 9 1 strC s_0.f_Inputs) (mapR h_0_1 arrK (fun l => l.length = 32) (fun u y => acc u 9 1 strC y) s_0.f_Digests))) 3 rfl
    replace h := h.sep (R := acc h_0_0 9 1 strC s_0.f_Inputs) (S := (mapR h_0_1 arrK (fun l => l.length = 32) (fun u y => acc u 9 1 strC y) s_0.f_Digests)) 4 rfl
    replace h := h.sub [0, 1, 2, 3, 4, 5] (by rfl)
    change SatL c [.slot 0 (lpVP p_0 0), .slot 1 (aggVP [bytesCk 32 a_1]), .slot 2 (strVP a_2), .res (lb p_0 188 [one (eqVP h_0_0), one (eqVP h_0_1)]), .res (acc h_0_0 9 1 strC s_0.f_Inputs), .res (mapR h_0_1 arrK (fun l => l.length = 32) (fun u y => acc u 9 1 strC y) s_0.f_Digests)] a w at h
    refine regS mixed hn hG h [0, 2, 501, 3, 4, 5, 500] (ob [1] (op_box q0 (cells_agg _)) .nil) fun b3 a w h => ?_
    refine wp_seq ?_
    refine regS mixed hn hG h [0, 1, 2, 500, 3, 4, 5, 6] (ov [0] (op_move q0) <| ov [500] (op_bin (bin_pnil Tryz.underlying85) (lp_ptr q0) (opc (ec _))) .nil) fun _ a w h => ?_
    refine cond_L h 3 rfl (fun hb4 => ?_) (fun hb4 => ?_)
    · cases hb4
    · skip
      replace h := h.sel [0, 1, 2, 4, 5, 6, 7]
      refine wp_skip ?_
      show Code.wp Tryz.prog _ _ a w
      refine wp_seq ?_
      refine regS mixed hn hG h [0, 1, 2, 502, 501, 500, 3, 4, 5, 6] (ov [0] (op_move q0) <| ov [500] (op_nilCheck q0 (ptr_lp _ _)) <| ov [500] (op_fieldAddr_lbm (p := p_0) (n := 1) 0 1 Tryz.underlying188 rfl Tryz.sizeOf186 (by decide) q0 rfl) <| ov [500, 3] (op_load_lb1 [one (eqVP h_0_0)] [] 1 Tryz.isAgg186 q0 rfl rfl) <| ov [2, 6] (op_load_w 1 Tryz.isAgg24 Tryz.sizeOf24 q0) <| ov [501, 500, 5] (op_lookup (slVP strC) [] 2 Tryz.underlying186 (keyArr Tryz.underlying24 Tryz.underlying5 Tryz.type5 Tryz.sizeOf5 Tryz.isAgg5) Tryz.zeroValue53 q0 q1 hk_arr rfl res_id (fun _ _ _ _ _ h => acc_sl h) (fun _ => ⟨by decide, .inl ⟨rfl, rfl⟩⟩)) <| ov [500] (op_len_sl Tryz.underlying53 q0) <| ov [] (op_move qi) .nil) fun _ a w h => ?_
      refine wp_block ?_
      obtain ⟨cr16, hl17, hF⟩ := bind_some hF
      refine wp_mono (wp_loopN (R := (Option O_RLog)) (S := Int) (fun s a w => SatL c [.slot 0 (lpVP p_0 0), .slot 2 (strVP a_2), .slot 4 (lpVP (b3 0) 0), .slot 15 (slVP strC ((lkp a_1 s_0.f_Digests).getD [])), .slot 16 (intVP .i64 (((lkp a_1 s_0.f_Digests).getD []).length : Int)), .slot 17 (intVP .i64 s), .res (lb p_0 188 [one (eqVP h_0_0), one (eqVP h_0_1)]), .res (acc h_0_0 9 1 strC s_0.f_Inputs), .res (mapR h_0_1 arrK (fun l => l.length = 32) (fun u y => acc u 9 1 strC y) s_0.f_Digests), .res (lb (b3 0) 24 [bytesCk 32 a_1])] a w) (fun res e a w => match res with | .next s => e = .exit 0 ∧ SatL c [.slot 0 (lpVP p_0 0), .slot 2 (strVP a_2), .slot 4 (lpVP (b3 0) 0), .res (lb p_0 188 [one (eqVP h_0_0), one (eqVP h_0_1)]), .res (acc h_0_0 9 1 strC s_0.f_Inputs), .res (mapR h_0_1 arrK (fun l => l.length = 32) (fun u y => acc u 9 1 strC y) s_0.f_Digests), .res (lb (b3 0) 24 [bytesCk 32 a_1])] a w | .ret r => e = .ret ∧ RetOk Tryz.prog Tryz.f67 c (tupVP []) (fun _ => [RLog_e p_0 r]) a w) ?_ _ 0 _ _ _ (h.sub [0, 1, 2, 3, 4, 5, 6, 7, 8, 9] (by rfl)) hl17) ?_
      · clear hl17 hF h
        intro x8 a w o h hF
        change ref04_Log_Note.b1 s_0 a_1 a_2 x8 = some o at hF
        unfold ref04_Log_Note.b1 at hF
        change SatL c [.slot 0 (lpVP p_0 0), .slot 2 (strVP a_2), .slot 4 (lpVP (b3 0) 0), .slot 15 (slVP strC ((lkp a_1 s_0.f_Digests).getD [])), .slot 16 (intVP .i64 (((lkp a_1 s_0.f_Digests).getD []).length : Int)), .slot 17 (intVP .i64 x8), .res (lb p_0 188 [one (eqVP h_0_0), one (eqVP h_0_1)]), .res (acc h_0_0 9 1 strC s_0.f_Inputs), .res (mapR h_0_1 arrK (fun l => l.length = 32) (fun u y => acc u 9 1 strC y) s_0.f_Digests), .res (lb (b3 0) 24 [bytesCk 32 a_1])] a w at h
        refine regS mixed hn hG h [0, 1, 2, 3, 4, 5, 500, 6, 7, 8, 9] (ov [5, 4] (op_bin bin_lss q0 q1) .nil) fun _ a w h => ?_
        refine wp_seq ?_
        refine cnd h hF 6 [0, 1, 2, 3, 4, 5, 7, 8, 9, 10] [0, 1, 2, 3, 4, 5, 7, 8, 9, 10] (fun hb13 hF h => ?_) (fun hb13 hF h => ?_)
        · refine wp_skip ?_
          show Code.wp Tryz.prog _ _ a w
          refine wp_seq ?_
          refine wp_block ?_
          obtain ⟨hv14, hF⟩ := ite_some hF
          refine regS mixed hn hG h [0, 1, 2, 500, 3, 4, 5, 6, 7, 8, 9] (ov [3, 5] (op_indexAddr_sl Tryz.underlying53 Tryz.sizeOf9 lens_strC q0 q1 hv14) <| ov [500] (op_load_pp1 [] Tryz.isAgg9 q0) <| ov [500] (op_assign q0) .nil) fun _ a w h => ?_
          refine regS mixed hn hG h [0, 1, 2, 4, 5, 6, 500, 7, 8, 9, 10] (ov [3] (op_move q0) <| ov [1] (op_move q0) <| ov [501, 500] (op_bin bin_seql q0 q1) .nil) fun _ a w h => ?_
          refine cnd h hF 6 [7, 8, 9] [0, 1, 2, 3, 4, 5, 7, 8, 9, 10] (fun hb15 hF h => ?_) (fun hb15 hF h => ?_)
          · refine wp_ret ?_
            replace h := h.unsep 1 2 rfl rfl (by decide)
            replace h := h.unsep 0 1 rfl rfl (by decide)
            replace h := h.conv 0 rfl (R' := RLog_e p_0 (some s_0)) (RLog_packo (v0 := h_0_0) (v1 := h_0_1) (o := (some s_0)))
            replace h := h.sub [0] (by rfl)
            change SatL c [.res (RLog_e p_0 (some s_0))] a w at h
            obtain rfl := Option.some.inj hF
            exact ⟨ret_ne, rfl, retn h (rs := []) (Vs := []) Tryz.results67 (by decide) trivial [0] [(RLog_e p_0 (some s_0))] rfl rfl rfl⟩
          · refine wp_skip ?_
            show Code.wp Tryz.prog _ _ a w
            refine reg mixed hn hG h [0, 1, 2, 3, 4, 500, 6, 7, 8, 9] (ov [5] (op_bin bin_add q0 qi) <| od [500] 5 (op_move q0) .nil) fun _ a w h => ?_
            obtain rfl := Option.some.inj hF
            exact ⟨rfl, h.sub [0, 1, 2, 3, 4, 5, 6, 7, 8, 9] (by rfl)⟩
        · refine wp_exit ?_
          obtain rfl := Option.some.inj hF
          exact ⟨exit_ne _, rfl, h.sub [0, 1, 2, 6, 7, 8, 9] (by rfl)⟩
      · clear hl17
        intro e a w hq
        cases cr16 with
        | ret r18 =>
          obtain ⟨rfl, hq⟩ := hq
          obtain rfl := Option.some.inj hF
          exact ⟨.inl rfl, hq⟩
        | next y20 =>
          obtain ⟨rfl, h⟩ := hq
          change SatL c [.slot 0 (lpVP p_0 0), .slot 2 (strVP a_2), .slot 4 (lpVP (b3 0) 0), .res (lb p_0 188 [one (eqVP h_0_0), one (eqVP h_0_1)]), .res (acc h_0_0 9 1 strC s_0.f_Inputs), .res (mapR h_0_1 arrK (fun l => l.length = 32) (fun u y => acc u 9 1 strC y) s_0.f_Digests), .res (lb (b3 0) 24 [bytesCk 32 a_1])] a w at h
          refine inBlock_at ?_
          show Code.wp Tryz.prog _ _ a w
          obtain ⟨hv21, hF⟩ := ite_some hF
          refine regS mixed hn hG h [0, 1, 3, 4, 500] (ov [0] (op_move q0) <| ov [500] (op_nilCheck q0 (ptr_lp _ _)) <| ov [500] (op_fieldAddr_lbm (p := p_0) (n := 1) 0 1 Tryz.underlying188 rfl Tryz.sizeOf186 (by decide) q0 rfl) <| ov [500, 3] (op_load_lb1 [one (eqVP h_0_0)] [] 1 Tryz.isAgg186 q0 rfl rfl) <| ov [2, 6] (op_load_w 1 Tryz.isAgg24 Tryz.sizeOf24 q0) <| ov [1] (op_move q0) <| ov [500] (op_lit (xs := [.tmp 31]) (ys := [a_2]) _ rfl Tryz.underlying53 Tryz.sizeOf9 Tryz.zeroValue9 rfl rfl (by decide) (by decide) ⟨⟨_, q0, (cells_one (one_str _))⟩, trivial⟩ lens_strC) <| og [503, 502] [5] [.slot 33 7 100000 (fun v1_ _ => (tupVP [(eqVP (tup0 v1_)), (eqVP (tup1 v1_))])), .res 7 100000 (fun v1_ _ => (acc (tup0 v1_) 9 1 strC ((lkp a_1 s_0.f_Digests).getD ([] : List (List UInt8))))), .res 7 100000 (fun v1_ _ => (mapH h_0_1 (tup1 v1_) arrK (fun l => l.length = 32) (fun u y => acc u 9 1 strC y) a_1 (ens a_1 ([] : List (List UInt8)) s_0.f_Digests)))] (GOk.plain (op_mapEntry ([] : List (List UInt8)) Tryz.underlying186 (keyArr Tryz.underlying24 Tryz.underlying5 Tryz.type5 Tryz.sizeOf5 Tryz.isAgg5) Tryz.zeroValue53 q0 q1 hk_arr (fun _ _ => ⟨by decide, .inl ⟨rfl, rfl, rfl⟩⟩)) rfl) <| og [502] [] [.slot 30 7 100000 (fun v1_ _ => (eqVP (tup0 v1_)))] (fun {β} => (GOk.plain (op_extract (V := (eqVP (tup0 (β 7)))) q0 rfl) rfl)) <| og [500, 504] [502] [.slot 34 9 100000 (fun v1_ _ => (eqVP v1_)), .res 9 100000 (fun v1_ _ => (acc (v1_) 9 1 strC (((lkp a_1 s_0.f_Digests).getD ([] : List (List UInt8))) ++ [a_2])))] (GOk.plain (op_append (i := Tryz.t9) Tryz.underlying53 Tryz.type9 rfl lens_strC (by decide) rfl q0 q1 hv21) rfl) <| og [505] [] [.slot 35 7 100000 (fun v1_ _ => (eqVP (tup1 v1_)))] (fun {β} => (GOk.plain (op_extract (V := (eqVP (tup1 (β 7)))) q0 rfl) rfl)) <| og [510, 500, 502] [501, 504] [.base (.res (mapR h_0_1 arrK (fun l => l.length = 32) (fun u y => acc u 9 1 strC y) (upd a_1 (((lkp a_1 s_0.f_Digests).getD ([] : List (List UInt8))) ++ [a_2]) (ens a_1 ([] : List (List UInt8)) s_0.f_Digests))))] (fun {β} => (GOk.plain (op_entryStore (eR := (fun u y => acc u 9 1 strC y)) (u := (β 9)) (n := (((lkp a_1 s_0.f_Digests).getD ([] : List (List UInt8))) ++ [a_2])) q0 q1 q2) rfl)) .nil) fun _ a w h => ?_
          obtain ⟨hv22, hF⟩ := ite_some hF
          refine reg mixed hn hG h [500, 4, 503] (ov [0] (op_move q0) <| ov [0] (op_move q0) <| ov [500] (op_nilCheck q0 (ptr_lp _ _)) <| ov [500] (op_fieldAddr_lbm (p := p_0) (n := 1) 0 0 Tryz.underlying188 rfl Tryz.sizeOf53 (by decide) q0 rfl) <| ov [500, 2] (op_load_lb1 [] [one (eqVP h_0_1)] 1 Tryz.isAgg53 q0 rfl rfl) <| ov [1] (op_move q0) <| ov [500] (op_lit (xs := [.tmp 41]) (ys := [a_2]) _ rfl Tryz.underlying53 Tryz.sizeOf9 Tryz.zeroValue9 rfl rfl (by decide) (by decide) ⟨⟨_, q0, (cells_one (one_str _))⟩, trivial⟩ lens_strC) <| og [502, 500] [3] [.slot 43 7 100000 (fun v1_ _ => (eqVP v1_)), .res 7 100000 (fun v1_ _ => (acc (v1_) 9 1 strC (s_0.f_Inputs ++ [a_2])))] (GOk.plain (op_append (i := Tryz.t9) Tryz.underlying53 Tryz.type9 rfl lens_strC (by decide) rfl q0 q1 hv22) rfl) <| ov [508] (op_nilCheck q0 (ptr_lp _ _)) <| ov [500] (op_fieldAddr_lbm (p := p_0) (n := 1) 0 0 Tryz.underlying188 rfl Tryz.sizeOf53 (by decide) q0 rfl) <| og [500, 503, 502] [2] [.res 7 100000 (fun v1_ _ => (lb p_0 188 [one (eqVP (v1_)), one (eqVP h_0_1)]))] (fun {β} => (GOk.plain (op_store_lb [] [one (eqVP h_0_0)] [one (eqVP h_0_1)] [one (eqVP ((β 7)))] Tryz.sizeOf53 q0 (opone 1 2 rfl rfl acc_one) (cells_h _) rfl rfl rfl) rfl)) .nil) fun b23 a w h => ?_
          replace h := h.unsep 2 1 rfl rfl (by decide)
          replace h := h.unsep 0 2 rfl rfl (by decide)
          replace h := h.conv 0 rfl (R' := RLog_e p_0 (some ⟨s_0.f_Inputs ++ [a_2], upd a_1 (((lkp a_1 s_0.f_Digests).getD ([] : List (List UInt8))) ++ [a_2]) (ens a_1 ([] : List (List UInt8)) s_0.f_Digests)⟩)) (RLog_packo (v0 := (b23 7)) (v1 := h_0_1) (o := (some ⟨s_0.f_Inputs ++ [a_2], upd a_1 (((lkp a_1 s_0.f_Digests).getD ([] : List (List UInt8))) ++ [a_2]) (ens a_1 ([] : List (List UInt8)) s_0.f_Digests)⟩)))
          replace h := h.sub [0] (by rfl)
          change SatL c [.res (RLog_e p_0 (some ⟨s_0.f_Inputs ++ [a_2], upd a_1 (((lkp a_1 s_0.f_Digests).getD ([] : List (List UInt8))) ++ [a_2]) (ens a_1 ([] : List (List UInt8)) s_0.f_Digests)⟩))] a w at h
          obtain rfl := Option.some.inj hF
          exact ⟨.inr rfl, retn h (rs := []) (Vs := []) Tryz.results67 (by decide) trivial [0] [(RLog_e p_0 (some ⟨s_0.f_Inputs ++ [a_2], upd a_1 (((lkp a_1 s_0.f_Digests).getD ([] : List (List UInt8))) ++ [a_2]) (ens a_1 ([] : List (List UInt8)) s_0.f_Digests)⟩))] rfl rfl rfl⟩

def ref04_Log_Of (L_0 : Option O_RLog) (a_1 : Int) (a_2 : List (List UInt8)) : Option ((List UInt8) × (Option O_RLog)) := ((ref04_Input a_1 a_2).bind fun r2 => ((ref01_Sum r2).bind fun r3 => ((ref04_Log_Note L_0 r3 r2).bind fun r5 => some (r3, r5))))
theorem ref04_Log_Of_ok {p_0 : Value} {L_0 : Option O_RLog} {a_1 : Int} {a_2 : List (List UInt8)} {r : (List UInt8) × (Option O_RLog)} (hF : ref04_Log_Of L_0 a_1 a_2 = some r) : CallOk Tryz.prog KG 42 [(eqVP p_0), (intVP .u8 a_1), (slVP strC a_2)] [(RLog_e p_0 L_0)] (fun _ => [RLog_e p_0 r.2]) (aggVP [bytesCk 32 r.1]) := by
  refine CallOk.intro 19 Tryz.func42 rfl Tryz.ntmps42 (Nat.le_of_ble_eq_true rfl) ?_
  intro c a w hG hn h
  unfold ref04_Log_Of at hF
  change SatL c [.slot 0 (eqVP p_0), .slot 1 (intVP .u8 a_1), .slot 2 (slVP strC a_2), .res (RLog_e p_0 L_0)] a w at h
  refine regS mixed hn hG h [0, 1, 2, 501, 3, 500] (ob [] (op_alloc Tryz.zeroValue24 z24) .nil) fun b1 a w h => ?_
  obtain ⟨r2, hr2, hF⟩ := bind_some hF
  refine regS mixed hn hG h [0, 3, 500, 4, 5] (ov [1] (op_move q0) <| ov [2] (op_move q0) <| oc [501, 500] [] Tryz.call65 (ref04_Input_ok hr2) ⟨q0, q1, trivial⟩ <| ov [500] (op_assign q0) .nil) fun _ a w h => ?_
  obtain ⟨r3, hr3, hF⟩ := bind_some hF
  refine regS mixed hn hG h [0, 1, 2, 502, 3, 4, 500] (ov [2] (op_move q0) <| oc [500] [] Tryz.call66 (ref01_Sum_ok hr3) ⟨q0, trivial⟩ <| ob [] (op_alloc Tryz.zeroValue24 z24) <| og [501, 502] [500] [.res 2 100000 (fun v1_ _ => (lb (v1_) 24 [bytesCk 32 r3]))] (GOk.plain (op_store_w Tryz.sizeOf24 q0 q1 (cells_agg _)) rfl) .nil) fun b4 a w h => ?_
  obtain ⟨r5, hr5, hF⟩ := bind_some hF
  refine regS mixed hn hG h [1, 3, 5, 6, 500] (ov [0] (op_move q0) <| ov [3, 6] (op_load_w 1 Tryz.isAgg24 Tryz.sizeOf24 q0) <| ov [2] (op_move q0) <| oc [502, 501, 500] [4] Tryz.call67 (ref04_Log_Note_ok hr5) ⟨q0, q1, q2, trivial⟩ .nil) fun _ a w h => ?_
  refine regS mixed hn hG h [0, 500, 4] (ov [1, 3] (op_load_w 1 Tryz.isAgg24 Tryz.sizeOf24 q0) <| ou [0, 500] 2 (op_store_w Tryz.sizeOf24 q0 q1 (cells_agg _)) .nil) fun _ a w h => ?_
  refine wp_ret ?_
  obtain rfl := Option.some.inj hF
  exact ⟨.inl rfl, ret1 h Tryz.results42 (r_cell 0 1 rfl rfl Tryz.isAgg24 Tryz.sizeOf24 rfl) [2] [(RLog_e p_0 r5)] rfl rfl rfl⟩

def ref03_Bytes (a_0 : List UInt8) : Option (List UInt8) := some (a_0.take ((32 : Int).toNat - (0 : Int).toNat))
theorem ref03_Bytes_ok {a_0 : List UInt8} {r : (List UInt8)} (hF : ref03_Bytes a_0 = some r) : CallOk Tryz.prog KG 83 [(aggVP [bytesCk 32 a_0])] [] (fun _ => []) (strVP r) := by
  refine CallOk.intro 5 Tryz.func83 rfl Tryz.ntmps83 (Nat.le_of_ble_eq_true rfl) ?_
  intro c a w hG hn h
  unfold ref03_Bytes at hF
  change SatL c [.slot 0 (aggVP [bytesCk 32 a_0])] a w at h
  refine regS mixed hn hG h [502, 501] (ob [0] (op_box q0 (cells_agg _)) <| ov [] (op_assign (opc (sc _ (by decide)))) .nil) fun b1 a w h => ?_
  refine regS mixed hn hG h [500] (ov [0] (op_slice_lb (a := 0) (b := 32) Tryz.underlying24 Tryz.sizeOf5 q0 rfl rfl (by decide)) <| ov [500, 1] (op_str_lsl [] [] 1 Tryz.underlying180 Tryz.underlying5 Tryz.underlying9 q0 rfl rfl (by decide) (by decide)) <| ov [500] (op_assign q0) .nil) fun _ a w h => ?_
  refine wp_ret ?_
  obtain rfl := Option.some.inj hF
  exact ⟨.inl rfl, ret1 h Tryz.results83 (r_tmp 0 rfl) [] [] rfl rfl rfl⟩

def ref05_Public (L_0 : Option O_RLog) (a_1 : List UInt8) : Option ((List UInt8) × (Option O_RLog)) := ((ref03_Bytes a_1).bind fun r3 => ((ref04_Log_Of L_0 2 [r3]).bind fun r4 => some (r4.1, r4.2)))
theorem ref05_Public_ok {p_0 : Value} {L_0 : Option O_RLog} {a_1 : List UInt8} {r : (List UInt8) × (Option O_RLog)} (hF : ref05_Public L_0 a_1 = some r) : CallOk Tryz.prog KG 100 [(eqVP p_0), (aggVP [bytesCk 32 a_1])] [(RLog_e p_0 L_0)] (fun _ => [RLog_e p_0 r.2]) (aggVP [bytesCk 32 r.1]) := by
  refine CallOk.intro 10 Tryz.func100 rfl Tryz.ntmps100 (Nat.le_of_ble_eq_true rfl) ?_
  intro c a w hG hn h
  unfold ref05_Public at hF
  change SatL c [.slot 0 (eqVP p_0), .slot 1 (aggVP [bytesCk 32 a_1]), .res (RLog_e p_0 L_0)] a w at h
  refine regS mixed hn hG h [0, 503, 501, 2, 502, 500] (ob [1] (op_box q0 (cells_agg _)) <| ob [] (op_alloc Tryz.zeroValue24 z24) .nil) fun b1 a w h => ?_
  obtain ⟨r3, hr3, hF⟩ := bind_some hF
  obtain ⟨r4, hr4, hF⟩ := bind_some hF
  refine regS mixed hn hG h [2, 500, 501] (ov [0] (op_move q0) <| ov [1, 4] (op_load_w 1 Tryz.isAgg24 Tryz.sizeOf24 q0) <| oc [500] [] Tryz.call83 (ref03_Bytes_ok hr3) ⟨q0, trivial⟩ <| ov [500] (op_lit (xs := [.tmp 7]) (ys := [r3]) _ rfl Tryz.underlying53 Tryz.sizeOf9 Tryz.zeroValue9 rfl rfl (by decide) (by decide) ⟨⟨_, q0, (cells_one (one_str _))⟩, trivial⟩ lens_strC) <| oc [503, 500] [3] Tryz.call42 (ref04_Log_Of_ok hr4) ⟨q0, qi, q1, trivial⟩ <| ou [2, 501] 5 (op_store_w Tryz.sizeOf24 q0 q1 (cells_agg _)) .nil) fun _ a w h => ?_
  refine wp_ret ?_
  obtain rfl := Option.some.inj hF
  exact ⟨.inl rfl, ret1 h Tryz.results100 (r_cell 0 1 rfl rfl Tryz.isAgg24 Tryz.sizeOf24 rfl) [2] [(RLog_e p_0 r4.2)] rfl rfl rfl⟩

def ref05_Bit.b1 (a_1 : Int) (x6 : Int) (x7 : Int) : Option (Flow Int (Int × Int)) := (if (decide (x7 < (IntKind.wrap .i64 (7 - (a_1.tmod 8))))) = true then some (.cont (IntKind.wrap .i64 (x6.tdiv 2), IntKind.wrap .i64 (x7 + 1))) else some (.brk (x6, x7)))
def ref05_Bit.j1 (a_0 : List UInt8) (a_1 : Int) (x2 : Bool) : Option Int := (if x2 = true then some 0 else (if (0 : Int) ≤ IntKind.wrap .i64 (a_1.tdiv 8) ∧ IntKind.wrap .i64 (a_1.tdiv 8) < 32 then ((loopN (fun s : Int × Int => ref05_Bit.b1 a_1 s.1 s.2) 100000 (IntKind.wrap .i64 ((a_0.getD (IntKind.wrap .i64 (a_1.tdiv 8)).toNat 0).toNat), 0)).bind fun cr => match cr with | .ret r => some r | .next (y16, y17) => some (y16.tmod 2)) else none))
def ref05_Bit (a_0 : List UInt8) (a_1 : Int) : Option Int := (if (decide (a_1 < (0 : Int))) = true then ref05_Bit.j1 a_0 a_1 true else ref05_Bit.j1 a_0 a_1 (decide ((255 : Int) < a_1)))
theorem ref05_Bit_ok {a_0 : List UInt8} {a_1 : Int} {r : Int} (hF : ref05_Bit a_0 a_1 = some r) : CallOk Tryz.prog KG 101 [(aggVP [bytesCk 32 a_0]), (intVP .i64 a_1)] [] (fun _ => []) (intVP .i64 r) := by
  refine CallOk.intro 29 Tryz.func101 rfl Tryz.ntmps101 (Nat.le_of_ble_eq_true rfl) ?_
  intro c a w hG hn h
  unfold ref05_Bit at hF
  change SatL c [.slot 0 (aggVP [bytesCk 32 a_0]), .slot 1 (intVP .i64 a_1)] a w at h
  refine regS mixed hn hG h [1, 502, 501] (ob [0] (op_box q0 (cells_agg _)) <| ov [] (op_assign qi) .nil) fun b1 a w h => ?_
  refine wp_seq ?_
  refine wp_seq ?_
  refine wp_cut (fun a w => ∃ (x2 : Bool), ref05_Bit.j1 a_0 a_1 x2 = some r ∧ SatL c [.slot 1 (intVP .i64 a_1), .slot 2 (lpVP (b1 0) 0), .slot 12 (boolVP x2), .res (lb (b1 0) 24 [bytesCk 32 a_0])] a w) ?_ ?_
  · rcases Bool.eq_false_or_eq_true (decide (a_1 < (0 : Int))) with hb18 | hb18
    · replace hF := tt_of hb18 hF
      refine reg mixed hn hG h [0, 1, 500, 2] (ov [0] (op_move q0) <| ov [500] (op_bin bin_lss q0 qi) <| ov [500] (op_move q0) <| oe [500] [] (GOk.off_v (want := false) hb18 rfl rfl rfl rfl) <| oe [501] [] (GOk.off_v (want := false) hb18 rfl rfl rfl rfl) <| ov [502] (op_pick_t hb18 q0 qb) .nil) fun _ a w h => ?_
      exact ⟨true, hF, h.sub [0, 1, 2, 3] (by rfl)⟩
    · replace hF := ff_of hb18 hF
      refine reg mixed hn hG h [0, 1, 500, 2] (ov [0] (op_move q0) <| ov [500] (op_bin bin_lss q0 qi) <| ov [500] (op_move q0) <| oe [500, 0] [] (GOk.on_eq hb18 rfl rfl rfl (op_move q0)) <| oe [501, 500] [] (GOk.on_eq hb18 rfl rfl rfl (op_bin bin_gtr q0 qi)) <| ov [502, 500] (op_pick_f hb18 q0 q1) .nil) fun _ a w h => ?_
      exact ⟨decide ((255 : Int) < a_1), hF, h.sub [0, 1, 2, 3] (by rfl)⟩
  · clear h hF
    rintro a w ⟨x2, hF, h⟩
    unfold ref05_Bit.j1 at hF
    show Code.wp Tryz.prog _ _ a w
    refine cnd h hF 2 [] [0, 1, 3] (fun hb3 hF h => ?_) (fun hb3 hF h => ?_)
    · refine regS mixed hn hG h [500] (ov [] (op_assign qi) .nil) fun _ a w h => ?_
      refine wp_ret ?_
      obtain rfl := Option.some.inj hF
      exact ⟨.inl rfl, ret1 h Tryz.results101 (r_tmp 0 rfl) [] [] rfl rfl rfl⟩
    · refine wp_skip ?_
      show Code.wp Tryz.prog _ _ a w
      obtain ⟨hv4, hF⟩ := ite_some hF
      refine regS mixed hn hG h [0, 500] (ov [0] (op_move q0) <| ov [500] (op_bin (bin_quo (by decide)) q0 qi) <| ov [1, 500] (op_indexAddr_lb Tryz.underlying24 Tryz.sizeOf5 q0 q1 hv4) <| ov [500, 2] (op_load_lbB (i := IntKind.wrap .i64 (a_1.tdiv 8)) [] [] 1 Tryz.isAgg5 q0 rfl rfl hv4) <| ov [500] (op_convert_int Tryz.underlying5 Tryz.underlying3 q0) <| ov [500] (op_assign q0) .nil) fun _ a w h => ?_
      refine wp_seq ?_
      refine regS mixed hn hG h [0, 1, 500] (ov [] (op_assign qi) .nil) fun _ a w h => ?_
      refine wp_block ?_
      obtain ⟨cr12, hl13, hF⟩ := bind_some hF
      refine wp_mono (wp_loopN (R := Int) (S := Int × Int) (fun s a w => SatL c [.slot 1 (intVP .i64 a_1), .slot 5 (intVP .i64 s.1), .slot 6 (intVP .i64 s.2)] a w) (fun res e a w => match res with | .next s => e = .exit 0 ∧ SatL c [.slot 5 (intVP .i64 s.1)] a w | .ret r => e = .ret ∧ RetOk Tryz.prog Tryz.f101 c (intVP .i64 r) (fun _ => []) a w) ?_ _ (IntKind.wrap .i64 ((a_0.getD (IntKind.wrap .i64 (a_1.tdiv 8)).toNat 0).toNat), 0) _ _ _ (h.sub [0, 1, 2] (by rfl)) hl13) ?_
      · clear hl13 hF h
        intro s a w o h hF
        obtain ⟨x6, x7⟩ := s
        change ref05_Bit.b1 a_1 x6 x7 = some o at hF
        unfold ref05_Bit.b1 at hF
        change SatL c [.slot 1 (intVP .i64 a_1), .slot 5 (intVP .i64 x6), .slot 6 (intVP .i64 x7)] a w at h
        refine wp_seq ?_
        refine regS mixed hn hG h [0, 1, 2, 500] (ov [2] (op_move q0) <| ov [0] (op_move q0) <| ov [500] (op_bin (bin_rem (by decide)) q0 qi) <| ov [500] (op_bin bin_sub qi q0) <| ov [503, 500] (op_bin bin_lss q0 q1) .nil) fun _ a w h => ?_
        refine cnd h hF 3 [0, 1, 2] [0, 1, 2] (fun hb11 hF h => ?_) (fun hb11 hF h => ?_)
        · refine wp_skip ?_
          show Code.wp Tryz.prog _ _ a w
          refine wp_seq ?_
          refine wp_block ?_
          refine reg mixed hn hG h [0, 500, 2] (ov [1] (op_move q0) <| ov [500] (op_bin (bin_quo (by decide)) q0 qi) <| od [500] 1 (op_assign q0) .nil) fun _ a w h => ?_
          show Code.wp Tryz.prog _ _ a w
          refine reg mixed hn hG h [0, 1, 500] (ov [2] (op_move q0) <| ov [500] (op_bin bin_add q0 qi) <| od [500] 2 (op_assign q0) .nil) fun _ a w h => ?_
          obtain rfl := Option.some.inj hF
          exact ⟨rfl, h.sub [0, 1, 2] (by rfl)⟩
        · refine wp_exit ?_
          obtain rfl := Option.some.inj hF
          exact ⟨exit_ne _, rfl, h.sub [1] (by rfl)⟩
      · clear hl13
        intro e a w hq
        cases cr12 with
        | ret r14 =>
          obtain ⟨rfl, hq⟩ := hq
          obtain rfl := Option.some.inj hF
          exact ⟨.inl rfl, hq⟩
        | next s15 =>
          obtain ⟨y16, y17⟩ := s15
          obtain ⟨rfl, h⟩ := hq
          change SatL c [.slot 5 (intVP .i64 y16)] a w at h
          refine inBlock_at ?_
          show Code.wp Tryz.prog _ _ a w
          refine regS mixed hn hG h [500] (ov [0] (op_move q0) <| ov [500] (op_bin (bin_rem (by decide)) q0 qi) <| ov [500] (op_assign q0) .nil) fun _ a w h => ?_
          refine wp_ret ?_
          obtain rfl := Option.some.inj hF
          exact ⟨.inl rfl, ret1 h Tryz.results101 (r_tmp 0 rfl) [] [] rfl rfl rfl⟩

def ref05_Opened.j2 (x46 : Int) (r75 : (List UInt8) × (Option O_RLog)) (x90 : List (UInt8)) : Option (Flow ((List UInt8) × Bool × (Option O_RLog)) (Int × (Option O_RLog) × (List (UInt8)))) := some (.cont (IntKind.wrap .i64 (x46 + 1), r75.2, x90))
def ref05_Opened.b1 (a_1 : List UInt8) (a_2 : List (List UInt8)) (a_3 : List (List UInt8)) (x46 : Int) (x47 : Option O_RLog) (x48 : List (UInt8)) : Option (Flow ((List UInt8) × Bool × (Option O_RLog)) (Int × (Option O_RLog) × (List (UInt8)))) := (if (decide (x46 < (32 : Int))) = true then (if (0 : Int) ≤ x46 ∧ x46 < a_2.length then ((ref05_Public x47 (a_2.getD x46.toNat default)).bind fun r75 => ((ref03_Bytes r75.1).bind fun r76 => ((ref05_Bit a_1 x46).bind fun r77 => (if (decide (r77 = (0 : Int))) = true then (if x48.length + r76.length ≤ mxl ∧ (x48.length + r76.length) * 1 ≤ 140737488355328 then (if (0 : Int) ≤ x46 ∧ x46 < a_3.length then ((ref03_Bytes (a_3.getD x46.toNat default)).bind fun r96 => (if (x48 ++ r76).length + r96.length ≤ mxl ∧ ((x48 ++ r76).length + r96.length) * 1 ≤ 140737488355328 then ref05_Opened.j2 x46 r75 ((x48 ++ r76) ++ r96) else none)) else none) else none) else (if (0 : Int) ≤ x46 ∧ x46 < a_3.length then ((ref03_Bytes (a_3.getD x46.toNat default)).bind fun r100 => (if x48.length + r100.length ≤ mxl ∧ (x48.length + r100.length) * 1 ≤ 140737488355328 then (if (x48 ++ r100).length + r76.length ≤ mxl ∧ ((x48 ++ r100).length + r76.length) * 1 ≤ 140737488355328 then ref05_Opened.j2 x46 r75 ((x48 ++ r100) ++ r76) else none) else none)) else none))))) else none) else some (.brk (x46, x47, x48)))
def ref05_Opened.j1 (L_0 : Option O_RLog) (a_1 : List UInt8) (a_2 : List (List UInt8)) (a_3 : List (List UInt8)) (x3 : Bool) : Option ((List UInt8) × Bool × (Option O_RLog)) := (if x3 = true then some ((List.replicate 32 0), false, L_0) else ((loopN (fun s : Int × (Option O_RLog) × (List (UInt8)) => ref05_Opened.b1 a_1 a_2 a_3 s.1 s.2.1 s.2.2) ((32 - 0 : Int).toNat + 2) (0, L_0, [])).bind fun cr => match cr with | .ret r => some r | .next (y109, y110, y111) => ((ref04_Log_Of y110 3 [y111]).bind fun r112 => some (r112.1, true, r112.2))))
def ref05_Opened (L_0 : Option O_RLog) (a_1 : List UInt8) (a_2 : List (List UInt8)) (a_3 : List (List UInt8)) : Option ((List UInt8) × Bool × (Option O_RLog)) := (if (!decide ((a_2.length : Int) = (32 : Int))) = true then ref05_Opened.j1 L_0 a_1 a_2 a_3 true else ref05_Opened.j1 L_0 a_1 a_2 a_3 (!decide ((a_3.length : Int) = (32 : Int))))
theorem ref05_Opened_ok {p_0 : Value} {L_0 : Option O_RLog} {a_1 : List UInt8} {a_2 : List (List UInt8)} {a_3 : List (List UInt8)} {r : (List UInt8) × Bool × (Option O_RLog)} (hF : ref05_Opened L_0 a_1 a_2 a_3 = some r) : CallOk Tryz.prog KG 81 [(eqVP p_0), (aggVP [bytesCk 32 a_1]), (slVP (dC 32) a_2), (slVP (dC 32) a_3)] [(RLog_e p_0 L_0)] (fun _ => [RLog_e p_0 r.2.2]) (tupVP [(aggVP [bytesCk 32 r.1]), (boolVP r.2.1)]) := by
  refine CallOk.intro 62 Tryz.func81 rfl Tryz.ntmps81 (Nat.le_of_ble_eq_true rfl) ?_
  intro c a w hG hn h
  unfold ref05_Opened at hF
  change SatL c [.slot 0 (eqVP p_0), .slot 1 (aggVP [bytesCk 32 a_1]), .slot 2 (slVP (dC 32) a_2), .slot 3 (slVP (dC 32) a_3), .res (RLog_e p_0 L_0)] a w at h
  refine regS mixed hn hG h [0, 2, 3, 504, 502, 4, 503, 501] (ob [1] (op_box q0 (cells_agg _)) <| ob [] (op_alloc Tryz.zeroValue24 z24) <| ov [] (op_assign qb) .nil) fun b1 a w h => ?_
  refine wp_seq ?_
  refine wp_seq ?_
  refine wp_cut (fun a w => ∃ (x3 : Bool), ref05_Opened.j1 L_0 a_1 a_2 a_3 x3 = some r ∧ SatL c [.slot 0 (eqVP p_0), .slot 2 (slVP (dC 32) a_2), .slot 3 (slVP (dC 32) a_3), .slot 5 (lpVP (b1 0) 0), .slot 8 (lpVP (b1 1) 0), .slot 20 (boolVP x3), .res (RLog_e p_0 L_0), .res (lb (b1 0) 24 [bytesCk 32 a_1]), .res (lb (b1 1) 24 [bytesCk 32 (List.replicate 32 0)])] a w) ?_ ?_
  · rcases Bool.eq_false_or_eq_true (!decide ((a_2.length : Int) = (32 : Int))) with hb113 | hb113
    · replace hF := tt_of hb113 hF
      refine reg mixed hn hG h [0, 1, 2, 3, 4, 500, 5, 6, 7] (ov [1] (op_move q0) <| ov [500] (op_len_sl Tryz.underlying25 q0) <| ov [500] (op_bin bin_neq q0 qi) <| ov [500] (op_move q0) <| oe [500] [] (GOk.off_v (want := false) hb113 rfl rfl rfl rfl) <| oe [501] [] (GOk.off_v (want := false) hb113 rfl rfl rfl rfl) <| oe [502] [] (GOk.off_v (want := false) hb113 rfl rfl rfl rfl) <| ov [503] (op_pick_t hb113 q0 qb) .nil) fun _ a w h => ?_
      exact ⟨true, hF, h.sub [0, 1, 2, 3, 4, 5, 6, 7, 8] (by rfl)⟩
    · replace hF := ff_of hb113 hF
      refine reg mixed hn hG h [0, 1, 2, 3, 4, 500, 5, 6, 7] (ov [1] (op_move q0) <| ov [500] (op_len_sl Tryz.underlying25 q0) <| ov [500] (op_bin bin_neq q0 qi) <| ov [500] (op_move q0) <| oe [500, 2] [] (GOk.on_eq hb113 rfl rfl rfl (op_move q0)) <| oe [501, 500] [] (GOk.on_eq hb113 rfl rfl rfl (op_len_sl Tryz.underlying25 q0)) <| oe [502, 500] [] (GOk.on_eq hb113 rfl rfl rfl (op_bin bin_neq q0 qi)) <| ov [503, 500] (op_pick_f hb113 q0 q1) .nil) fun _ a w h => ?_
      exact ⟨!decide ((a_3.length : Int) = (32 : Int)), hF, h.sub [0, 1, 2, 3, 4, 5, 6, 7, 8] (by rfl)⟩
  · clear h hF
    rintro a w ⟨x3, hF, h⟩
    unfold ref05_Opened.j1 at hF
    show Code.wp Tryz.prog _ _ a w
    refine cnd h hF 5 [4, 6, 8] [0, 1, 2, 3, 4, 6, 7, 8] (fun hb4 hF h => ?_) (fun hb4 hF h => ?_)
    · refine regS mixed hn hG h [0, 500, 1, 501] (ov [] (build0 Tryz.zeroValue24 Tryz.underlying24 Tryz.sizeOf5 z24) <| ou [0, 500] 2 (op_store_w Tryz.sizeOf24 q0 q1 (cells_agg _)) <| ov [] (op_assign qb) .nil) fun _ a w h => ?_
      refine wp_ret ?_
      obtain rfl := Option.some.inj hF
      exact ⟨.inl rfl, retn h (rs := [.cell 8 24, .tmp 9]) (Vs := [(aggVP [bytesCk 32 (List.replicate 32 0)]), (boolVP false)]) Tryz.results81 (by decide) ⟨(r_cell 0 3 rfl rfl Tryz.isAgg24 Tryz.sizeOf24 rfl), (r_tmp 1 rfl), trivial⟩ [2] [(RLog_e p_0 L_0)] rfl rfl rfl⟩
    · refine wp_skip ?_
      show Code.wp Tryz.prog _ _ a w
      refine regS mixed hn hG h [0, 1, 2, 3, 4, 500, 5, 6, 7] (ov [] (op_assign (opc (ec _))) .nil) fun _ a w h => ?_
      refine wp_seq ?_
      refine regS mixed hn hG h [0, 1, 2, 3, 4, 5, 500, 6, 7, 8] (ov [] (op_assign qi) .nil) fun _ a w h => ?_
      refine wp_block ?_
      obtain ⟨q26, h⟩ : ∃ q26 : Value, SatL c [.slot 0 (eqVP p_0), .slot 2 (slVP (dC 32) a_2), .slot 3 (slVP (dC 32) a_3), .slot 5 (lpVP (b1 0) 0), .slot 8 (lpVP (b1 1) 0), .slot 10 (eqVP q26), .slot 11 (intVP .i64 0), .res (RLog_e p_0 L_0), .res (lb (b1 0) 24 [bytesCk 32 a_1]), .res (lb (b1 1) 24 [bytesCk 32 (List.replicate 32 0)]), .res (acc q26 5 1 bC [])] a w := ⟨.slice none 0 0, (h.nilacc 5 1 bC).sub [0, 1, 2, 3, 4, 5, 6, 7, 8, 9, 10] (by rfl)⟩
      obtain ⟨cr105, hl106, hF⟩ := bind_some hF
      refine wp_mono (wp_loopN (R := (List UInt8) × Bool × (Option O_RLog)) (S := Int × (Option O_RLog) × (List (UInt8))) (fun s a w => ∃ q49 : Value, SatL c [.slot 0 (eqVP p_0), .slot 2 (slVP (dC 32) a_2), .slot 3 (slVP (dC 32) a_3), .slot 5 (lpVP (b1 0) 0), .slot 8 (lpVP (b1 1) 0), .slot 10 (eqVP q49), .slot 11 (intVP .i64 s.1), .res (RLog_e p_0 s.2.1), .res (lb (b1 0) 24 [bytesCk 32 a_1]), .res (lb (b1 1) 24 [bytesCk 32 (List.replicate 32 0)]), .res (acc q49 5 1 bC s.2.2)] a w) (fun res e a w => match res with | .next s => e = .exit 0 ∧ ∃ q49 : Value, SatL c [.slot 0 (eqVP p_0), .slot 8 (lpVP (b1 1) 0), .slot 10 (eqVP q49), .res (RLog_e p_0 s.2.1), .res (lb (b1 1) 24 [bytesCk 32 (List.replicate 32 0)]), .res (acc q49 5 1 bC s.2.2)] a w | .ret r => e = .ret ∧ RetOk Tryz.prog Tryz.f81 c (tupVP [(aggVP [bytesCk 32 r.1]), (boolVP r.2.1)]) (fun _ => [RLog_e p_0 r.2.2]) a w) ?_ _ (0, L_0, []) _ _ _ ⟨q26, (h.sub [0, 1, 2, 3, 4, 5, 6, 7, 8, 9, 10] (by rfl))⟩ hl106) ?_
      · clear hl106 hF h
        intro s a w o h hF
        obtain ⟨x46, x47, x48⟩ := s
        obtain ⟨q49, h⟩ := h
        change ref05_Opened.b1 a_1 a_2 a_3 x46 x47 x48 = some o at hF
        unfold ref05_Opened.b1 at hF
        change SatL c [.slot 0 (eqVP p_0), .slot 2 (slVP (dC 32) a_2), .slot 3 (slVP (dC 32) a_3), .slot 5 (lpVP (b1 0) 0), .slot 8 (lpVP (b1 1) 0), .slot 10 (eqVP q49), .slot 11 (intVP .i64 x46), .res (RLog_e p_0 x47), .res (lb (b1 0) 24 [bytesCk 32 a_1]), .res (lb (b1 1) 24 [bytesCk 32 (List.replicate 32 0)]), .res (acc q49 5 1 bC x48)] a w at h
        refine wp_seq ?_
        refine regS mixed hn hG h [0, 1, 2, 3, 4, 5, 6, 500, 7, 8, 9, 10] (ov [6] (op_move q0) <| ov [500] (op_bin bin_lss q0 qi) .nil) fun _ a w h => ?_
        refine cnd h hF 7 [0, 1, 2, 3, 4, 5, 6, 8, 9, 10, 11] [0, 1, 2, 3, 4, 5, 6, 8, 9, 10, 11] (fun hb73 hF h => ?_) (fun hb73 hF h => ?_)
        · refine wp_skip ?_
          show Code.wp Tryz.prog _ _ a w
          refine wp_seq ?_
          refine wp_block ?_
          obtain ⟨hv74, hF⟩ := ite_some hF
          obtain ⟨r75, hr75, hF⟩ := bind_some hF
          obtain ⟨r76, hr76, hF⟩ := bind_some hF
          refine regS mixed hn hG h [0, 1, 2, 3, 4, 5, 6, 500, 8, 9, 10, 502] (ov [0] (op_move q0) <| ov [1] (op_move q0) <| ov [6] (op_move q0) <| ov [501, 500] (op_indexAddr_sl Tryz.underlying25 Tryz.sizeOf24 (lens_dC 32) q0 q1 hv74) <| ov [500] (op_load_pp [bytesCk 32 (a_2.getD x46.toNat default)] [] Tryz.isAgg24 Tryz.sizeOf24 q0 rfl) <| oc [504, 500] [7] Tryz.call100 (ref05_Public_ok hr75) ⟨q0, q1, trivial⟩ <| oc [501] [] Tryz.call83 (ref03_Bytes_ok hr76) ⟨q0, trivial⟩ <| ov [500] (op_assign q0) .nil) fun _ a w h => ?_
          obtain ⟨r77, hr77, hF⟩ := bind_some hF
          refine regS mixed hn hG h [0, 1, 2, 3, 4, 5, 6, 7, 500, 8, 9, 10, 11] (ov [3, 8] (op_load_w 1 Tryz.isAgg24 Tryz.sizeOf24 q0) <| ov [6] (op_move q0) <| oc [501, 500] [] Tryz.call101 (ref05_Bit_ok hr77) ⟨q0, q1, trivial⟩ <| ov [500] (op_bin bin_eql q0 qi) .nil) fun _ a w h => ?_
          refine wp_cut (fun a w => ∃ (x90 : List (UInt8)), ∃ q91 : Value, ref05_Opened.j2 x46 r75 x90 = some o ∧ SatL c [.slot 0 (eqVP p_0), .slot 2 (slVP (dC 32) a_2), .slot 3 (slVP (dC 32) a_3), .slot 5 (lpVP (b1 0) 0), .slot 8 (lpVP (b1 1) 0), .slot 10 (eqVP q91), .slot 11 (intVP .i64 x46), .res (lb (b1 0) 24 [bytesCk 32 a_1]), .res (lb (b1 1) 24 [bytesCk 32 (List.replicate 32 0)]), .res (RLog_e p_0 r75.2), .res (acc q91 5 1 bC x90)] a w) ?_ ?_
          · refine cnd h hF 8 [0, 1, 2, 3, 4, 5, 6, 7, 9, 10, 11, 12] [0, 1, 2, 3, 4, 5, 6, 7, 9, 10, 11, 12] (fun hb92 hF h => ?_) (fun hb92 hF h => ?_)
            · obtain ⟨hv93, hF⟩ := ite_some hF
              refine regS mixed hn hG h [0, 1, 2, 3, 4, 500, 6, 8, 9, 11, 501] (ov [5] (op_move q0) <| ov [7] (op_move q0) <| og [501, 500] [10] [.slot 39 2 100000 (fun v1_ _ => (eqVP v1_)), .res 2 100000 (fun v1_ _ => (acc (v1_) 5 1 bC (x48 ++ r76)))] (GOk.plain (op_append_str Tryz.underlying180 Tryz.underlying9 Tryz.type5 rfl rfl rfl rfl q0 q1 hv93) rfl) <| og [501] [5] [.slot 10 2 100000 (fun v1_ _ => (eqVP v1_))] (fun {β} => (GOk.drop _ (GOk.plain (op_assign (V := (eqVP (β 2))) q0) rfl))) .nil) fun b94 a w h => ?_
              obtain ⟨hv95, hF⟩ := ite_some hF
              obtain ⟨r96, hr96, hF⟩ := bind_some hF
              obtain ⟨hv97, hF⟩ := ite_some hF
              refine reg mixed hn hG h [0, 1, 2, 3, 4, 500, 6, 7, 8, 9, 501] (ov [5] (op_move q0) <| ov [2] (op_move q0) <| ov [6] (op_move q0) <| ov [501, 500] (op_indexAddr_sl Tryz.underlying25 Tryz.sizeOf24 (lens_dC 32) q0 q1 hv95) <| ov [500] (op_load_pp [bytesCk 32 (a_3.getD x46.toNat default)] [] Tryz.isAgg24 Tryz.sizeOf24 q0 rfl) <| oc [500] [] Tryz.call83 (ref03_Bytes_ok hr96) ⟨q0, trivial⟩ <| og [505, 500] [10] [.slot 46 6 100000 (fun v1_ _ => (eqVP v1_)), .res 6 100000 (fun v1_ _ => (acc (v1_) 5 1 bC ((x48 ++ r76) ++ r96)))] (GOk.plain (op_append_str Tryz.underlying180 Tryz.underlying9 Tryz.type5 rfl rfl rfl rfl q0 q1 hv97) rfl) <| og [501] [5] [.slot 10 6 100000 (fun v1_ _ => (eqVP v1_))] (fun {β} => (GOk.drop _ (GOk.plain (op_assign (V := (eqVP (β 6))) q0) rfl))) .nil) fun b98 a w h => ?_
              exact ⟨(x48 ++ r76) ++ r96, (b98 6), hF, h.sub [0, 1, 2, 3, 4, 5, 6, 7, 8, 9, 10] (by rfl)⟩
            · obtain ⟨hv99, hF⟩ := ite_some hF
              obtain ⟨r100, hr100, hF⟩ := bind_some hF
              obtain ⟨hv101, hF⟩ := ite_some hF
              refine regS mixed hn hG h [0, 1, 2, 3, 4, 500, 6, 7, 8, 9, 11, 501] (ov [5] (op_move q0) <| ov [2] (op_move q0) <| ov [6] (op_move q0) <| ov [501, 500] (op_indexAddr_sl Tryz.underlying25 Tryz.sizeOf24 (lens_dC 32) q0 q1 hv99) <| ov [500] (op_load_pp [bytesCk 32 (a_3.getD x46.toNat default)] [] Tryz.isAgg24 Tryz.sizeOf24 q0 rfl) <| oc [500] [] Tryz.call83 (ref03_Bytes_ok hr100) ⟨q0, trivial⟩ <| og [505, 500] [10] [.slot 53 6 100000 (fun v1_ _ => (eqVP v1_)), .res 6 100000 (fun v1_ _ => (acc (v1_) 5 1 bC (x48 ++ r100)))] (GOk.plain (op_append_str Tryz.underlying180 Tryz.underlying9 Tryz.type5 rfl rfl rfl rfl q0 q1 hv101) rfl) <| og [501] [5] [.slot 10 6 100000 (fun v1_ _ => (eqVP v1_))] (fun {β} => (GOk.drop _ (GOk.plain (op_assign (V := (eqVP (β 6))) q0) rfl))) .nil) fun b102 a w h => ?_
              obtain ⟨hv103, hF⟩ := ite_some hF
              refine reg mixed hn hG h [0, 1, 2, 3, 4, 500, 6, 8, 9, 10, 501] (ov [5] (op_move q0) <| ov [7] (op_move q0) <| og [501, 500] [11] [.slot 56 2 100000 (fun v1_ _ => (eqVP v1_)), .res 2 100000 (fun v1_ _ => (acc (v1_) 5 1 bC ((x48 ++ r100) ++ r76)))] (GOk.plain (op_append_str Tryz.underlying180 Tryz.underlying9 Tryz.type5 rfl rfl rfl rfl q0 q1 hv103) rfl) <| og [501] [5] [.slot 10 2 100000 (fun v1_ _ => (eqVP v1_))] (fun {β} => (GOk.drop _ (GOk.plain (op_assign (V := (eqVP (β 2))) q0) rfl))) .nil) fun b104 a w h => ?_
              exact ⟨(x48 ++ r100) ++ r76, (b104 2), hF, h.sub [0, 1, 2, 3, 4, 5, 6, 7, 8, 9, 10] (by rfl)⟩
          · clear h hF
            rintro a w ⟨x90, q91, hF, h⟩
            unfold ref05_Opened.j2 at hF
            show Code.wp Tryz.prog _ _ a w
            refine reg mixed hn hG h [0, 1, 2, 3, 4, 5, 500, 7, 8, 9, 10] (ov [6] (op_move q0) <| ov [500] (op_bin bin_add q0 qi) <| od [500] 6 (op_assign q0) .nil) fun _ a w h => ?_
            obtain rfl := Option.some.inj hF
            exact ⟨rfl, q91, h.sub [0, 1, 2, 3, 4, 5, 6, 9, 7, 8, 10] (by rfl)⟩
        · refine wp_exit ?_
          obtain rfl := Option.some.inj hF
          exact ⟨exit_ne _, rfl, q49, h.sub [0, 4, 5, 7, 9, 10] (by rfl)⟩
      · clear hl106
        intro e a w hq
        cases cr105 with
        | ret r107 =>
          obtain ⟨rfl, hq⟩ := hq
          obtain rfl := Option.some.inj hF
          exact ⟨.inl rfl, hq⟩
        | next s108 =>
          obtain ⟨y109, y110, y111⟩ := s108
          obtain ⟨rfl, q49, h⟩ := hq
          change SatL c [.slot 0 (eqVP p_0), .slot 8 (lpVP (b1 1) 0), .slot 10 (eqVP q49), .res (RLog_e p_0 y110), .res (lb (b1 1) 24 [bytesCk 32 (List.replicate 32 0)]), .res (acc q49 5 1 bC y111)] a w at h
          refine inBlock_at ?_
          show Code.wp Tryz.prog _ _ a w
          obtain ⟨r112, hr112, hF⟩ := bind_some hF
          refine regS mixed hn hG h [1, 500, 501, 502] (ov [0] (op_move q0) <| ov [2] (op_move q0) <| ov [500, 5] (op_conv_sl_str Tryz.underlying180 Tryz.underlying5 Tryz.underlying9 (opacc 0 1 rfl rfl)) <| ov [500] (op_lit (xs := [.tmp 59]) (ys := [y111]) _ rfl Tryz.underlying53 Tryz.sizeOf9 Tryz.zeroValue9 rfl rfl (by decide) (by decide) ⟨⟨_, q0, (cells_one (one_str _))⟩, trivial⟩ lens_strC) <| oc [503, 500] [3] Tryz.call42 (ref04_Log_Of_ok hr112) ⟨q0, qi, q1, trivial⟩ <| ou [1, 501] 4 (op_store_w Tryz.sizeOf24 q0 q1 (cells_agg _)) <| ov [] (op_assign qb) .nil) fun _ a w h => ?_
          refine wp_ret ?_
          obtain rfl := Option.some.inj hF
          exact ⟨.inl rfl, retn h (rs := [.cell 8 24, .tmp 9]) (Vs := [(aggVP [bytesCk 32 r112.1]), (boolVP true)]) Tryz.results81 (by decide) ⟨(r_cell 0 2 rfl rfl Tryz.isAgg24 Tryz.sizeOf24 rfl), (r_tmp 1 rfl), trivial⟩ [3] [(RLog_e p_0 r112.2)] rfl rfl rfl⟩

def ref04_Log_Two (L_0 : Option O_RLog) (a_1 : Int) (a_2 : List UInt8) (a_3 : List UInt8) : Option ((List UInt8) × (Option O_RLog)) := ((ref03_Bytes a_2).bind fun r4 => ((ref03_Bytes a_3).bind fun r5 => ((ref04_Log_Of L_0 a_1 [r4, r5]).bind fun r6 => some (r6.1, r6.2))))
theorem ref04_Log_Two_ok {p_0 : Value} {L_0 : Option O_RLog} {a_1 : Int} {a_2 : List UInt8} {a_3 : List UInt8} {r : (List UInt8) × (Option O_RLog)} (hF : ref04_Log_Two L_0 a_1 a_2 a_3 = some r) : CallOk Tryz.prog KG 71 [(eqVP p_0), (intVP .u8 a_1), (aggVP [bytesCk 32 a_2]), (aggVP [bytesCk 32 a_3])] [(RLog_e p_0 L_0)] (fun _ => [RLog_e p_0 r.2]) (aggVP [bytesCk 32 r.1]) := by
  refine CallOk.intro 17 Tryz.func71 rfl Tryz.ntmps71 (Nat.le_of_ble_eq_true rfl) ?_
  intro c a w hG hn h
  unfold ref04_Log_Two at hF
  change SatL c [.slot 0 (eqVP p_0), .slot 1 (intVP .u8 a_1), .slot 2 (aggVP [bytesCk 32 a_2]), .slot 3 (aggVP [bytesCk 32 a_3]), .res (RLog_e p_0 L_0)] a w at h
  refine regS mixed hn hG h [0, 1, 505, 503, 501, 4, 504, 502, 500] (ob [2] (op_box q0 (cells_agg _)) <| ob [3] (op_box q0 (cells_agg _)) <| ob [] (op_alloc Tryz.zeroValue24 z24) .nil) fun b1 a w h => ?_
  obtain ⟨r4, hr4, hF⟩ := bind_some hF
  obtain ⟨r5, hr5, hF⟩ := bind_some hF
  obtain ⟨r6, hr6, hF⟩ := bind_some hF
  refine regS mixed hn hG h [4, 500, 501] (ov [0] (op_move q0) <| ov [1] (op_move q0) <| ov [2, 6] (op_load_w 1 Tryz.isAgg24 Tryz.sizeOf24 q0) <| oc [500] [] Tryz.call83 (ref03_Bytes_ok hr4) ⟨q0, trivial⟩ <| ov [3, 7] (op_load_w 1 Tryz.isAgg24 Tryz.sizeOf24 q0) <| oc [500] [] Tryz.call83 (ref03_Bytes_ok hr5) ⟨q0, trivial⟩ <| ov [502, 500] (op_lit (xs := [.tmp 12, .tmp 14]) (ys := [r4, r5]) _ rfl Tryz.underlying53 Tryz.sizeOf9 Tryz.zeroValue9 rfl rfl (by decide) (by decide) ⟨⟨_, q0, (cells_one (one_str _))⟩, ⟨_, q1, (cells_one (one_str _))⟩, trivial⟩ lens_strC) <| oc [506, 505, 500] [5] Tryz.call42 (ref04_Log_Of_ok hr6) ⟨q0, q1, q2, trivial⟩ <| ou [4, 501] 8 (op_store_w Tryz.sizeOf24 q0 q1 (cells_agg _)) .nil) fun _ a w h => ?_
  refine wp_ret ?_
  obtain rfl := Option.some.inj hF
  exact ⟨.inl rfl, ret1 h Tryz.results71 (r_cell 0 1 rfl rfl Tryz.isAgg24 Tryz.sizeOf24 rfl) [2] [(RLog_e p_0 r6.2)] rfl rfl rfl⟩

def ref06_Climb.j2 (x12 : Int) (x32 : List UInt8) (x33 : Option O_RLog) (x34 : Int) : Option (Flow ((List UInt8) × (Option O_RLog)) (Int × Int × (Option O_RLog) × (List UInt8))) := some (.cont (x34, IntKind.wrap .i64 (x12 + 1), x33, x32))
def ref06_Climb.j1 (a_2 : Int) (x11 : Int) (x12 : Int) (x32 : List UInt8) (x33 : Option O_RLog) : Option (Flow ((List UInt8) × (Option O_RLog)) (Int × Int × (Option O_RLog) × (List UInt8))) := (if (decide (a_2 < (0 : Int))) = true then ref06_Climb.j2 x12 x32 x33 (IntKind.wrap .u64 ((IntKind.wrap .u64 (x11.tdiv 2)) + 9223372036854775808)) else ref06_Climb.j2 x12 x32 x33 (IntKind.wrap .u64 (x11.tdiv 2)))
def ref06_Climb.b1 (a_2 : Int) (a_3 : List (List UInt8)) (x11 : Int) (x12 : Int) (x13 : Option O_RLog) (x14 : List UInt8) : Option (Flow ((List UInt8) × (Option O_RLog)) (Int × Int × (Option O_RLog) × (List UInt8))) := (if (decide (x12 < (a_3.length : Int))) = true then (if (decide ((x11.tmod 2) = (1 : Int))) = true then (if (0 : Int) ≤ x12 ∧ x12 < a_3.length then ((ref04_Log_Two x13 4 (a_3.getD x12.toNat default) x14).bind fun r38 => ref06_Climb.j1 a_2 x11 x12 r38.1 r38.2) else none) else (if (0 : Int) ≤ x12 ∧ x12 < a_3.length then ((ref04_Log_Two x13 4 x14 (a_3.getD x12.toNat default)).bind fun r40 => ref06_Climb.j1 a_2 x11 x12 r40.1 r40.2) else none)) else some (.brk (x11, x12, x13, x14)))
def ref06_Climb (L_0 : Option O_RLog) (a_1 : List UInt8) (a_2 : Int) (a_3 : List (List UInt8)) : Option ((List UInt8) × (Option O_RLog)) := ((loopN (fun s : Int × Int × (Option O_RLog) × (List UInt8) => ref06_Climb.b1 a_2 a_3 s.1 s.2.1 s.2.2.1 s.2.2.2) (((a_3.length : Int) - 0 : Int).toNat + 2) (IntKind.wrap .u64 a_2, 0, L_0, a_1)).bind fun cr => match cr with | .ret r => some r | .next (y45, y46, y47, y48) => some (y48, y47))
theorem ref06_Climb_ok {p_0 : Value} {L_0 : Option O_RLog} {a_1 : List UInt8} {a_2 : Int} {a_3 : List (List UInt8)} {r : (List UInt8) × (Option O_RLog)} (hF : ref06_Climb L_0 a_1 a_2 a_3 = some r) : CallOk Tryz.prog KG 82 [(eqVP p_0), (aggVP [bytesCk 32 a_1]), (intVP .i64 a_2), (slVP (dC 32) a_3)] [(RLog_e p_0 L_0)] (fun _ => [RLog_e p_0 r.2]) (aggVP [bytesCk 32 r.1]) := by
  refine CallOk.intro 43 Tryz.func82 rfl Tryz.ntmps82 (Nat.le_of_ble_eq_true rfl) ?_
  intro c a w hG hn h
  unfold ref06_Climb at hF
  change SatL c [.slot 0 (eqVP p_0), .slot 1 (aggVP [bytesCk 32 a_1]), .slot 2 (intVP .i64 a_2), .slot 3 (slVP (dC 32) a_3), .res (RLog_e p_0 L_0)] a w at h
  refine regS mixed hn hG h [0, 2, 3, 503, 501, 4, 502, 500] (ob [1] (op_box q0 (cells_agg _)) <| ob [] (op_alloc Tryz.zeroValue24 z24) .nil) fun b1 a w h => ?_
  refine regS mixed hn hG h [0, 1, 2, 3, 4, 500, 5, 6, 7] (ov [1] (op_move q0) <| ov [500] (op_convert_int Tryz.underlying3 Tryz.underlying26 q0) <| ov [500] (op_assign q0) .nil) fun _ a w h => ?_
  refine wp_seq ?_
  refine regS mixed hn hG h [0, 1, 2, 3, 4, 5, 501, 500, 6, 7, 8] (ov [2] (op_move q0) <| ov [500] (op_len_sl Tryz.underlying25 q0) <| ov [] (op_move qi) .nil) fun _ a w h => ?_
  refine wp_block ?_
  obtain ⟨cr41, hl42, hF⟩ := bind_some hF
  refine wp_mono (wp_loopN (R := (List UInt8) × (Option O_RLog)) (S := Int × Int × (Option O_RLog) × (List UInt8)) (fun s a w => SatL c [.slot 0 (eqVP p_0), .slot 2 (intVP .i64 a_2), .slot 3 (slVP (dC 32) a_3), .slot 5 (lpVP (b1 0) 0), .slot 8 (lpVP (b1 1) 0), .slot 9 (intVP .u64 s.1), .slot 14 (intVP .i64 (a_3.length : Int)), .slot 15 (intVP .i64 s.2.1), .res (RLog_e p_0 s.2.2.1), .res (lb (b1 0) 24 [bytesCk 32 s.2.2.2]), .res (lb (b1 1) 24 [bytesCk 32 (List.replicate 32 0)])] a w) (fun res e a w => match res with | .next s => e = .exit 0 ∧ SatL c [.slot 5 (lpVP (b1 0) 0), .slot 8 (lpVP (b1 1) 0), .res (RLog_e p_0 s.2.2.1), .res (lb (b1 0) 24 [bytesCk 32 s.2.2.2]), .res (lb (b1 1) 24 [bytesCk 32 (List.replicate 32 0)])] a w | .ret r => e = .ret ∧ RetOk Tryz.prog Tryz.f82 c (aggVP [bytesCk 32 r.1]) (fun _ => [RLog_e p_0 r.2]) a w) ?_ _ (IntKind.wrap .u64 a_2, 0, L_0, a_1) _ _ _ (h.sub [0, 1, 2, 3, 4, 5, 6, 7, 8, 9, 10] (by rfl)) hl42) ?_
  · clear hl42 hF h
    intro s a w o h hF
    obtain ⟨x11, x12, x13, x14⟩ := s
    change ref06_Climb.b1 a_2 a_3 x11 x12 x13 x14 = some o at hF
    unfold ref06_Climb.b1 at hF
    change SatL c [.slot 0 (eqVP p_0), .slot 2 (intVP .i64 a_2), .slot 3 (slVP (dC 32) a_3), .slot 5 (lpVP (b1 0) 0), .slot 8 (lpVP (b1 1) 0), .slot 9 (intVP .u64 x11), .slot 14 (intVP .i64 (a_3.length : Int)), .slot 15 (intVP .i64 x12), .res (RLog_e p_0 x13), .res (lb (b1 0) 24 [bytesCk 32 x14]), .res (lb (b1 1) 24 [bytesCk 32 (List.replicate 32 0)])] a w at h
    refine regS mixed hn hG h [0, 1, 2, 3, 4, 5, 6, 7, 500, 8, 9, 10] (ov [7, 6] (op_bin bin_lss q0 q1) .nil) fun _ a w h => ?_
    refine wp_seq ?_
    refine cnd h hF 8 [0, 1, 2, 3, 4, 5, 6, 7, 9, 10, 11] [0, 1, 2, 3, 4, 5, 6, 7, 9, 10, 11] (fun hb27 hF h => ?_) (fun hb27 hF h => ?_)
    · refine wp_skip ?_
      show Code.wp Tryz.prog _ _ a w
      refine wp_seq ?_
      refine wp_block ?_
      refine regS mixed hn hG h [0, 1, 2, 3, 4, 5, 500, 6, 7, 8, 9, 10] (ov [7] (op_move q0) <| ov [500] (op_assign q0) .nil) fun _ a w h => ?_
      refine wp_seq ?_
      refine regS mixed hn hG h [0, 1, 2, 3, 4, 5, 6, 7, 8, 500, 9, 10, 11] (ov [5] (op_move q0) <| ov [500] (op_bin (bin_rem (by decide)) q0 qi) <| ov [500] (op_bin bin_eql q0 qi) .nil) fun _ a w h => ?_
      refine wp_cut (fun a w => ∃ (x32 : List UInt8), ∃ (x33 : Option O_RLog), ref06_Climb.j1 a_2 x11 x12 x32 x33 = some o ∧ SatL c [.slot 0 (eqVP p_0), .slot 2 (intVP .i64 a_2), .slot 3 (slVP (dC 32) a_3), .slot 5 (lpVP (b1 0) 0), .slot 8 (lpVP (b1 1) 0), .slot 9 (intVP .u64 x11), .slot 14 (intVP .i64 (a_3.length : Int)), .slot 15 (intVP .i64 x12), .res (lb (b1 0) 24 [bytesCk 32 x32]), .res (lb (b1 1) 24 [bytesCk 32 (List.replicate 32 0)]), .res (RLog_e p_0 x33)] a w) ?_ ?_
      · refine cnd h hF 9 [0, 1, 2, 3, 4, 5, 6, 7, 8, 10, 11, 12] [0, 1, 2, 3, 4, 5, 6, 7, 8, 10, 11, 12] (fun hb36 hF h => ?_) (fun hb36 hF h => ?_)
        · obtain ⟨hv37, hF⟩ := ite_some hF
          obtain ⟨r38, hr38, hF⟩ := bind_some hF
          refine reg mixed hn hG h [0, 1, 2, 3, 4, 5, 7, 8, 500, 11, 501] (ov [0] (op_move q0) <| ov [2] (op_move q0) <| ov [6] (op_move q0) <| ov [501, 500] (op_indexAddr_sl Tryz.underlying25 Tryz.sizeOf24 (lens_dC 32) q0 q1 hv37) <| ov [500] (op_load_pp [bytesCk 32 (a_3.getD x12.toNat default)] [] Tryz.isAgg24 Tryz.sizeOf24 q0 rfl) <| ov [3, 10] (op_load_w 1 Tryz.isAgg24 Tryz.sizeOf24 q0) <| oc [505, 501, 500] [9] Tryz.call71 (ref04_Log_Two_ok hr38) ⟨q0, qi, q1, q2, trivial⟩ <| ou [3, 501] 10 (op_store_w Tryz.sizeOf24 q0 q1 (cells_agg _)) .nil) fun _ a w h => ?_
          exact ⟨r38.1, r38.2, hF, h.sub [0, 1, 2, 3, 4, 5, 6, 7, 8, 9, 10] (by rfl)⟩
        · obtain ⟨hv39, hF⟩ := ite_some hF
          obtain ⟨r40, hr40, hF⟩ := bind_some hF
          refine reg mixed hn hG h [0, 1, 2, 3, 4, 5, 7, 8, 500, 11, 501] (ov [0] (op_move q0) <| ov [3, 10] (op_load_w 1 Tryz.isAgg24 Tryz.sizeOf24 q0) <| ov [2] (op_move q0) <| ov [6] (op_move q0) <| ov [501, 500] (op_indexAddr_sl Tryz.underlying25 Tryz.sizeOf24 (lens_dC 32) q0 q1 hv39) <| ov [500] (op_load_pp [bytesCk 32 (a_3.getD x12.toNat default)] [] Tryz.isAgg24 Tryz.sizeOf24 q0 rfl) <| oc [505, 504, 500] [9] Tryz.call71 (ref04_Log_Two_ok hr40) ⟨q0, qi, q1, q2, trivial⟩ <| ou [3, 501] 10 (op_store_w Tryz.sizeOf24 q0 q1 (cells_agg _)) .nil) fun _ a w h => ?_
          exact ⟨r40.1, r40.2, hF, h.sub [0, 1, 2, 3, 4, 5, 6, 7, 8, 9, 10] (by rfl)⟩
      · clear h hF
        rintro a w ⟨x32, x33, hF, h⟩
        unfold ref06_Climb.j1 at hF
        show Code.wp Tryz.prog _ _ a w
        refine regS mixed hn hG h [0, 1, 2, 3, 4, 500, 6, 7, 8, 9, 10] (ov [5] (op_move q0) <| ov [500] (op_bin (bin_quo (by decide)) q0 qi) <| od [500] 5 (op_assign q0) .nil) fun _ a w h => ?_
        refine regS mixed hn hG h [0, 1, 2, 3, 4, 5, 6, 7, 500, 8, 9, 10] (ov [1] (op_move q0) <| ov [500] (op_bin bin_lss q0 qi) .nil) fun _ a w h => ?_
        refine wp_cut (fun a w => ∃ (x34 : Int), ref06_Climb.j2 x12 x32 x33 x34 = some o ∧ SatL c [.slot 0 (eqVP p_0), .slot 2 (intVP .i64 a_2), .slot 3 (slVP (dC 32) a_3), .slot 5 (lpVP (b1 0) 0), .slot 8 (lpVP (b1 1) 0), .slot 9 (intVP .u64 x34), .slot 14 (intVP .i64 (a_3.length : Int)), .slot 15 (intVP .i64 x12), .res (lb (b1 0) 24 [bytesCk 32 x32]), .res (lb (b1 1) 24 [bytesCk 32 (List.replicate 32 0)]), .res (RLog_e p_0 x33)] a w) ?_ ?_
        · refine cnd h hF 8 [0, 1, 2, 3, 4, 5, 6, 7, 9, 10, 11] [0, 1, 2, 3, 4, 5, 6, 7, 9, 10, 11] (fun hb35 hF h => ?_) (fun hb35 hF h => ?_)
          · refine reg mixed hn hG h [0, 1, 2, 3, 4, 500, 6, 7, 8, 9, 10] (ov [5] (op_move q0) <| ov [500] (op_bin bin_add q0 qi) <| od [500] 5 (op_assign q0) .nil) fun _ a w h => ?_
            exact ⟨IntKind.wrap .u64 ((IntKind.wrap .u64 (x11.tdiv 2)) + 9223372036854775808), hF, h.sub [0, 1, 2, 3, 4, 5, 6, 7, 8, 9, 10] (by rfl)⟩
          · refine wp_skip ?_
            exact ⟨IntKind.wrap .u64 (x11.tdiv 2), hF, h.sub [0, 1, 2, 3, 4, 5, 6, 7, 8, 9, 10] (by rfl)⟩
        · clear h hF
          rintro a w ⟨x34, hF, h⟩
          unfold ref06_Climb.j2 at hF
          show Code.wp Tryz.prog _ _ a w
          refine reg mixed hn hG h [0, 1, 2, 3, 4, 5, 6, 500, 8, 9, 10] (ov [7] (op_bin bin_add q0 qi) <| od [500] 7 (op_move q0) .nil) fun _ a w h => ?_
          obtain rfl := Option.some.inj hF
          exact ⟨rfl, h.sub [0, 1, 2, 3, 4, 5, 6, 7, 10, 8, 9] (by rfl)⟩
    · refine wp_exit ?_
      obtain rfl := Option.some.inj hF
      exact ⟨exit_ne _, rfl, h.sub [3, 4, 8, 9, 10] (by rfl)⟩
  · clear hl42
    intro e a w hq
    cases cr41 with
    | ret r43 =>
      obtain ⟨rfl, hq⟩ := hq
      obtain rfl := Option.some.inj hF
      exact ⟨.inl rfl, hq⟩
    | next s44 =>
      obtain ⟨y45, y46, y47, y48⟩ := s44
      obtain ⟨rfl, h⟩ := hq
      change SatL c [.slot 5 (lpVP (b1 0) 0), .slot 8 (lpVP (b1 1) 0), .res (RLog_e p_0 y47), .res (lb (b1 0) 24 [bytesCk 32 y48]), .res (lb (b1 1) 24 [bytesCk 32 (List.replicate 32 0)])] a w at h
      refine inBlock_at ?_
      show Code.wp Tryz.prog _ _ a w
      refine regS mixed hn hG h [1, 2, 500] (ov [0, 3] (op_load_w 1 Tryz.isAgg24 Tryz.sizeOf24 q0) <| ou [1, 500] 4 (op_store_w Tryz.sizeOf24 q0 q1 (cells_agg _)) .nil) fun _ a w h => ?_
      refine wp_ret ?_
      obtain rfl := Option.some.inj hF
      exact ⟨.inl rfl, ret1 h Tryz.results82 (r_cell 0 2 rfl rfl Tryz.isAgg24 Tryz.sizeOf24 rfl) [1] [(RLog_e p_0 y47)] rfl rfl rfl⟩

def ref06_Verify.j1 (L_0 : Option O_RLog) (a_1 : List UInt8) (a_2 : List UInt8) (a_3 : S_api_Sig) (x4 : Bool) : Option (Bool × (Option O_RLog)) := (if x4 = true then some (false, L_0) else ((ref05_Opened L_0 a_2 a_3.f_Parts a_3.f_Others).bind fun r6 => (if (!r6.2.1) = true then some (false, r6.2.2) else ((ref06_Climb r6.2.2 r6.1 a_3.f_Index a_3.f_Path).bind fun r9 => some (decide (r9.1 = a_1), r9.2)))))
def ref06_Verify (L_0 : Option O_RLog) (a_1 : List UInt8) (a_2 : List UInt8) (a_3 : S_api_Sig) : Option (Bool × (Option O_RLog)) := (if (decide (a_3.f_Index < (0 : Int))) = true then ref06_Verify.j1 L_0 a_1 a_2 a_3 true else (if (decide ((15 : Int) < a_3.f_Index)) = true then ref06_Verify.j1 L_0 a_1 a_2 a_3 true else ref06_Verify.j1 L_0 a_1 a_2 a_3 (!decide ((a_3.f_Path.length : Int) = (4 : Int)))))
theorem ref06_Verify_ok {p_0 : Value} {L_0 : Option O_RLog} {a_1 : List UInt8} {a_2 : List UInt8} {a_3 : S_api_Sig} {r : Bool × (Option O_RLog)} (hF : ref06_Verify L_0 a_1 a_2 a_3 = some r) : CallOk Tryz.prog KG 59 [(eqVP p_0), (aggVP [bytesCk 32 a_1]), (aggVP [bytesCk 32 a_2]), (aggVP [one (intVP .i64 a_3.f_Index), one (slVP (dC 32) a_3.f_Parts), one (slVP (dC 32) a_3.f_Others), one (slVP (dC 32) a_3.f_Path)])] [(RLog_e p_0 L_0)] (fun _ => [RLog_e p_0 r.2]) (boolVP r.1) := by
  refine CallOk.intro 46 Tryz.func59 rfl Tryz.ntmps59 (Nat.le_of_ble_eq_true rfl) ?_
  intro c a w hG hn h
  unfold ref06_Verify at hF
  change SatL c [.slot 0 (eqVP p_0), .slot 1 (aggVP [bytesCk 32 a_1]), .slot 2 (aggVP [bytesCk 32 a_2]), .slot 3 (aggVP [one (intVP .i64 a_3.f_Index), one (slVP (dC 32) a_3.f_Parts), one (slVP (dC 32) a_3.f_Others), one (slVP (dC 32) a_3.f_Path)]), .res (RLog_e p_0 L_0)] a w at h
  refine regS mixed hn hG h [0, 506, 504, 502, 4, 505, 503, 501] (ob [1] (op_box q0 (cells_agg _)) <| ob [2] (op_box q0 (cells_agg _)) <| ob [3] (op_box q0 (cells_agg _)) <| ov [] (op_assign qb) .nil) fun b1 a w h => ?_
  refine wp_seq ?_
  refine wp_seq ?_
  refine wp_cut (fun a w => ∃ (x4 : Bool), ref06_Verify.j1 L_0 a_1 a_2 a_3 x4 = some r ∧ SatL c [.slot 0 (eqVP p_0), .slot 5 (lpVP (b1 0) 0), .slot 6 (lpVP (b1 1) 0), .slot 7 (lpVP (b1 2) 0), .slot 24 (boolVP x4), .res (RLog_e p_0 L_0), .res (lb (b1 0) 24 [bytesCk 32 a_1]), .res (lb (b1 1) 24 [bytesCk 32 a_2]), .res (lb (b1 2) 32 [one (intVP .i64 a_3.f_Index), one (slVP (dC 32) a_3.f_Parts), one (slVP (dC 32) a_3.f_Others), one (slVP (dC 32) a_3.f_Path)])] a w) ?_ ?_
  · rcases Bool.eq_false_or_eq_true (decide (a_3.f_Index < (0 : Int))) with hb10 | hb10
    · replace hF := tt_of hb10 hF
      refine reg mixed hn hG h [0, 1, 2, 3, 500, 4, 5, 6, 7] (ov [3] (op_fieldAddr_lbm (p := (b1 2)) (n := 1) 0 0 Tryz.underlying32 rfl Tryz.sizeOf3 (by decide) q0 rfl) <| ov [500, 7] (op_load_lb1 [] [one (slVP (dC 32) a_3.f_Parts), one (slVP (dC 32) a_3.f_Others), one (slVP (dC 32) a_3.f_Path)] 1 Tryz.isAgg3 q0 rfl rfl) <| ov [500] (op_bin bin_lss q0 qi) <| ov [500] (op_move q0) <| oe [500] [] (GOk.off_v (want := false) hb10 rfl rfl rfl rfl) <| oe [501] [] (GOk.off_v (want := false) hb10 rfl rfl rfl rfl) <| oe [502] [] (GOk.off_v (want := false) hb10 rfl rfl rfl rfl) <| ov [503] (op_pick_t hb10 q0 qb) <| ov [500] (op_move q0) <| oe [500] [] (GOk.off_v (want := false) rfl rfl rfl rfl rfl) <| oe [501] [] (GOk.off_v (want := false) rfl rfl rfl rfl rfl) <| oe [502] [] (GOk.off_v (want := false) rfl rfl rfl rfl rfl) <| oe [503] [] (GOk.off_v (want := false) rfl rfl rfl rfl rfl) <| ov [504] (op_pick_t rfl q0 qb) .nil) fun _ a w h => ?_
      exact ⟨true, hF, h.sub [0, 1, 2, 3, 4, 5, 6, 7, 8] (by rfl)⟩
    · replace hF := ff_of hb10 hF
      rcases Bool.eq_false_or_eq_true (decide ((15 : Int) < a_3.f_Index)) with hb11 | hb11
      · replace hF := tt_of hb11 hF
        refine reg mixed hn hG h [0, 1, 2, 3, 500, 4, 5, 6, 7] (ov [3] (op_fieldAddr_lbm (p := (b1 2)) (n := 1) 0 0 Tryz.underlying32 rfl Tryz.sizeOf3 (by decide) q0 rfl) <| ov [500, 7] (op_load_lb1 [] [one (slVP (dC 32) a_3.f_Parts), one (slVP (dC 32) a_3.f_Others), one (slVP (dC 32) a_3.f_Path)] 1 Tryz.isAgg3 q0 rfl rfl) <| ov [500] (op_bin bin_lss q0 qi) <| ov [500] (op_move q0) <| oe [500, 3] [] (GOk.on_eq hb10 rfl rfl rfl (op_fieldAddr_lbm (p := (b1 2)) (n := 1) 0 0 Tryz.underlying32 rfl Tryz.sizeOf3 (by decide) q0 rfl)) <| oe [501, 500, 7] [] (GOk.on_eq hb10 rfl rfl rfl (op_load_lb1 [] [one (slVP (dC 32) a_3.f_Parts), one (slVP (dC 32) a_3.f_Others), one (slVP (dC 32) a_3.f_Path)] 1 Tryz.isAgg3 q0 rfl rfl)) <| oe [502, 500] [] (GOk.on_eq hb10 rfl rfl rfl (op_bin bin_gtr q0 qi)) <| ov [503, 500] (op_pick_f hb10 q0 q1) <| ov [500] (op_move q0) <| oe [500] [] (GOk.off_v (want := false) hb11 rfl rfl rfl rfl) <| oe [501] [] (GOk.off_v (want := false) hb11 rfl rfl rfl rfl) <| oe [502] [] (GOk.off_v (want := false) hb11 rfl rfl rfl rfl) <| oe [503] [] (GOk.off_v (want := false) hb11 rfl rfl rfl rfl) <| ov [504] (op_pick_t hb11 q0 qb) .nil) fun _ a w h => ?_
        exact ⟨true, hF, h.sub [0, 1, 2, 3, 4, 5, 6, 7, 8] (by rfl)⟩
      · replace hF := ff_of hb11 hF
        refine reg mixed hn hG h [0, 1, 2, 3, 500, 4, 5, 6, 7] (ov [3] (op_fieldAddr_lbm (p := (b1 2)) (n := 1) 0 0 Tryz.underlying32 rfl Tryz.sizeOf3 (by decide) q0 rfl) <| ov [500, 7] (op_load_lb1 [] [one (slVP (dC 32) a_3.f_Parts), one (slVP (dC 32) a_3.f_Others), one (slVP (dC 32) a_3.f_Path)] 1 Tryz.isAgg3 q0 rfl rfl) <| ov [500] (op_bin bin_lss q0 qi) <| ov [500] (op_move q0) <| oe [500, 3] [] (GOk.on_eq hb10 rfl rfl rfl (op_fieldAddr_lbm (p := (b1 2)) (n := 1) 0 0 Tryz.underlying32 rfl Tryz.sizeOf3 (by decide) q0 rfl)) <| oe [501, 500, 7] [] (GOk.on_eq hb10 rfl rfl rfl (op_load_lb1 [] [one (slVP (dC 32) a_3.f_Parts), one (slVP (dC 32) a_3.f_Others), one (slVP (dC 32) a_3.f_Path)] 1 Tryz.isAgg3 q0 rfl rfl)) <| oe [502, 500] [] (GOk.on_eq hb10 rfl rfl rfl (op_bin bin_gtr q0 qi)) <| ov [503, 500] (op_pick_f hb10 q0 q1) <| ov [500] (op_move q0) <| oe [500, 3] [] (GOk.on_eq hb11 rfl rfl rfl (op_fieldAddr_lbm (p := (b1 2)) (n := 1) 0 3 Tryz.underlying32 rfl Tryz.sizeOf25 (by decide) q0 rfl)) <| oe [501, 500, 7] [] (GOk.on_eq hb11 rfl rfl rfl (op_load_lb1 [one (intVP .i64 a_3.f_Index), one (slVP (dC 32) a_3.f_Parts), one (slVP (dC 32) a_3.f_Others)] [] 1 Tryz.isAgg25 q0 rfl rfl)) <| oe [502, 500] [] (GOk.on_eq hb11 rfl rfl rfl (op_len_sl Tryz.underlying25 q0)) <| oe [503, 500] [] (GOk.on_eq hb11 rfl rfl rfl (op_bin bin_neq q0 qi)) <| ov [504, 500] (op_pick_f hb11 q0 q1) .nil) fun _ a w h => ?_
        exact ⟨!decide ((a_3.f_Path.length : Int) = (4 : Int)), hF, h.sub [0, 1, 2, 3, 4, 5, 6, 7, 8] (by rfl)⟩
  · clear h hF
    rintro a w ⟨x4, hF, h⟩
    unfold ref06_Verify.j1 at hF
    show Code.wp Tryz.prog _ _ a w
    refine cnd h hF 4 [5] [0, 1, 2, 3, 5, 6, 7, 8] (fun hb5 hF h => ?_) (fun hb5 hF h => ?_)
    · refine regS mixed hn hG h [500, 0] (ov [] (op_assign qb) .nil) fun _ a w h => ?_
      refine wp_ret ?_
      obtain rfl := Option.some.inj hF
      exact ⟨.inl rfl, ret1 h Tryz.results59 (r_tmp 0 rfl) [1] [(RLog_e p_0 L_0)] rfl rfl rfl⟩
    · refine wp_skip ?_
      show Code.wp Tryz.prog _ _ a w
      obtain ⟨r6, hr6, hF⟩ := bind_some hF
      refine regS mixed hn hG h [0, 1, 3, 503, 500, 5, 7, 507, 501] (ov [0] (op_move q0) <| ov [2, 6] (op_load_w 1 Tryz.isAgg24 Tryz.sizeOf24 q0) <| ov [3] (op_fieldAddr_lbm (p := (b1 2)) (n := 1) 0 1 Tryz.underlying32 rfl Tryz.sizeOf25 (by decide) q0 rfl) <| ov [500, 7] (op_load_lb1 [one (intVP .i64 a_3.f_Index)] [one (slVP (dC 32) a_3.f_Others), one (slVP (dC 32) a_3.f_Path)] 1 Tryz.isAgg25 q0 rfl rfl) <| ov [3] (op_fieldAddr_lbm (p := (b1 2)) (n := 1) 0 2 Tryz.underlying32 rfl Tryz.sizeOf25 (by decide) q0 rfl) <| ov [500, 7] (op_load_lb1 [one (intVP .i64 a_3.f_Index), one (slVP (dC 32) a_3.f_Parts)] [one (slVP (dC 32) a_3.f_Path)] 1 Tryz.isAgg25 q0 rfl rfl) <| oc [505, 504, 502, 500] [4] Tryz.call81 (ref05_Opened_ok hr6) ⟨q0, q1, q2, q3, trivial⟩ <| ov [501] (op_move q0) <| ov [500] (op_extract q0 rfl) <| ov [501] (op_extract q0 rfl) <| ob [] (op_alloc Tryz.zeroValue24 z24) <| og [501, 503] [500] [.res 10 100000 (fun v1_ _ => (lb (v1_) 24 [bytesCk 32 r6.1]))] (GOk.plain (op_store_w Tryz.sizeOf24 q0 q1 (cells_agg _)) rfl) <| ov [503] (op_assign q0) .nil) fun b7 a w h => ?_
      refine wp_seq ?_
      refine regS mixed hn hG h [0, 1, 2, 3, 500, 5, 6, 7, 8] (ov [4] (op_move q0) <| ov [500] (op_un (un_not _) q0) .nil) fun _ a w h => ?_
      refine cnd h hF 4 [7] [0, 1, 2, 3, 5, 6, 7, 8] (fun hb8 hF h => ?_) (fun hb8 hF h => ?_)
      · refine regS mixed hn hG h [500, 0] (ov [] (op_assign qb) .nil) fun _ a w h => ?_
        refine wp_ret ?_
        obtain rfl := Option.some.inj hF
        exact ⟨.inl rfl, ret1 h Tryz.results59 (r_tmp 0 rfl) [1] [(RLog_e p_0 r6.2.2)] rfl rfl rfl⟩
      · refine wp_skip ?_
        show Code.wp Tryz.prog _ _ a w
        obtain ⟨r9, hr9, hF⟩ := bind_some hF
        refine regS mixed hn hG h [500, 503] (ov [0] (op_move q0) <| ov [3, 7] (op_load_w 1 Tryz.isAgg24 Tryz.sizeOf24 q0) <| ov [2] (op_fieldAddr_lbm (p := (b1 2)) (n := 1) 0 0 Tryz.underlying32 rfl Tryz.sizeOf3 (by decide) q0 rfl) <| ov [500, 5] (op_load_lb1 [] [one (slVP (dC 32) a_3.f_Parts), one (slVP (dC 32) a_3.f_Others), one (slVP (dC 32) a_3.f_Path)] 1 Tryz.isAgg3 q0 rfl rfl) <| ov [2] (op_fieldAddr_lbm (p := (b1 2)) (n := 1) 0 3 Tryz.underlying32 rfl Tryz.sizeOf25 (by decide) q0 rfl) <| ov [500, 5] (op_load_lb1 [one (intVP .i64 a_3.f_Index), one (slVP (dC 32) a_3.f_Parts), one (slVP (dC 32) a_3.f_Others)] [] 1 Tryz.isAgg25 q0 rfl rfl) <| oc [505, 504, 502, 500] [6] Tryz.call82 (ref06_Climb_ok hr9) ⟨q0, q1, q2, q3, trivial⟩ <| ov [1, 4] (op_load_w 1 Tryz.isAgg24 Tryz.sizeOf24 q0) <| ov [502, 500] (op_bin (bin_aeql Tryz.underlying24 Tryz.underlying5 Tryz.type5 Tryz.sizeOf5 Tryz.isAgg5 Tryz.eqGuardType24) q0 q1) <| ov [500] (op_assign q0) .nil) fun _ a w h => ?_
        refine wp_ret ?_
        obtain rfl := Option.some.inj hF
        exact ⟨.inl rfl, ret1 h Tryz.results59 (r_tmp 0 rfl) [1] [(RLog_e p_0 r9.2)] rfl rfl rfl⟩

def ref10_Claim (L_0 : Option O_RLog) (a_1 : Int) (a_2 : List UInt8) (a_3 : List UInt8) : Option ((List UInt8) × (Option O_RLog)) := ((ref03_Big (IntKind.wrap .u64 a_1) 4).bind fun r4 => ((ref03_Bytes a_2).bind fun r5 => ((ref03_Bytes a_3).bind fun r6 => ((ref04_Log_Of L_0 7 [r4, r5, r6]).bind fun r7 => some (r7.1, r7.2)))))
theorem ref10_Claim_ok {p_0 : Value} {L_0 : Option O_RLog} {a_1 : Int} {a_2 : List UInt8} {a_3 : List UInt8} {r : (List UInt8) × (Option O_RLog)} (hF : ref10_Claim L_0 a_1 a_2 a_3 = some r) : CallOk Tryz.prog KG 60 [(eqVP p_0), (intVP .u32 a_1), (aggVP [bytesCk 32 a_2]), (aggVP [bytesCk 32 a_3])] [(RLog_e p_0 L_0)] (fun _ => [RLog_e p_0 r.2]) (aggVP [bytesCk 32 r.1]) := by
  refine CallOk.intro 19 Tryz.func60 rfl Tryz.ntmps60 (Nat.le_of_ble_eq_true rfl) ?_
  intro c a w hG hn h
  unfold ref10_Claim at hF
  change SatL c [.slot 0 (eqVP p_0), .slot 1 (intVP .u32 a_1), .slot 2 (aggVP [bytesCk 32 a_2]), .slot 3 (aggVP [bytesCk 32 a_3]), .res (RLog_e p_0 L_0)] a w at h
  refine regS mixed hn hG h [0, 1, 505, 503, 501, 4, 504, 502, 500] (ob [2] (op_box q0 (cells_agg _)) <| ob [3] (op_box q0 (cells_agg _)) <| ob [] (op_alloc Tryz.zeroValue24 z24) .nil) fun b1 a w h => ?_
  obtain ⟨r4, hr4, hF⟩ := bind_some hF
  obtain ⟨r5, hr5, hF⟩ := bind_some hF
  obtain ⟨r6, hr6, hF⟩ := bind_some hF
  obtain ⟨r7, hr7, hF⟩ := bind_some hF
  refine regS mixed hn hG h [4, 500, 501] (ov [0] (op_move q0) <| ov [1] (op_move q0) <| ov [500] (op_convert_int Tryz.underlying22 Tryz.underlying26 q0) <| oc [500] [] Tryz.call68 (ref03_Big_ok hr4) ⟨q0, qi, trivial⟩ <| ov [2, 6] (op_load_w 1 Tryz.isAgg24 Tryz.sizeOf24 q0) <| oc [500] [] Tryz.call83 (ref03_Bytes_ok hr5) ⟨q0, trivial⟩ <| ov [3, 7] (op_load_w 1 Tryz.isAgg24 Tryz.sizeOf24 q0) <| oc [500] [] Tryz.call83 (ref03_Bytes_ok hr6) ⟨q0, trivial⟩ <| ov [504, 502, 500] (op_lit (xs := [.tmp 12, .tmp 14, .tmp 16]) (ys := [r4, r5, r6]) _ rfl Tryz.underlying53 Tryz.sizeOf9 Tryz.zeroValue9 rfl rfl (by decide) (by decide) ⟨⟨_, q0, (cells_one (one_str _))⟩, ⟨_, q1, (cells_one (one_str _))⟩, ⟨_, q2, (cells_one (one_str _))⟩, trivial⟩ lens_strC) <| oc [508, 500] [5] Tryz.call42 (ref04_Log_Of_ok hr7) ⟨q0, qi, q1, trivial⟩ <| ou [4, 501] 8 (op_store_w Tryz.sizeOf24 q0 q1 (cells_agg _)) .nil) fun _ a w h => ?_
  refine wp_ret ?_
  obtain rfl := Option.some.inj hF
  exact ⟨.inl rfl, ret1 h Tryz.results60 (r_cell 0 1 rfl rfl Tryz.isAgg24 Tryz.sizeOf24 rfl) [2] [(RLog_e p_0 r7.2)] rfl rfl rfl⟩

def ref10_Right (L_0 : Option O_RLog) (a_1 : List UInt8) (a_2 : S_api_Update) : Option (Bool × (Option O_RLog)) := ((ref10_Claim L_0 a_2.f_Home a_2.f_Old a_2.f_New).bind fun r3 => ((ref06_Verify r3.2 a_1 r3.1 a_2.f_Sig).bind fun r4 => some (r4.1, r4.2)))
theorem ref10_Right_ok {p_0 : Value} {L_0 : Option O_RLog} {a_1 : List UInt8} {a_2 : S_api_Update} {r : Bool × (Option O_RLog)} (hF : ref10_Right L_0 a_1 a_2 = some r) : CallOk Tryz.prog KG 33 [(eqVP p_0), (aggVP [bytesCk 32 a_1]), (aggVP [one (intVP .u32 a_2.f_Home), bytesCk 32 a_2.f_Old, bytesCk 32 a_2.f_New, one (intVP .i64 a_2.f_Sig.f_Index), one (slVP (dC 32) a_2.f_Sig.f_Parts), one (slVP (dC 32) a_2.f_Sig.f_Others), one (slVP (dC 32) a_2.f_Sig.f_Path)])] [(RLog_e p_0 L_0)] (fun _ => [RLog_e p_0 r.2]) (boolVP r.1) := by
  refine CallOk.intro 20 Tryz.func33 rfl Tryz.ntmps33 (Nat.le_of_ble_eq_true rfl) ?_
  intro c a w hG hn h
  unfold ref10_Right at hF
  change SatL c [.slot 0 (eqVP p_0), .slot 1 (aggVP [bytesCk 32 a_1]), .slot 2 (aggVP [one (intVP .u32 a_2.f_Home), bytesCk 32 a_2.f_Old, bytesCk 32 a_2.f_New, one (intVP .i64 a_2.f_Sig.f_Index), one (slVP (dC 32) a_2.f_Sig.f_Parts), one (slVP (dC 32) a_2.f_Sig.f_Others), one (slVP (dC 32) a_2.f_Sig.f_Path)]), .res (RLog_e p_0 L_0)] a w at h
  refine regS mixed hn hG h [0, 504, 502, 3, 503, 501] (ob [1] (op_box q0 (cells_agg _)) <| ob [2] (op_box q0 (cells_agg _)) <| ov [] (op_assign qb) .nil) fun b1 a w h => ?_
  obtain ⟨r3, hr3, hF⟩ := bind_some hF
  obtain ⟨r4, hr4, hF⟩ := bind_some hF
  refine regS mixed hn hG h [500, 501] (ov [0] (op_move q0) <| ov [1, 4] (op_load_w 1 Tryz.isAgg24 Tryz.sizeOf24 q0) <| ov [0] (op_move q0) <| ov [2] (op_fieldAddr_lbm (p := (b1 1)) (n := 1) 0 0 Tryz.underlying34 rfl Tryz.sizeOf22 (by decide) q0 rfl) <| ov [500, 5] (op_load_lb1 [] [bytesCk 32 a_2.f_Old, bytesCk 32 a_2.f_New, one (intVP .i64 a_2.f_Sig.f_Index), one (slVP (dC 32) a_2.f_Sig.f_Parts), one (slVP (dC 32) a_2.f_Sig.f_Others), one (slVP (dC 32) a_2.f_Sig.f_Path)] 1 Tryz.isAgg22 q0 rfl rfl) <| ov [2] (op_fieldAddr_lbm (p := (b1 1)) (n := 32) 0 1 Tryz.underlying34 rfl Tryz.sizeOf24 (by decide) q0 rfl) <| ov [500, 5] (op_load_lb [one (intVP .u32 a_2.f_Home)] [bytesCk 32 a_2.f_Old] [bytesCk 32 a_2.f_New, one (intVP .i64 a_2.f_Sig.f_Index), one (slVP (dC 32) a_2.f_Sig.f_Parts), one (slVP (dC 32) a_2.f_Sig.f_Others), one (slVP (dC 32) a_2.f_Sig.f_Path)] 1 Tryz.isAgg24 Tryz.sizeOf24 q0 rfl rfl rfl) <| ov [2] (op_fieldAddr_lbm (p := (b1 1)) (n := 32) 0 33 Tryz.underlying34 rfl Tryz.sizeOf24 (by decide) q0 rfl) <| ov [500, 5] (op_load_lb [one (intVP .u32 a_2.f_Home), bytesCk 32 a_2.f_Old] [bytesCk 32 a_2.f_New] [one (intVP .i64 a_2.f_Sig.f_Index), one (slVP (dC 32) a_2.f_Sig.f_Parts), one (slVP (dC 32) a_2.f_Sig.f_Others), one (slVP (dC 32) a_2.f_Sig.f_Path)] 1 Tryz.isAgg24 Tryz.sizeOf24 q0 rfl rfl rfl) <| oc [506, 504, 502, 500] [3] Tryz.call60 (ref10_Claim_ok hr3) ⟨q0, q1, q2, q3, trivial⟩ <| ov [2] (op_fieldAddr_lbm (p := (b1 1)) (n := 4) 0 65 Tryz.underlying34 rfl Tryz.sizeOf32 (by decide) q0 rfl) <| ov [500, 5] (op_load_lb [one (intVP .u32 a_2.f_Home), bytesCk 32 a_2.f_Old, bytesCk 32 a_2.f_New] [one (intVP .i64 a_2.f_Sig.f_Index), one (slVP (dC 32) a_2.f_Sig.f_Parts), one (slVP (dC 32) a_2.f_Sig.f_Others), one (slVP (dC 32) a_2.f_Sig.f_Path)] [] 1 Tryz.isAgg32 Tryz.sizeOf32 q0 rfl rfl rfl) <| oc [512, 511, 503, 500] [502] Tryz.call59 (ref06_Verify_ok hr4) ⟨q0, q1, q2, q3, trivial⟩ <| ov [501] (op_assign q0) .nil) fun _ a w h => ?_
  refine wp_ret ?_
  obtain rfl := Option.some.inj hF
  exact ⟨.inl rfl, ret1 h Tryz.results33 (r_tmp 0 rfl) [1] [(RLog_e p_0 r4.2)] rfl rfl rfl⟩

def ref17_Counts.b1 (a_0 : S_api_Replica) (a_1 : List UInt8) (a_2 : Int) (x8 : Int) : Option (Flow Int Int) := (if (decide (x8 < (a_0.f_Roots.length : Int))) = true then (if (0 : Int) ≤ x8 ∧ x8 < a_0.f_Roots.length then (if (decide (((a_0.f_Roots.getD x8.toNat default).f_Root) = a_1)) = true then (if (decide (a_2 < ((a_0.f_Roots.getD x8.toNat default).f_At))) = true then some (.ret 36) else some (.ret 0)) else some (.cont (IntKind.wrap .i64 (x8 + 1)))) else none) else some (.brk x8))
def ref17_Counts (a_0 : S_api_Replica) (a_1 : List UInt8) (a_2 : Int) : Option Int := ((loopN (fun s : Int => ref17_Counts.b1 a_0 a_1 a_2 s) (((a_0.f_Roots.length : Int) - 0 : Int).toNat + 2) 0).bind fun cr => match cr with | .ret r => some r | .next y24 => some 31)
theorem ref17_Counts_ok {a_0 : S_api_Replica} {a_1 : List UInt8} {a_2 : Int} {r : Int} (hF : ref17_Counts a_0 a_1 a_2 = some r) : CallOk Tryz.prog KG 34 [(aggVP [one (intVP .u32 a_0.f_Chain), one (intVP .u32 a_0.f_Here), bytesCk 32 a_0.f_Updater, one (slVP (dC 32) a_0.f_Watchers), one (intVP .u64 a_0.f_Window), bytesCk 32 a_0.f_Committed, one (slVP S_api_Timed.ck a_0.f_Roots), one (slVP S_api_State.ck a_0.f_States), one (boolVP a_0.f_Failed), one (boolVP a_0.f_Cut)]), (aggVP [bytesCk 32 a_1]), (intVP .u64 a_2)] [] (fun _ => []) (intVP .i64 r) := by
  refine CallOk.intro 25 Tryz.func34 rfl Tryz.ntmps34 (Nat.le_of_ble_eq_true rfl) ?_
  intro c a w hG hn h
  unfold ref17_Counts at hF
  change SatL c [.slot 0 (aggVP [one (intVP .u32 a_0.f_Chain), one (intVP .u32 a_0.f_Here), bytesCk 32 a_0.f_Updater, one (slVP (dC 32) a_0.f_Watchers), one (intVP .u64 a_0.f_Window), bytesCk 32 a_0.f_Committed, one (slVP S_api_Timed.ck a_0.f_Roots), one (slVP S_api_State.ck a_0.f_States), one (boolVP a_0.f_Failed), one (boolVP a_0.f_Cut)]), .slot 1 (aggVP [bytesCk 32 a_1]), .slot 2 (intVP .u64 a_2)] a w at h
  refine regS mixed hn hG h [2, 504, 502, 503, 501] (ob [0] (op_box q0 (cells_agg _)) <| ob [1] (op_box q0 (cells_agg _)) <| ov [] (op_assign qi) .nil) fun b1 a w h => ?_
  refine wp_seq ?_
  refine regS mixed hn hG h [0, 2, 502, 501, 500, 4] (ov [1] (op_fieldAddr_lbm (p := (b1 0)) (n := 1) 0 68 Tryz.underlying30 rfl Tryz.sizeOf27 (by decide) q0 rfl) <| ov [500, 3] (op_load_lb1 [one (intVP .u32 a_0.f_Chain), one (intVP .u32 a_0.f_Here), bytesCk 32 a_0.f_Updater, one (slVP (dC 32) a_0.f_Watchers), one (intVP .u64 a_0.f_Window), bytesCk 32 a_0.f_Committed] [one (slVP S_api_State.ck a_0.f_States), one (boolVP a_0.f_Failed), one (boolVP a_0.f_Cut)] 1 Tryz.isAgg27 q0 rfl rfl) <| ov [500] (op_len_sl Tryz.underlying27 q0) <| ov [] (op_move qi) .nil) fun _ a w h => ?_
  refine wp_block ?_
  obtain ⟨cr20, hl21, hF⟩ := bind_some hF
  refine wp_mono (wp_loopN (R := Int) (S := Int) (fun s a w => SatL c [.slot 2 (intVP .u64 a_2), .slot 4 (lpVP (b1 1) 0), .slot 10 (slVP S_api_Timed.ck a_0.f_Roots), .slot 11 (intVP .i64 (a_0.f_Roots.length : Int)), .slot 12 (intVP .i64 s), .res (lb (b1 1) 24 [bytesCk 32 a_1])] a w) (fun res e a w => match res with | .next s => e = .exit 0 ∧ SatL c [] a w | .ret r => e = .ret ∧ RetOk Tryz.prog Tryz.f34 c (intVP .i64 r) (fun _ => []) a w) ?_ _ 0 _ _ _ (h.sub [0, 1, 2, 3, 4, 5] (by rfl)) hl21) ?_
  · clear hl21 hF h
    intro x8 a w o h hF
    change ref17_Counts.b1 a_0 a_1 a_2 x8 = some o at hF
    unfold ref17_Counts.b1 at hF
    change SatL c [.slot 2 (intVP .u64 a_2), .slot 4 (lpVP (b1 1) 0), .slot 10 (slVP S_api_Timed.ck a_0.f_Roots), .slot 11 (intVP .i64 (a_0.f_Roots.length : Int)), .slot 12 (intVP .i64 x8), .res (lb (b1 1) 24 [bytesCk 32 a_1])] a w at h
    refine regS mixed hn hG h [0, 1, 2, 3, 4, 500, 5] (ov [4, 3] (op_bin bin_lss q0 q1) .nil) fun _ a w h => ?_
    refine wp_seq ?_
    refine cnd h hF 5 [0, 1, 2, 3, 4, 6] [0, 1, 2, 3, 4, 6] (fun hb15 hF h => ?_) (fun hb15 hF h => ?_)
    · refine wp_skip ?_
      show Code.wp Tryz.prog _ _ a w
      refine wp_seq ?_
      refine wp_block ?_
      obtain ⟨hv16, hF⟩ := ite_some hF
      refine regS mixed hn hG h [0, 1, 502, 2, 3, 4, 5, 500] (ov [2, 4] (op_indexAddr_sl Tryz.underlying27 Tryz.sizeOf62 S_api_Timed.lens q0 q1 hv16) <| ov [500] (op_load_pp [bytesCk 32 ((a_0.f_Roots.getD x8.toNat default).f_Root), one (intVP .u64 ((a_0.f_Roots.getD x8.toNat default).f_At))] [] Tryz.isAgg62 Tryz.sizeOf62 q0 rfl) <| ob [] (op_alloc Tryz.zeroValue62 z62) <| og [501, 502] [500] [.res 2 100000 (fun v1_ _ => (lb (v1_) 62 [bytesCk 32 ((a_0.f_Roots.getD x8.toNat default).f_Root), one (intVP .u64 ((a_0.f_Roots.getD x8.toNat default).f_At))]))] (GOk.plain (op_store_w Tryz.sizeOf62 q0 q1 (cells_agg _)) rfl) .nil) fun b17 a w h => ?_
      refine regS mixed hn hG h [0, 1, 2, 3, 4, 5, 500, 6, 7] (ov [2] (op_fieldAddr_lbm (p := (b17 2)) (n := 32) 0 0 Tryz.underlying62 rfl Tryz.sizeOf24 (by decide) q0 rfl) <| ov [500, 7] (op_load_lb [] [bytesCk 32 ((a_0.f_Roots.getD x8.toNat default).f_Root)] [one (intVP .u64 ((a_0.f_Roots.getD x8.toNat default).f_At))] 1 Tryz.isAgg24 Tryz.sizeOf24 q0 rfl rfl rfl) <| ov [1, 6] (op_load_w 1 Tryz.isAgg24 Tryz.sizeOf24 q0) <| ov [501, 500] (op_bin (bin_aeql Tryz.underlying24 Tryz.underlying5 Tryz.type5 Tryz.sizeOf5 Tryz.isAgg5 Tryz.eqGuardType24) q0 q1) .nil) fun _ a w h => ?_
      refine cnd h hF 6 [0, 2, 8] [0, 1, 3, 4, 5, 7] (fun hb18 hF h => ?_) (fun hb18 hF h => ?_)
      · refine wp_seq ?_
        refine regS mixed hn hG h [500] (ov [1] (op_fieldAddr_lbm (p := (b17 2)) (n := 1) 0 32 Tryz.underlying62 rfl Tryz.sizeOf26 (by decide) q0 rfl) <| ov [500, 2] (op_load_lb1 [bytesCk 32 ((a_0.f_Roots.getD x8.toNat default).f_Root)] [] 1 Tryz.isAgg26 q0 rfl rfl) <| ov [0] (op_move q0) <| ov [501, 500] (op_bin bin_gtr q0 q1) .nil) fun _ a w h => ?_
        refine cnd h hF 0 [] [] (fun hb19 hF h => ?_) (fun hb19 hF h => ?_)
        · refine regS mixed hn hG h [500] (ov [] (op_assign qi) .nil) fun _ a w h => ?_
          refine wp_ret ?_
          obtain rfl := Option.some.inj hF
          exact ⟨ret_ne, rfl, ret1 h Tryz.results34 (r_tmp 0 rfl) [] [] rfl rfl rfl⟩
        · refine wp_skip ?_
          show Code.wp Tryz.prog _ _ a w
          refine regS mixed hn hG h [500] (ov [] (op_assign qi) .nil) fun _ a w h => ?_
          refine wp_ret ?_
          obtain rfl := Option.some.inj hF
          exact ⟨ret_ne, rfl, ret1 h Tryz.results34 (r_tmp 0 rfl) [] [] rfl rfl rfl⟩
      · refine wp_skip ?_
        show Code.wp Tryz.prog _ _ a w
        refine reg mixed hn hG h [0, 1, 2, 3, 500, 5] (ov [4] (op_bin bin_add q0 qi) <| od [500] 4 (op_move q0) .nil) fun _ a w h => ?_
        obtain rfl := Option.some.inj hF
        exact ⟨rfl, h.sub [0, 1, 2, 3, 4, 5] (by rfl)⟩
    · refine wp_exit ?_
      obtain rfl := Option.some.inj hF
      exact ⟨exit_ne _, rfl, h.sub [] (by rfl)⟩
  · clear hl21
    intro e a w hq
    cases cr20 with
    | ret r22 =>
      obtain ⟨rfl, hq⟩ := hq
      obtain rfl := Option.some.inj hF
      exact ⟨.inl rfl, hq⟩
    | next y24 =>
      obtain ⟨rfl, h⟩ := hq
      change SatL c [] a w at h
      refine inBlock_at ?_
      show Code.wp Tryz.prog _ _ a w
      refine regS mixed hn hG h [500] (ov [] (op_assign qi) .nil) fun _ a w h => ?_
      refine wp_ret ?_
      obtain rfl := Option.some.inj hF
      exact ⟨.inl rfl, ret1 h Tryz.results34 (r_tmp 0 rfl) [] [] rfl rfl rfl⟩

def ref08_Add (a_0 : Int) (a_1 : Int) : Option (Int × Int) := (if (decide ((IntKind.wrap .u64 (18446744073709551615 - a_1)) < a_0)) = true then some (0, 10) else some (IntKind.wrap .u64 (a_0 + a_1), 0))
theorem ref08_Add_ok {a_0 : Int} {a_1 : Int} {r : Int × Int} (hF : ref08_Add a_0 a_1 = some r) : CallOk Tryz.prog KG 35 [(intVP .u64 a_0), (intVP .u64 a_1)] [] (fun _ => []) (tupVP [(intVP .u64 r.1), (intVP .i64 r.2)]) := by
  refine CallOk.intro 13 Tryz.func35 rfl Tryz.ntmps35 (Nat.le_of_ble_eq_true rfl) ?_
  intro c a w hG hn h
  unfold ref08_Add at hF
  change SatL c [.slot 0 (intVP .u64 a_0), .slot 1 (intVP .u64 a_1)] a w at h
  refine regS mixed hn hG h [0, 1] (ov [] (op_assign qi) <| ov [] (op_assign qi) .nil) fun _ a w h => ?_
  refine wp_seq ?_
  refine regS mixed hn hG h [0, 1, 500] (ov [0] (op_move q0) <| ov [1] (op_move q0) <| ov [500] (op_bin bin_sub qi q0) <| ov [502, 500] (op_bin bin_gtr q0 q1) .nil) fun _ a w h => ?_
  refine cnd h hF 2 [] [0, 1] (fun hb1 hF h => ?_) (fun hb1 hF h => ?_)
  · refine regS mixed hn hG h [501, 500] (ov [] (op_assign qi) <| ov [] (op_assign qi) .nil) fun _ a w h => ?_
    refine wp_ret ?_
    obtain rfl := Option.some.inj hF
    exact ⟨.inl rfl, retn h (rs := [.tmp 4, .tmp 5]) (Vs := [(intVP .u64 0), (intVP .i64 10)]) Tryz.results35 (by decide) ⟨(r_tmp 0 rfl), (r_tmp 1 rfl), trivial⟩ [] [] rfl rfl rfl⟩
  · refine wp_skip ?_
    show Code.wp Tryz.prog _ _ a w
    refine regS mixed hn hG h [501, 500] (ov [0] (op_move q0) <| ov [1] (op_move q0) <| ov [501, 500] (op_bin bin_add q0 q1) <| ov [500] (op_assign q0) <| ov [] (op_assign qi) .nil) fun _ a w h => ?_
    refine wp_ret ?_
    obtain rfl := Option.some.inj hF
    exact ⟨.inl rfl, retn h (rs := [.tmp 4, .tmp 5]) (Vs := [(intVP .u64 (IntKind.wrap .u64 (a_0 + a_1))), (intVP .i64 0)]) Tryz.results35 (by decide) ⟨(r_tmp 0 rfl), (r_tmp 1 rfl), trivial⟩ [] [] rfl rfl rfl⟩
end Go.Proofs.YtnjkofmmpfehcaaGreatDoorR
