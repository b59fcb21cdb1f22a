/- The functions' Lean twins and contracts, printed by this session's own program: part 3. -/
import Derived.Test.YtnjkofmmpfehcaaDoorRG2
namespace Go.Proofs.YtnjkofmmpfehcaaDoorR
open Go Go.RowKit Go.Proofs
set_option maxRecDepth 100000
set_option maxHeartbeats 4000000
set_option linter.unusedVariables false
def keys_Climb.j1 (x10 : Int) (x11 : Int) (x30 : List UInt8) (x31 : Option O_Log) : Option (Flow ((List UInt8) × (Option O_Log)) (Int × Int × (Option O_Log) × (List UInt8))) := some (.cont (shr .i64 x10 1, IntKind.wrap .i64 (x11 + 1), x31, x30))
def keys_Climb.b1 (a_3 : List (List UInt8)) (x10 : Int) (x11 : Int) (x12 : Option O_Log) (x13 : List UInt8) : Option (Flow ((List UInt8) × (Option O_Log)) (Int × Int × (Option O_Log) × (List UInt8))) := (if (decide (x11 < (a_3.length : Int))) = true then (if (0 : Int) ≤ x11 ∧ x11 < a_3.length then (if (decide ((bits .and .i64 x10 1) = (1 : Int))) = true then ((digest_Log_Two x12 4 (a_3.getD x11.toNat default) x13).bind fun r33 => keys_Climb.j1 x10 x11 r33.1 r33.2) else ((digest_Log_Two x12 4 x13 (a_3.getD x11.toNat default)).bind fun r34 => keys_Climb.j1 x10 x11 r34.1 r34.2)) else none) else some (.brk (x10, x11, x12, x13)))
def keys_Climb (L_0 : Option O_Log) (a_1 : List UInt8) (a_2 : Int) (a_3 : List (List UInt8)) : Option ((List UInt8) × (Option O_Log)) := ((loopN (fun s : Int × Int × (Option O_Log) × (List UInt8) => keys_Climb.b1 a_3 s.1 s.2.1 s.2.2.1 s.2.2.2) (((a_3.length : Int) - 0 : Int).toNat + 2) (a_2, 0, L_0, a_1)).bind fun cr => match cr with | .ret r => some r | .next (y39, y40, y41, y42) => some (y42, y41))
theorem keys_Climb_ok {p_0 : Value} {L_0 : Option O_Log} {a_1 : List UInt8} {a_2 : Int} {a_3 : List (List UInt8)} {r : (List UInt8) × (Option O_Log)} (hF : keys_Climb L_0 a_1 a_2 a_3 = some r) : CallOk Tryd.prog KG 186 [(eqVP p_0), (aggVP [bytesCk 32 a_1]), (intVP .i64 a_2), (slVP (dC 32) a_3)] [(Log_e p_0 L_0)] (fun _ => [Log_e p_0 r.2]) (aggVP [bytesCk 32 r.1]) := by
  refine CallOk.intro 32 Tryd.func186 rfl Tryd.ntmps186 (Nat.le_of_ble_eq_true rfl) ?_
  intro c a w hG hn h
  unfold keys_Climb at hF
  change SatL c [.slot 0 (eqVP p_0), .slot 1 (aggVP [bytesCk 32 a_1]), .slot 2 (intVP .i64 a_2), .slot 3 (slVP (dC 32) a_3), .res (Log_e p_0 L_0)] a w at h
  refine regS mixed hn hG h [0, 2, 3, 503, 501, 4, 502, 500] (ob [1] (op_box q0 (cells_agg _)) <| ob [] (op_alloc Tryd.zeroValue25 z25) .nil) fun b1 a w h => ?_
  refine wp_seq ?_
  refine regS mixed hn hG h [0, 1, 3, 4, 502, 501, 500, 5, 6, 7] (ov [2] (op_move q0) <| ov [500] (op_len_sl Tryd.underlying26 q0) <| ov [] (op_move qi) .nil) fun _ a w h => ?_
  refine wp_block ?_
  obtain ⟨cr35, hl36, hF⟩ := bind_some hF
  refine wp_mono (wp_loopN (R := (List UInt8) × (Option O_Log)) (S := Int × Int × (Option O_Log) × (List UInt8)) (fun s a w => SatL c [.slot 0 (eqVP p_0), .slot 2 (intVP .i64 s.1), .slot 5 (lpVP (b1 0) 0), .slot 8 (lpVP (b1 1) 0), .slot 11 (slVP (dC 32) a_3), .slot 12 (intVP .i64 (a_3.length : Int)), .slot 13 (intVP .i64 s.2.1), .res (Log_e p_0 s.2.2.1), .res (lb (b1 0) 25 [bytesCk 32 s.2.2.2]), .res (lb (b1 1) 25 [bytesCk 32 (List.replicate 32 0)])] a w) (fun res e a w => match res with | .next s => e = .exit 0 ∧ SatL c [.slot 5 (lpVP (b1 0) 0), .slot 8 (lpVP (b1 1) 0), .res (Log_e p_0 s.2.2.1), .res (lb (b1 0) 25 [bytesCk 32 s.2.2.2]), .res (lb (b1 1) 25 [bytesCk 32 (List.replicate 32 0)])] a w | .ret r => e = .ret ∧ RetOk Tryd.prog Tryd.f186 c (aggVP [bytesCk 32 r.1]) (fun _ => [Log_e p_0 r.2]) a w) ?_ _ (a_2, 0, L_0, a_1) _ _ _ (h.sub [0, 1, 2, 3, 4, 5, 6, 7, 8, 9] (by rfl)) hl36) ?_
  · clear hl36 hF h
    intro s a w o h hF
    obtain ⟨x10, x11, x12, x13⟩ := s
    change keys_Climb.b1 a_3 x10 x11 x12 x13 = some o at hF
    unfold keys_Climb.b1 at hF
    change SatL c [.slot 0 (eqVP p_0), .slot 2 (intVP .i64 x10), .slot 5 (lpVP (b1 0) 0), .slot 8 (lpVP (b1 1) 0), .slot 11 (slVP (dC 32) a_3), .slot 12 (intVP .i64 (a_3.length : Int)), .slot 13 (intVP .i64 x11), .res (Log_e p_0 x12), .res (lb (b1 0) 25 [bytesCk 32 x13]), .res (lb (b1 1) 25 [bytesCk 32 (List.replicate 32 0)])] a w at h
    refine regS mixed hn hG h [0, 1, 2, 3, 4, 5, 6, 500, 7, 8, 9] (ov [6, 5] (op_bin bin_lss q0 q1) .nil) fun _ a w h => ?_
    refine wp_seq ?_
    refine cnd h hF 7 [0, 1, 2, 3, 4, 5, 6, 8, 9, 10] [0, 1, 2, 3, 4, 5, 6, 8, 9, 10] (fun hb25 hF h => ?_) (fun hb25 hF h => ?_)
    · refine wp_skip ?_
      show Code.wp Tryd.prog _ _ a w
      refine wp_seq ?_
      refine wp_block ?_
      obtain ⟨hv26, hF⟩ := ite_some hF
      refine regS mixed hn hG h [0, 1, 2, 3, 502, 4, 5, 6, 7, 8, 9, 500] (ov [4, 6] (op_indexAddr_sl Tryd.underlying26 Tryd.sizeOf25 (lens_dC 32) q0 q1 hv26) <| ov [500] (op_load_pp [bytesCk 32 (a_3.getD x11.toNat default)] [] Tryd.isAgg25 Tryd.sizeOf25 q0 rfl) <| ob [] (op_alloc Tryd.zeroValue25 z25) <| og [501, 502] [500] [.res 2 100000 (fun v1_ _ => (lb (v1_) 25 [bytesCk 32 (a_3.getD x11.toNat default)]))] (GOk.plain (op_store_w Tryd.sizeOf25 q0 q1 (cells_agg _)) rfl) .nil) fun b27 a w h => ?_
      refine wp_seq ?_
      refine regS mixed hn hG h [0, 1, 2, 3, 4, 5, 6, 7, 500, 8, 9, 10, 11] (ov [1] (op_move q0) <| ov [500] (op_bin bin_and q0 qi) <| ov [500] (op_bin bin_eql q0 qi) .nil) fun _ a w h => ?_
      refine wp_cut (fun a w => ∃ (x30 : List UInt8), ∃ (x31 : Option O_Log), keys_Climb.j1 x10 x11 x30 x31 = some o ∧ SatL c [.slot 0 (eqVP p_0), .slot 2 (intVP .i64 x10), .slot 5 (lpVP (b1 0) 0), .slot 8 (lpVP (b1 1) 0), .slot 11 (slVP (dC 32) a_3), .slot 12 (intVP .i64 (a_3.length : Int)), .slot 13 (intVP .i64 x11), .res (lb (b1 0) 25 [bytesCk 32 x30]), .res (lb (b1 1) 25 [bytesCk 32 (List.replicate 32 0)]), .res (Log_e p_0 x31)] a w) ?_ ?_
      · refine cnd h hF 8 [0, 1, 2, 3, 4, 5, 6, 7, 9, 10, 11, 12] [0, 1, 2, 3, 4, 5, 6, 7, 9, 10, 11, 12] (fun hb32 hF h => ?_) (fun hb32 hF h => ?_)
        · obtain ⟨r33, hr33, hF⟩ := bind_some hF
          refine reg mixed hn hG h [0, 1, 2, 3, 5, 6, 7, 500, 10, 501] (ov [0] (op_move q0) <| ov [4, 11] (op_load_w 1 Tryd.isAgg25 Tryd.sizeOf25 q0) <| ov [2, 9] (op_load_w 1 Tryd.isAgg25 Tryd.sizeOf25 q0) <| oc [502, 501, 500] [8] Tryd.call183 (digest_Log_Two_ok hr33) ⟨q0, qi, q1, q2, trivial⟩ <| ou [2, 501] 9 (op_store_w Tryd.sizeOf25 q0 q1 (cells_agg _)) .nil) fun _ a w h => ?_
          exact ⟨r33.1, r33.2, hF, h.sub [0, 1, 2, 3, 4, 5, 6, 7, 8, 9] (by rfl)⟩
        · obtain ⟨r34, hr34, hF⟩ := bind_some hF
          refine reg mixed hn hG h [0, 1, 2, 3, 5, 6, 7, 500, 10, 501] (ov [0] (op_move q0) <| ov [2, 9] (op_load_w 1 Tryd.isAgg25 Tryd.sizeOf25 q0) <| ov [4, 11] (op_load_w 1 Tryd.isAgg25 Tryd.sizeOf25 q0) <| oc [502, 501, 500] [8] Tryd.call183 (digest_Log_Two_ok hr34) ⟨q0, qi, q1, q2, trivial⟩ <| ou [2, 501] 9 (op_store_w Tryd.sizeOf25 q0 q1 (cells_agg _)) .nil) fun _ a w h => ?_
          exact ⟨r34.1, r34.2, hF, h.sub [0, 1, 2, 3, 4, 5, 6, 7, 8, 9] (by rfl)⟩
      · clear h hF
        rintro a w ⟨x30, x31, hF, h⟩
        unfold keys_Climb.j1 at hF
        show Code.wp Tryd.prog _ _ a w
        refine reg mixed hn hG h [0, 500, 2, 3, 4, 5, 6, 7, 8, 9] (ov [1] (op_move q0) <| ov [500] (op_bin (bin_shru rfl) q0 qi) <| od [500] 1 (op_assign q0) .nil) fun _ a w h => ?_
        show Code.wp Tryd.prog _ _ a w
        refine reg mixed hn hG h [0, 1, 2, 3, 4, 5, 500, 7, 8, 9] (ov [6] (op_bin bin_add q0 qi) <| od [500] 6 (op_move q0) .nil) fun _ a w h => ?_
        obtain rfl := Option.some.inj hF
        exact ⟨rfl, h.sub [0, 1, 2, 3, 4, 5, 6, 9, 7, 8] (by rfl)⟩
    · refine wp_exit ?_
      obtain rfl := Option.some.inj hF
      exact ⟨exit_ne _, rfl, h.sub [2, 3, 7, 8, 9] (by rfl)⟩
  · clear hl36
    intro e a w hq
    cases cr35 with
    | ret r37 =>
      obtain ⟨rfl, hq⟩ := hq
      obtain rfl := Option.some.inj hF
      exact ⟨.inl rfl, hq⟩
    | next s38 =>
      obtain ⟨y39, y40, y41, y42⟩ := s38
      obtain ⟨rfl, h⟩ := hq
      change SatL c [.slot 5 (lpVP (b1 0) 0), .slot 8 (lpVP (b1 1) 0), .res (Log_e p_0 y41), .res (lb (b1 0) 25 [bytesCk 32 y42]), .res (lb (b1 1) 25 [bytesCk 32 (List.replicate 32 0)])] a w at h
      refine inBlock_at ?_
      show Code.wp Tryd.prog _ _ a w
      refine regS mixed hn hG h [1, 2, 500] (ov [0, 3] (op_load_w 1 Tryd.isAgg25 Tryd.sizeOf25 q0) <| ou [1, 500] 4 (op_store_w Tryd.sizeOf25 q0 q1 (cells_agg _)) .nil) fun _ a w h => ?_
      refine wp_ret ?_
      obtain rfl := Option.some.inj hF
      exact ⟨.inl rfl, ret1 h Tryd.results186 (r_cell 0 2 rfl rfl Tryd.isAgg25 Tryd.sizeOf25 rfl) [1] [(Log_e p_0 y41)] rfl rfl rfl⟩

def keys_Verify.j2 (x9 : Bool) (x10 : Option O_Log) : Option (Bool × (Option O_Log)) := some (x9, x10)
def keys_Verify.j1 (L_0 : Option O_Log) (a_1 : List UInt8) (a_2 : List UInt8) (a_3 : S_api_Sig) (x4 : Bool) : Option (Bool × (Option O_Log)) := (if x4 = true then some (false, L_0) else ((lamport_Opened L_0 a_2 a_3.f_Parts a_3.f_Others).bind fun r6 => (if r6.2.1 = true then ((keys_Climb r6.2.2 r6.1 a_3.f_Index a_3.f_Path).bind fun r8 => keys_Verify.j2 (decide (r8.1 = a_1)) r8.2) else keys_Verify.j2 false r6.2.2)))
def keys_Verify (L_0 : Option O_Log) (a_1 : List UInt8) (a_2 : List UInt8) (a_3 : S_api_Sig) : Option (Bool × (Option O_Log)) := (if (decide (a_3.f_Index < (0 : Int))) = true then keys_Verify.j1 L_0 a_1 a_2 a_3 true else (if (decide ((16 : Int) ≤ a_3.f_Index)) = true then keys_Verify.j1 L_0 a_1 a_2 a_3 true else keys_Verify.j1 L_0 a_1 a_2 a_3 (!decide ((a_3.f_Path.length : Int) = (4 : Int)))))
theorem keys_Verify_ok {p_0 : Value} {L_0 : Option O_Log} {a_1 : List UInt8} {a_2 : List UInt8} {a_3 : S_api_Sig} {r : Bool × (Option O_Log)} (hF : keys_Verify L_0 a_1 a_2 a_3 = some r) : CallOk Tryd.prog KG 133 [(eqVP p_0), (aggVP [bytesCk 32 a_1]), (aggVP [bytesCk 32 a_2]), (aggVP [one (intVP .i64 a_3.f_Index), one (slVP (dC 32) a_3.f_Parts), one (slVP (dC 32) a_3.f_Others), one (slVP (dC 32) a_3.f_Path)])] [(Log_e p_0 L_0)] (fun _ => [Log_e p_0 r.2]) (boolVP r.1) := by
  refine CallOk.intro 47 Tryd.func133 rfl Tryd.ntmps133 (Nat.le_of_ble_eq_true rfl) ?_
  intro c a w hG hn h
  unfold keys_Verify at hF
  change SatL c [.slot 0 (eqVP p_0), .slot 1 (aggVP [bytesCk 32 a_1]), .slot 2 (aggVP [bytesCk 32 a_2]), .slot 3 (aggVP [one (intVP .i64 a_3.f_Index), one (slVP (dC 32) a_3.f_Parts), one (slVP (dC 32) a_3.f_Others), one (slVP (dC 32) a_3.f_Path)]), .res (Log_e p_0 L_0)] a w at h
  refine regS mixed hn hG h [0, 506, 504, 502, 4, 505, 503, 501] (ob [1] (op_box q0 (cells_agg _)) <| ob [2] (op_box q0 (cells_agg _)) <| ob [3] (op_box q0 (cells_agg _)) <| ov [] (op_assign qb) .nil) fun b1 a w h => ?_
  refine wp_seq ?_
  refine wp_seq ?_
  refine wp_cut (fun a w => ∃ (x4 : Bool), keys_Verify.j1 L_0 a_1 a_2 a_3 x4 = some r ∧ SatL c [.slot 0 (eqVP p_0), .slot 5 (lpVP (b1 0) 0), .slot 6 (lpVP (b1 1) 0), .slot 7 (lpVP (b1 2) 0), .slot 24 (boolVP x4), .res (Log_e p_0 L_0), .res (lb (b1 0) 25 [bytesCk 32 a_1]), .res (lb (b1 1) 25 [bytesCk 32 a_2]), .res (lb (b1 2) 35 [one (intVP .i64 a_3.f_Index), one (slVP (dC 32) a_3.f_Parts), one (slVP (dC 32) a_3.f_Others), one (slVP (dC 32) a_3.f_Path)])] a w) ?_ ?_
  · rcases Bool.eq_false_or_eq_true (decide (a_3.f_Index < (0 : Int))) with hb12 | hb12
    · replace hF := tt_of hb12 hF
      refine reg mixed hn hG h [0, 1, 2, 3, 500, 4, 5, 6, 7] (ov [3] (op_fieldAddr_lbm (p := (b1 2)) (n := 1) 0 0 Tryd.underlying35 rfl Tryd.sizeOf3 (by decide) q0 rfl) <| ov [500, 7] (op_load_lb1 [] [one (slVP (dC 32) a_3.f_Parts), one (slVP (dC 32) a_3.f_Others), one (slVP (dC 32) a_3.f_Path)] 1 Tryd.isAgg3 q0 rfl rfl) <| ov [500] (op_bin bin_lss q0 qi) <| ov [500] (op_move q0) <| oe [500] [] (GOk.off_v (want := false) hb12 rfl rfl rfl rfl) <| oe [501] [] (GOk.off_v (want := false) hb12 rfl rfl rfl rfl) <| oe [502] [] (GOk.off_v (want := false) hb12 rfl rfl rfl rfl) <| ov [503] (op_pick_t hb12 q0 qb) <| ov [500] (op_move q0) <| oe [500] [] (GOk.off_v (want := false) rfl rfl rfl rfl rfl) <| oe [501] [] (GOk.off_v (want := false) rfl rfl rfl rfl rfl) <| oe [502] [] (GOk.off_v (want := false) rfl rfl rfl rfl rfl) <| oe [503] [] (GOk.off_v (want := false) rfl rfl rfl rfl rfl) <| ov [504] (op_pick_t rfl q0 qb) .nil) fun _ a w h => ?_
      exact ⟨true, hF, h.sub [0, 1, 2, 3, 4, 5, 6, 7, 8] (by rfl)⟩
    · replace hF := ff_of hb12 hF
      rcases Bool.eq_false_or_eq_true (decide ((16 : Int) ≤ a_3.f_Index)) with hb13 | hb13
      · replace hF := tt_of hb13 hF
        refine reg mixed hn hG h [0, 1, 2, 3, 500, 4, 5, 6, 7] (ov [3] (op_fieldAddr_lbm (p := (b1 2)) (n := 1) 0 0 Tryd.underlying35 rfl Tryd.sizeOf3 (by decide) q0 rfl) <| ov [500, 7] (op_load_lb1 [] [one (slVP (dC 32) a_3.f_Parts), one (slVP (dC 32) a_3.f_Others), one (slVP (dC 32) a_3.f_Path)] 1 Tryd.isAgg3 q0 rfl rfl) <| ov [500] (op_bin bin_lss q0 qi) <| ov [500] (op_move q0) <| oe [500, 3] [] (GOk.on_eq hb12 rfl rfl rfl (op_fieldAddr_lbm (p := (b1 2)) (n := 1) 0 0 Tryd.underlying35 rfl Tryd.sizeOf3 (by decide) q0 rfl)) <| oe [501, 500, 7] [] (GOk.on_eq hb12 rfl rfl rfl (op_load_lb1 [] [one (slVP (dC 32) a_3.f_Parts), one (slVP (dC 32) a_3.f_Others), one (slVP (dC 32) a_3.f_Path)] 1 Tryd.isAgg3 q0 rfl rfl)) <| oe [502, 500] [] (GOk.on_eq hb12 rfl rfl rfl (op_bin bin_geq q0 qi)) <| ov [503, 500] (op_pick_f hb12 q0 q1) <| ov [500] (op_move q0) <| oe [500] [] (GOk.off_v (want := false) hb13 rfl rfl rfl rfl) <| oe [501] [] (GOk.off_v (want := false) hb13 rfl rfl rfl rfl) <| oe [502] [] (GOk.off_v (want := false) hb13 rfl rfl rfl rfl) <| oe [503] [] (GOk.off_v (want := false) hb13 rfl rfl rfl rfl) <| ov [504] (op_pick_t hb13 q0 qb) .nil) fun _ a w h => ?_
        exact ⟨true, hF, h.sub [0, 1, 2, 3, 4, 5, 6, 7, 8] (by rfl)⟩
      · replace hF := ff_of hb13 hF
        refine reg mixed hn hG h [0, 1, 2, 3, 500, 4, 5, 6, 7] (ov [3] (op_fieldAddr_lbm (p := (b1 2)) (n := 1) 0 0 Tryd.underlying35 rfl Tryd.sizeOf3 (by decide) q0 rfl) <| ov [500, 7] (op_load_lb1 [] [one (slVP (dC 32) a_3.f_Parts), one (slVP (dC 32) a_3.f_Others), one (slVP (dC 32) a_3.f_Path)] 1 Tryd.isAgg3 q0 rfl rfl) <| ov [500] (op_bin bin_lss q0 qi) <| ov [500] (op_move q0) <| oe [500, 3] [] (GOk.on_eq hb12 rfl rfl rfl (op_fieldAddr_lbm (p := (b1 2)) (n := 1) 0 0 Tryd.underlying35 rfl Tryd.sizeOf3 (by decide) q0 rfl)) <| oe [501, 500, 7] [] (GOk.on_eq hb12 rfl rfl rfl (op_load_lb1 [] [one (slVP (dC 32) a_3.f_Parts), one (slVP (dC 32) a_3.f_Others), one (slVP (dC 32) a_3.f_Path)] 1 Tryd.isAgg3 q0 rfl rfl)) <| oe [502, 500] [] (GOk.on_eq hb12 rfl rfl rfl (op_bin bin_geq q0 qi)) <| ov [503, 500] (op_pick_f hb12 q0 q1) <| ov [500] (op_move q0) <| oe [500, 3] [] (GOk.on_eq hb13 rfl rfl rfl (op_fieldAddr_lbm (p := (b1 2)) (n := 1) 0 3 Tryd.underlying35 rfl Tryd.sizeOf26 (by decide) q0 rfl)) <| oe [501, 500, 7] [] (GOk.on_eq hb13 rfl rfl rfl (op_load_lb1 [one (intVP .i64 a_3.f_Index), one (slVP (dC 32) a_3.f_Parts), one (slVP (dC 32) a_3.f_Others)] [] 1 Tryd.isAgg26 q0 rfl rfl)) <| oe [502, 500] [] (GOk.on_eq hb13 rfl rfl rfl (op_len_sl Tryd.underlying26 q0)) <| oe [503, 500] [] (GOk.on_eq hb13 rfl rfl rfl (op_bin bin_neq q0 qi)) <| ov [504, 500] (op_pick_f hb13 q0 q1) .nil) fun _ a w h => ?_
        exact ⟨!decide ((a_3.f_Path.length : Int) = (4 : Int)), hF, h.sub [0, 1, 2, 3, 4, 5, 6, 7, 8] (by rfl)⟩
  · clear h hF
    rintro a w ⟨x4, hF, h⟩
    unfold keys_Verify.j1 at hF
    show Code.wp Tryd.prog _ _ a w
    refine cnd h hF 4 [5] [0, 1, 2, 3, 5, 6, 7, 8] (fun hb5 hF h => ?_) (fun hb5 hF h => ?_)
    · refine regS mixed hn hG h [500, 0] (ov [] (op_assign qb) .nil) fun _ a w h => ?_
      refine wp_ret ?_
      obtain rfl := Option.some.inj hF
      exact ⟨.inl rfl, ret1 h Tryd.results133 (r_tmp 0 rfl) [1] [(Log_e p_0 L_0)] rfl rfl rfl⟩
    · refine wp_skip ?_
      show Code.wp Tryd.prog _ _ a w
      obtain ⟨r6, hr6, hF⟩ := bind_some hF
      refine regS mixed hn hG h [0, 1, 3, 503, 500, 5, 7, 507, 501] (ov [0] (op_move q0) <| ov [2, 6] (op_load_w 1 Tryd.isAgg25 Tryd.sizeOf25 q0) <| ov [3] (op_fieldAddr_lbm (p := (b1 2)) (n := 1) 0 1 Tryd.underlying35 rfl Tryd.sizeOf26 (by decide) q0 rfl) <| ov [500, 7] (op_load_lb1 [one (intVP .i64 a_3.f_Index)] [one (slVP (dC 32) a_3.f_Others), one (slVP (dC 32) a_3.f_Path)] 1 Tryd.isAgg26 q0 rfl rfl) <| ov [3] (op_fieldAddr_lbm (p := (b1 2)) (n := 1) 0 2 Tryd.underlying35 rfl Tryd.sizeOf26 (by decide) q0 rfl) <| ov [500, 7] (op_load_lb1 [one (intVP .i64 a_3.f_Index), one (slVP (dC 32) a_3.f_Parts)] [one (slVP (dC 32) a_3.f_Path)] 1 Tryd.isAgg26 q0 rfl rfl) <| oc [505, 504, 502, 500] [4] Tryd.call185 (lamport_Opened_ok hr6) ⟨q0, q1, q2, q3, trivial⟩ <| ov [501] (op_move q0) <| ov [500] (op_extract q0 rfl) <| ov [501] (op_extract q0 rfl) <| ob [] (op_alloc Tryd.zeroValue25 z25) <| og [501, 503] [500] [.res 10 100000 (fun v1_ _ => (lb (v1_) 25 [bytesCk 32 r6.1]))] (GOk.plain (op_store_w Tryd.sizeOf25 q0 q1 (cells_agg _)) rfl) <| ov [503] (op_assign q0) .nil) fun b7 a w h => ?_
      refine wp_seq ?_
      refine wp_cut (fun a w => ∃ (x9 : Bool), ∃ (x10 : Option O_Log), keys_Verify.j2 x9 x10 = some r ∧ SatL c [.slot 8 (boolVP x9), .res (Log_e p_0 x10)] a w) ?_ ?_
      · rcases Bool.eq_false_or_eq_true r6.2.1 with hb11 | hb11
        · replace hF := tt_of hb11 hF
          obtain ⟨r8, hr8, hF⟩ := bind_some hF
          refine reg mixed hn hG h [500, 504] (ov [4] (op_move q0) <| ov [500] (op_move q0) <| oe [500, 0] [] (GOk.on_eq hb11 rfl rfl rfl (op_move q0)) <| oe [501, 3, 8] [] (GOk.on_eq hb11 rfl rfl rfl (op_load_w 1 Tryd.isAgg25 Tryd.sizeOf25 q0)) <| oe [502, 2] [] (GOk.on_eq hb11 rfl rfl rfl (op_fieldAddr_lbm (p := (b1 2)) (n := 1) 0 0 Tryd.underlying35 rfl Tryd.sizeOf3 (by decide) q0 rfl)) <| oe [503, 500, 6] [] (GOk.on_eq hb11 rfl rfl rfl (op_load_lb1 [] [one (slVP (dC 32) a_3.f_Parts), one (slVP (dC 32) a_3.f_Others), one (slVP (dC 32) a_3.f_Path)] 1 Tryd.isAgg3 q0 rfl rfl)) <| oe [504, 2] [] (GOk.on_eq hb11 rfl rfl rfl (op_fieldAddr_lbm (p := (b1 2)) (n := 1) 0 3 Tryd.underlying35 rfl Tryd.sizeOf26 (by decide) q0 rfl)) <| oe [505, 500, 6] [] (GOk.on_eq hb11 rfl rfl rfl (op_load_lb1 [one (intVP .i64 a_3.f_Index), one (slVP (dC 32) a_3.f_Parts), one (slVP (dC 32) a_3.f_Others)] [] 1 Tryd.isAgg26 q0 rfl rfl)) <| oe [506, 505, 504, 502, 500] [7] (GOk.on_eq hb11 rfl rfl rfl (op_call Tryd.call186 (keys_Climb_ok hr8) ⟨q0, q1, q2, q3, trivial⟩)) <| oe [508, 1, 5] [] (GOk.on_eq hb11 rfl rfl rfl (op_load_w 1 Tryd.isAgg25 Tryd.sizeOf25 q0)) <| oe [509, 502, 500] [] (GOk.on_eq hb11 rfl rfl rfl (op_bin (bin_aeql Tryd.underlying25 Tryd.underlying5 Tryd.type5 Tryd.sizeOf5 Tryd.isAgg5 Tryd.eqGuardType25) q0 q1)) <| ov [510, 500] (op_pick_t hb11 q0 q1) <| ov [500] (op_assign q0) .nil) fun _ a w h => ?_
          exact ⟨decide (r8.1 = a_1), r8.2, hF, h.sub [0, 1] (by rfl)⟩
        · replace hF := ff_of hb11 hF
          refine reg mixed hn hG h [500, 7] (ov [4] (op_move q0) <| ov [500] (op_move q0) <| oe [500] [] (GOk.off_v (want := true) hb11 rfl rfl rfl rfl) <| oe [501] [] (GOk.off_v (want := true) hb11 rfl rfl rfl rfl) <| oe [502] [] (GOk.off_v (want := true) hb11 rfl rfl rfl rfl) <| oe [503] [] (GOk.off_v (want := true) hb11 rfl rfl rfl rfl) <| oe [504] [] (GOk.off_v (want := true) hb11 rfl rfl rfl rfl) <| oe [505] [] (GOk.off_v (want := true) hb11 rfl rfl rfl rfl) <| oe [506] [] (GOk.off_v (want := true) hb11 rfl rfl rfl rfl) <| oe [507] [] (GOk.off_v (want := true) hb11 rfl rfl rfl rfl) <| oe [508] [] (GOk.off_v (want := true) hb11 rfl rfl rfl rfl) <| ov [509] (op_pick_f hb11 q0 qb) <| ov [500] (op_assign q0) .nil) fun _ a w h => ?_
          exact ⟨false, r6.2.2, hF, h.sub [0, 1] (by rfl)⟩
      · clear h hF
        rintro a w ⟨x9, x10, hF, h⟩
        unfold keys_Verify.j2 at hF
        show Code.wp Tryd.prog _ _ a w
        refine wp_ret ?_
        obtain rfl := Option.some.inj hF
        exact ⟨.inl rfl, ret1 h Tryd.results133 (r_tmp 0 rfl) [1] [(Log_e p_0 x10)] rfl rfl rfl⟩

def update_Right (L_0 : Option O_Log) (a_1 : List UInt8) (a_2 : S_api_Update) : Option (Bool × (Option O_Log)) := ((update_Claim L_0 a_2.f_Home a_2.f_Old a_2.f_New).bind fun r3 => ((keys_Verify r3.2 a_1 r3.1 a_2.f_Sig).bind fun r4 => some (r4.1, r4.2)))
theorem update_Right_ok {p_0 : Value} {L_0 : Option O_Log} {a_1 : List UInt8} {a_2 : S_api_Update} {r : Bool × (Option O_Log)} (hF : update_Right L_0 a_1 a_2 = some r) : CallOk Tryd.prog KG 68 [(eqVP p_0), (aggVP [bytesCk 32 a_1]), (aggVP [one (intVP .u32 a_2.f_Home), bytesCk 32 a_2.f_Old, bytesCk 32 a_2.f_New, one (intVP .i64 a_2.f_Sig.f_Index), one (slVP (dC 32) a_2.f_Sig.f_Parts), one (slVP (dC 32) a_2.f_Sig.f_Others), one (slVP (dC 32) a_2.f_Sig.f_Path)])] [(Log_e p_0 L_0)] (fun _ => [Log_e p_0 r.2]) (boolVP r.1) := by
  refine CallOk.intro 20 Tryd.func68 rfl Tryd.ntmps68 (Nat.le_of_ble_eq_true rfl) ?_
  intro c a w hG hn h
  unfold update_Right at hF
  change SatL c [.slot 0 (eqVP p_0), .slot 1 (aggVP [bytesCk 32 a_1]), .slot 2 (aggVP [one (intVP .u32 a_2.f_Home), bytesCk 32 a_2.f_Old, bytesCk 32 a_2.f_New, one (intVP .i64 a_2.f_Sig.f_Index), one (slVP (dC 32) a_2.f_Sig.f_Parts), one (slVP (dC 32) a_2.f_Sig.f_Others), one (slVP (dC 32) a_2.f_Sig.f_Path)]), .res (Log_e p_0 L_0)] a w at h
  refine regS mixed hn hG h [0, 504, 502, 3, 503, 501] (ob [1] (op_box q0 (cells_agg _)) <| ob [2] (op_box q0 (cells_agg _)) <| ov [] (op_assign qb) .nil) fun b1 a w h => ?_
  obtain ⟨r3, hr3, hF⟩ := bind_some hF
  obtain ⟨r4, hr4, hF⟩ := bind_some hF
  refine regS mixed hn hG h [500, 501] (ov [0] (op_move q0) <| ov [1, 4] (op_load_w 1 Tryd.isAgg25 Tryd.sizeOf25 q0) <| ov [0] (op_move q0) <| ov [2] (op_fieldAddr_lbm (p := (b1 1)) (n := 1) 0 0 Tryd.underlying37 rfl Tryd.sizeOf22 (by decide) q0 rfl) <| ov [500, 5] (op_load_lb1 [] [bytesCk 32 a_2.f_Old, bytesCk 32 a_2.f_New, one (intVP .i64 a_2.f_Sig.f_Index), one (slVP (dC 32) a_2.f_Sig.f_Parts), one (slVP (dC 32) a_2.f_Sig.f_Others), one (slVP (dC 32) a_2.f_Sig.f_Path)] 1 Tryd.isAgg22 q0 rfl rfl) <| ov [2] (op_fieldAddr_lbm (p := (b1 1)) (n := 32) 0 1 Tryd.underlying37 rfl Tryd.sizeOf25 (by decide) q0 rfl) <| ov [500, 5] (op_load_lb [one (intVP .u32 a_2.f_Home)] [bytesCk 32 a_2.f_Old] [bytesCk 32 a_2.f_New, one (intVP .i64 a_2.f_Sig.f_Index), one (slVP (dC 32) a_2.f_Sig.f_Parts), one (slVP (dC 32) a_2.f_Sig.f_Others), one (slVP (dC 32) a_2.f_Sig.f_Path)] 1 Tryd.isAgg25 Tryd.sizeOf25 q0 rfl rfl rfl) <| ov [2] (op_fieldAddr_lbm (p := (b1 1)) (n := 32) 0 33 Tryd.underlying37 rfl Tryd.sizeOf25 (by decide) q0 rfl) <| ov [500, 5] (op_load_lb [one (intVP .u32 a_2.f_Home), bytesCk 32 a_2.f_Old] [bytesCk 32 a_2.f_New] [one (intVP .i64 a_2.f_Sig.f_Index), one (slVP (dC 32) a_2.f_Sig.f_Parts), one (slVP (dC 32) a_2.f_Sig.f_Others), one (slVP (dC 32) a_2.f_Sig.f_Path)] 1 Tryd.isAgg25 Tryd.sizeOf25 q0 rfl rfl rfl) <| oc [506, 504, 502, 500] [3] Tryd.call131 (update_Claim_ok hr3) ⟨q0, q1, q2, q3, trivial⟩ <| ov [2] (op_fieldAddr_lbm (p := (b1 1)) (n := 4) 0 65 Tryd.underlying37 rfl Tryd.sizeOf35 (by decide) q0 rfl) <| ov [500, 5] (op_load_lb [one (intVP .u32 a_2.f_Home), bytesCk 32 a_2.f_Old, bytesCk 32 a_2.f_New] [one (intVP .i64 a_2.f_Sig.f_Index), one (slVP (dC 32) a_2.f_Sig.f_Parts), one (slVP (dC 32) a_2.f_Sig.f_Others), one (slVP (dC 32) a_2.f_Sig.f_Path)] [] 1 Tryd.isAgg35 Tryd.sizeOf35 q0 rfl rfl rfl) <| oc [512, 511, 503, 500] [502] Tryd.call133 (keys_Verify_ok hr4) ⟨q0, q1, q2, q3, trivial⟩ <| ov [501] (op_assign q0) .nil) fun _ a w h => ?_
  refine wp_ret ?_
  obtain rfl := Option.some.inj hF
  exact ⟨.inl rfl, ret1 h Tryd.results68 (r_tmp 0 rfl) [1] [(Log_e p_0 r4.2)] rfl rfl rfl⟩

def law10_awake.j1 (x9 : Bool) (x10 : Option O_Log) : Option Bool := some x9
def law10_awake : Option Bool := ((keys_New none ([u8of 1] ++ List.replicate (32 - 1) 0)).bind fun r1 => ((update_Sign r1.2 r1.1 1 ([u8of 2] ++ List.replicate (32 - 1) 0) ([u8of 3] ++ List.replicate (32 - 1) 0)).bind fun r3 => (if (decide (r3.2.2.1 = (0 : Int))) = true then ((keys_Signer_Root r1.1 r3.2.2.2).bind fun r5 => ((update_Right r5.2 r5.1 r3.2.1).bind fun r6 => (if r6.1 = true then ((keys_Signer_Root r1.1 r6.2).bind fun r7 => ((update_Right r7.2 r7.1 (S_api_Update.mk (0 : Int) (List.replicate 32 0) (List.replicate 32 0) (S_api_Sig.mk (0 : Int) [] [] []))).bind fun r8 => law10_awake.j1 (!r8.1) r8.2)) else law10_awake.j1 false r6.2))) else law10_awake.j1 false r3.2.2.2)))
theorem law10_awake_ok {r : Bool} (hF : law10_awake = some r) : CallOk Tryd.prog KG 53 [] [] (fun _ => []) (boolVP r) := by
  refine CallOk.intro 30 Tryd.func53 rfl Tryd.ntmps53 (Nat.le_of_ble_eq_true rfl) ?_
  intro c a w hG hn h
  unfold law10_awake at hF
  change SatL c [] a w at h
  refine regS mixed hn hG h [] (ov [] (op_assign qb) .nil) fun _ a w h => ?_
  replace h := h.snoc Log_nil
  replace h := h.sub [0] (by rfl)
  change SatL c [.res (Log_e (.pointer none) none)] a w at h
  obtain ⟨r1, hr1, hF⟩ := bind_some hF
  refine regS mixed hn hG h [502, 503, 500] (ov [] (op_buildB (xs := [.const (.int .u8 1)]) (ys := [u8of 1]) rfl bu25 ⟨⟨_, qi, (cells_u8 _)⟩, trivial⟩ (by decide) rfl) <| oc [500] [0] Tryd.call64 (keys_New_ok hr1) ⟨(opc (ec _)), q0, trivial⟩ <| ob [] (op_alloc Tryd.zeroValue130 z130) <| og [501, 503] [500] [.res 2 100000 (fun v1_ _ => (lb (v1_) 130 [bytesCk 32 r1.1.f_Seed, one (intVP .i64 r1.1.f_Next), one (slVP (dC 32) r1.1.f_Leaves)]))] (GOk.plain (op_store_w Tryd.sizeOf130 q0 q1 (cells_agg _)) rfl) .nil) fun b2 a w h => ?_
  obtain ⟨r3, hr3, hF⟩ := bind_some hF
  refine regS mixed hn hG h [0, 504, 500, 2, 511, 501] (ov [0, 2] (op_load_w 1 Tryd.isAgg130 Tryd.sizeOf130 q0) <| ov [] (op_buildB (xs := [.const (.int .u8 2)]) (ys := [u8of 2]) rfl bu25 ⟨⟨_, qi, (cells_u8 _)⟩, trivial⟩ (by decide) rfl) <| ov [] (op_buildB (xs := [.const (.int .u8 3)]) (ys := [u8of 3]) rfl bu25 ⟨⟨_, qi, (cells_u8 _)⟩, trivial⟩ (by decide) rfl) <| oc [502, 501, 500] [1] Tryd.call66 (update_Sign_ok hr3) ⟨(opc (ec _)), q0, qi, q1, q2, trivial⟩ <| ov [501] (op_move q0) <| ov [500] (op_extract q0 rfl) <| ov [501] (op_extract q0 rfl) <| ov [502] (op_extract q0 rfl) <| ob [] (op_alloc Tryd.zeroValue130 z130) <| ob [] (op_alloc Tryd.zeroValue37 z37) <| og [503, 506] [502] [.res 8 100000 (fun v1_ _ => (lb (v1_) 130 [bytesCk 32 r3.1.f_Seed, one (intVP .i64 r3.1.f_Next), one (slVP (dC 32) r3.1.f_Leaves)]))] (GOk.plain (op_store_w Tryd.sizeOf130 q0 q1 (cells_agg _)) rfl) <| og [502, 506] [501] [.res 9 100000 (fun v1_ _ => (lb (v1_) 37 [one (intVP .u32 r3.2.1.f_Home), bytesCk 32 r3.2.1.f_Old, bytesCk 32 r3.2.1.f_New, one (intVP .i64 r3.2.1.f_Sig.f_Index), one (slVP (dC 32) r3.2.1.f_Sig.f_Parts), one (slVP (dC 32) r3.2.1.f_Sig.f_Others), one (slVP (dC 32) r3.2.1.f_Sig.f_Path)]))] (GOk.plain (op_store_w Tryd.sizeOf37 q0 q1 (cells_agg _)) rfl) <| ov [506] (op_assign q0) .nil) fun b4 a w h => ?_
  refine wp_seq ?_
  refine wp_cut (fun a w => ∃ (x9 : Bool), ∃ (x10 : Option O_Log), law10_awake.j1 x9 x10 = some r ∧ SatL c [.slot 0 (boolVP x9), .res (Log_e (.pointer none) x10)] a w) ?_ ?_
  · rcases Bool.eq_false_or_eq_true (decide (r3.2.2.1 = (0 : Int))) with hb11 | hb11
    · replace hF := tt_of hb11 hF
      obtain ⟨r5, hr5, hF⟩ := bind_some hF
      obtain ⟨r6, hr6, hF⟩ := bind_some hF
      rcases Bool.eq_false_or_eq_true r6.1 with hb12 | hb12
      · replace hF := tt_of hb12 hF
        obtain ⟨r7, hr7, hF⟩ := bind_some hF
        obtain ⟨r8, hr8, hF⟩ := bind_some hF
        refine reg mixed hn hG h [500, 503] (ov [2] (op_move q0) <| ov [500] (op_bin bin_eql q0 qi) <| ov [500] (op_move q0) <| oe [500, 0, 3] [] (GOk.on_eq hb11 rfl rfl rfl (op_load_w 1 Tryd.isAgg130 Tryd.sizeOf130 q0)) <| oe [501, 500] [4] (GOk.on_eq hb11 rfl rfl rfl (op_call Tryd.call65 (keys_Signer_Root_ok hr5) ⟨q0, (opc (ec _)), trivial⟩)) <| oe [503, 1, 5] [] (GOk.on_eq hb11 rfl rfl rfl (op_load_w 1 Tryd.isAgg37 Tryd.sizeOf37 q0)) <| oe [504, 502, 500] [501] (GOk.on_eq hb11 rfl rfl rfl (op_call Tryd.call68 (update_Right_ok hr6) ⟨(opc (ec _)), q0, q1, trivial⟩)) <| ov [506, 501] (op_pick_t hb11 q0 q1) <| ov [500] (op_move q0) <| oe [500, 0, 3] [] (GOk.on_eq hb12 rfl rfl rfl (op_load_w 1 Tryd.isAgg130 Tryd.sizeOf130 q0)) <| oe [501, 500] [503] (GOk.on_eq hb12 rfl rfl rfl (op_call Tryd.call65 (keys_Signer_Root_ok hr7) ⟨q0, (opc (ec _)), trivial⟩)) <| oe [503] [] (GOk.on_eq hb12 rfl rfl rfl (op_build [] rfl bu37 z37 rfl)) <| oe [504, 502, 500] [501] (GOk.on_eq hb12 rfl rfl rfl (op_call Tryd.call68 (update_Right_ok hr8) ⟨(opc (ec _)), q0, q1, trivial⟩)) <| oe [506, 501] [] (GOk.on_eq hb12 rfl rfl rfl (op_un (un_not _) q0)) <| ov [507, 500] (op_pick_t hb12 q0 q1) <| ov [500] (op_assign q0) .nil) fun _ a w h => ?_
        exact ⟨!r8.1, r8.2, hF, h.sub [0, 1] (by rfl)⟩
      · replace hF := ff_of hb12 hF
        refine reg mixed hn hG h [500, 509] (ov [2] (op_move q0) <| ov [500] (op_bin bin_eql q0 qi) <| ov [500] (op_move q0) <| oe [500, 0, 3] [] (GOk.on_eq hb11 rfl rfl rfl (op_load_w 1 Tryd.isAgg130 Tryd.sizeOf130 q0)) <| oe [501, 500] [4] (GOk.on_eq hb11 rfl rfl rfl (op_call Tryd.call65 (keys_Signer_Root_ok hr5) ⟨q0, (opc (ec _)), trivial⟩)) <| oe [503, 1, 5] [] (GOk.on_eq hb11 rfl rfl rfl (op_load_w 1 Tryd.isAgg37 Tryd.sizeOf37 q0)) <| oe [504, 502, 500] [501] (GOk.on_eq hb11 rfl rfl rfl (op_call Tryd.call68 (update_Right_ok hr6) ⟨(opc (ec _)), q0, q1, trivial⟩)) <| ov [506, 501] (op_pick_t hb11 q0 q1) <| ov [500] (op_move q0) <| oe [500] [] (GOk.off_v (want := true) hb12 rfl rfl rfl rfl) <| oe [501] [] (GOk.off_v (want := true) hb12 rfl rfl rfl rfl) <| oe [502] [] (GOk.off_v (want := true) hb12 rfl rfl rfl rfl) <| oe [503] [] (GOk.off_v (want := true) hb12 rfl rfl rfl rfl) <| oe [504] [] (GOk.off_v (want := true) hb12 rfl rfl rfl rfl) <| ov [505] (op_pick_f hb12 q0 qb) <| ov [500] (op_assign q0) .nil) fun _ a w h => ?_
        exact ⟨false, r6.2, hF, h.sub [0, 1] (by rfl)⟩
    · replace hF := ff_of hb11 hF
      refine reg mixed hn hG h [500, 4] (ov [2] (op_move q0) <| ov [500] (op_bin bin_eql q0 qi) <| ov [500] (op_move q0) <| oe [500] [] (GOk.off_v (want := true) hb11 rfl rfl rfl rfl) <| oe [501] [] (GOk.off_v (want := true) hb11 rfl rfl rfl rfl) <| oe [502] [] (GOk.off_v (want := true) hb11 rfl rfl rfl rfl) <| oe [503] [] (GOk.off_v (want := true) hb11 rfl rfl rfl rfl) <| ov [504] (op_pick_f hb11 q0 qb) <| ov [500] (op_move q0) <| oe [500] [] (GOk.off_v (want := true) rfl rfl rfl rfl rfl) <| oe [501] [] (GOk.off_v (want := true) rfl rfl rfl rfl rfl) <| oe [502] [] (GOk.off_v (want := true) rfl rfl rfl rfl rfl) <| oe [503] [] (GOk.off_v (want := true) rfl rfl rfl rfl rfl) <| oe [504] [] (GOk.off_v (want := true) rfl rfl rfl rfl rfl) <| ov [505] (op_pick_f rfl q0 qb) <| ov [500] (op_assign q0) .nil) fun _ a w h => ?_
      exact ⟨false, r3.2.2.2, hF, h.sub [0, 1] (by rfl)⟩
  · clear h hF
    rintro a w ⟨x9, x10, hF, h⟩
    unfold law10_awake.j1 at hF
    show Code.wp Tryd.prog _ _ a w
    refine wp_ret ?_
    obtain rfl := Option.some.inj hF
    exact ⟨.inl rfl, ret1 h Tryd.results53 (r_tmp 0 rfl) [] [] rfl rfl rfl⟩

def wire_Over (a_0 : List UInt8) : Option O_Rdr := some ⟨a_0, (0 : Int)⟩
theorem wire_Over_ok {a_0 : List UInt8} {r : O_Rdr} (hF : wire_Over a_0 = some r) : CallOk Tryd.prog KG 113 [(strVP a_0)] [] (fun v => [Rdr_e v (some r)]) anyVP := by
  refine CallOk.intro 6 Tryd.func113 rfl Tryd.ntmps113 (Nat.le_of_ble_eq_true rfl) ?_
  intro c a w hG hn h
  unfold wire_Over at hF
  change SatL c [.slot 0 (strVP a_0)] a w at h
  refine regS mixed hn hG h [0] (ov [] (op_assign (opc (ec _))) .nil) fun _ a w h => ?_
  refine regS mixed hn hG h [500, 501] (ov [0] (op_move q0) <| ov [500] (op_build [(0, .tmp 3)] rfl bu258 zo258 ⟨[], [one (strVP [])], [one (intVP .i64 (0 : Int))], [one (strVP a_0)], _, rfl, rfl, rfl, q0, (cells_one (one_str _)), rfl⟩) <| ob [500] (op_box q0 (cells_agg _)) <| og [501] [] [.slot 2 2 100000 (fun v1_ _ => (lpVP v1_ 0))] (fun {β} => (GOk.plain (op_assign (V := (lpVP (β 2) 0)) q0) rfl)) .nil) fun b1 a w h => ?_
  refine wp_ret ?_
  replace h := h.conv 1 rfl (R' := Rdr_e (b1 2) (some ⟨a_0, (0 : Int)⟩)) (Rdr_packo (o := (some ⟨a_0, (0 : Int)⟩)))
  replace h := h.slotc 0 rfl (fun _ _ h => lp_eqv h)
  replace h := h.sub [0, 1] (by rfl)
  change SatL c [.slot 2 (eqVP (b1 2)), .res (Rdr_e (b1 2) (some ⟨a_0, (0 : Int)⟩))] a w at h
  obtain rfl := Option.some.inj hF
  exact ⟨.inl rfl, ret1v (p := (b1 2)) h Tryd.results113 (r_tmp 0 rfl) [1] _ rfl rfl rfl⟩

def wire_Reader_take (L_0 : O_Rdr) (a_1 : Int) : Option ((List UInt8) × O_Rdr) := (if (!decide (L_0.f_e = (0 : Int))) = true then some ([], L_0) else (if (decide ((L_0.f_s.length : Int) < a_1)) = true then some ([], ⟨L_0.f_s, 3⟩) else (if (0 : Int) ≤ 0 ∧ (0 : Int) ≤ a_1 ∧ a_1 ≤ L_0.f_s.length then (if (0 : Int) ≤ a_1 ∧ a_1 ≤ (L_0.f_s.length : Int) ∧ (L_0.f_s.length : Int) ≤ L_0.f_s.length then some ((L_0.f_s.take a_1.toNat).drop (0 : Int).toNat, ⟨(L_0.f_s.take (L_0.f_s.length : Int).toNat).drop a_1.toNat, L_0.f_e⟩) else none) else none)))
theorem wire_Reader_take_ok {p_0 : Value} {L_0 : O_Rdr} {a_1 : Int} {r : (List UInt8) × O_Rdr} (hF : wire_Reader_take L_0 a_1 = some r) : CallOk Tryd.prog KG 171 [(eqVP p_0), (intVP .i64 a_1)] [(Rdr_e p_0 (some L_0))] (fun _ => [Rdr_e p_0 (some r.2)]) (strVP r.1) := by
  refine CallOk.intro 43 Tryd.func171 rfl Tryd.ntmps171 (Nat.le_of_ble_eq_true rfl) ?_
  intro c a w hG hn h
  unfold wire_Reader_take at hF
  change SatL c [.slot 0 (eqVP p_0), .slot 1 (intVP .i64 a_1), .res (Rdr_e p_0 (some L_0))] a w at h
  refine regS mixed hn hG h [0, 1, 2] (ov [] (op_assign (opc (sc _ (by decide)))) .nil) fun _ a w h => ?_
  refine wp_seq ?_
  refine wp_block ?_
  have hp := h.isp 2 rfl (fun Φ f w q => Rdr_lp Φ f w q)
  replace h := h.slotc 0 rfl (V' := lpVP p_0 0) (fun _ _ h => eq_lp h hp)
  replace h := h.sub [0, 1, 2] (by rfl)
  change SatL c [.slot 0 (lpVP p_0 0), .slot 1 (intVP .i64 a_1), .res (lb p_0 258 [one (strVP L_0.f_s), one (intVP .i64 L_0.f_e)])] a w at h
  refine wp_seq ?_
  refine reg mixed hn hG h [0, 1, 500, 2] (ov [0] (op_move q0) <| ov [500] (op_bin (bin_pnil Tryd.underlying197) (lp_ptr q0) (opc (ec _))) <| ov [500] (op_move q0) <| oe [500, 0] [] (GOk.on_eq rfl rfl rfl rfl (op_move q0)) <| oe [501, 500] [] (GOk.on_eq rfl rfl rfl rfl (op_nilCheck q0 (ptr_lp _ _))) <| oe [502, 500] [] (GOk.on_eq rfl rfl rfl rfl (op_fieldAddr_lbm (p := p_0) (n := 1) 0 1 Tryd.underlying258 rfl Tryd.sizeOf61 (by decide) q0 rfl)) <| oe [503, 500, 2] [] (GOk.on_eq rfl rfl rfl rfl (op_load_lb1 [one (strVP L_0.f_s)] [] 1 Tryd.isAgg61 q0 rfl rfl)) <| oe [504, 500] [] (GOk.on_eq rfl rfl rfl rfl (op_bin bin_neq q0 qi)) <| ov [505, 500] (op_pick_f rfl q0 q1) <| ov [500] (op_assign q0) .nil) fun _ a w h => ?_
  replace h := h.conv 3 rfl (R' := Rdr_e p_0 (some L_0)) (Rdr_packo (o := (some L_0)))
  replace h := h.slotc 0 rfl (fun _ _ h => lp_eqv h)
  replace h := h.sub [0, 1, 2, 3] (by rfl)
  change SatL c [.slot 0 (eqVP p_0), .slot 1 (intVP .i64 a_1), .slot 6 (boolVP (!decide (L_0.f_e = (0 : Int)))), .res (Rdr_e p_0 (some L_0))] a w at h
  show Code.wp Tryd.prog _ _ a w
  refine cnd h hF 2 [3] [0, 1, 3] (fun hb1 hF h => ?_) (fun hb1 hF h => ?_)
  · refine regS mixed hn hG h [500, 0] (ov [] (op_assign (opc (sc _ (by decide)))) .nil) fun _ a w h => ?_
    refine wp_ret ?_
    obtain rfl := Option.some.inj hF
    exact ⟨.inl rfl, ret1 h Tryd.results171 (r_tmp 0 rfl) [1] [(Rdr_e p_0 (some L_0))] rfl rfl rfl⟩
  · have hp := h.isp 2 rfl (fun Φ f w q => Rdr_lp Φ f w q)
    replace h := h.slotc 0 rfl (V' := lpVP p_0 0) (fun _ _ h => eq_lp h hp)
    replace h := h.sub [0, 1, 2] (by rfl)
    change SatL c [.slot 0 (lpVP p_0 0), .slot 1 (intVP .i64 a_1), .res (lb p_0 258 [one (strVP L_0.f_s), one (intVP .i64 L_0.f_e)])] a w at h
    refine wp_seq ?_
    refine reg mixed hn hG h [0, 1, 500, 2] (ov [1] (op_move q0) <| ov [0] (op_move q0) <| ov [500] (op_nilCheck q0 (ptr_lp _ _)) <| ov [500] (op_fieldAddr_lbm (p := p_0) (n := 1) 0 0 Tryd.underlying258 rfl Tryd.sizeOf9 (by decide) q0 rfl) <| ov [500, 2] (op_load_lb1 [] [one (intVP .i64 L_0.f_e)] 1 Tryd.isAgg9 q0 rfl rfl) <| ov [500] (op_len_str Tryd.underlying9 q0) <| ov [505, 500] (op_bin bin_gtr q0 q1) <| ov [500] (op_assign q0) .nil) fun _ a w h => ?_
    replace h := h.conv 3 rfl (R' := Rdr_e p_0 (some L_0)) (Rdr_packo (o := (some L_0)))
    replace h := h.slotc 0 rfl (fun _ _ h => lp_eqv h)
    replace h := h.sub [0, 1, 2, 3] (by rfl)
    change SatL c [.slot 0 (eqVP p_0), .slot 1 (intVP .i64 a_1), .slot 16 (boolVP (decide ((L_0.f_s.length : Int) < a_1))), .res (Rdr_e p_0 (some L_0))] a w at h
    show Code.wp Tryd.prog _ _ a w
    refine cnd h hF 2 [0, 3] [0, 1, 3] (fun hb2 hF h => ?_) (fun hb2 hF h => ?_)
    · have hp := h.isp 1 rfl (fun Φ f w q => Rdr_lp Φ f w q)
      replace h := h.slotc 0 rfl (V' := lpVP p_0 0) (fun _ _ h => eq_lp h hp)
      replace h := h.sub [0, 1] (by rfl)
      change SatL c [.slot 0 (lpVP p_0 0), .res (lb p_0 258 [one (strVP L_0.f_s), one (intVP .i64 L_0.f_e)])] a w at h
      refine wp_seq ?_
      refine reg mixed hn hG h [500] (ov [0] (op_move q0) <| ov [500] (op_nilCheck q0 (ptr_lp _ _)) <| ov [500] (op_fieldAddr_lbm (p := p_0) (n := 1) 0 1 Tryd.underlying258 rfl Tryd.sizeOf61 (by decide) q0 rfl) <| ou [500] 1 (op_store_lb [one (strVP L_0.f_s)] [one (intVP .i64 L_0.f_e)] [] [one (intVP .i64 3)] Tryd.sizeOf61 q0 qi (cells_one (one_int _ _)) rfl rfl rfl) .nil) fun _ a w h => ?_
      replace h := h.conv 0 rfl (R' := Rdr_e p_0 (some ⟨L_0.f_s, 3⟩)) (Rdr_packo (o := (some ⟨L_0.f_s, 3⟩)))
      replace h := h.sub [0] (by rfl)
      change SatL c [.res (Rdr_e p_0 (some ⟨L_0.f_s, 3⟩))] a w at h
      show Code.wp Tryd.prog _ _ a w
      refine regS mixed hn hG h [500, 0] (ov [] (op_assign (opc (sc _ (by decide)))) .nil) fun _ a w h => ?_
      refine wp_ret ?_
      obtain rfl := Option.some.inj hF
      exact ⟨.inl rfl, ret1 h Tryd.results171 (r_tmp 0 rfl) [1] [(Rdr_e p_0 (some ⟨L_0.f_s, 3⟩))] rfl rfl rfl⟩
    · refine wp_skip ?_
      show Code.wp Tryd.prog _ _ a w
      have hp := h.isp 2 rfl (fun Φ f w q => Rdr_lp Φ f w q)
      replace h := h.slotc 0 rfl (V' := lpVP p_0 0) (fun _ _ h => eq_lp h hp)
      replace h := h.sub [0, 1, 2] (by rfl)
      change SatL c [.slot 0 (lpVP p_0 0), .slot 1 (intVP .i64 a_1), .res (lb p_0 258 [one (strVP L_0.f_s), one (intVP .i64 L_0.f_e)])] a w at h
      obtain ⟨hv3, hF⟩ := ite_some hF
      refine wp_seq ?_
      refine reg mixed hn hG h [0, 1, 500, 2] (ov [0] (op_move q0) <| ov [500] (op_nilCheck q0 (ptr_lp _ _)) <| ov [500] (op_fieldAddr_lbm (p := p_0) (n := 1) 0 0 Tryd.underlying258 rfl Tryd.sizeOf9 (by decide) q0 rfl) <| ov [500, 2] (op_load_lb1 [] [one (intVP .i64 L_0.f_e)] 1 Tryd.isAgg9 q0 rfl rfl) <| ov [1] (op_move q0) <| ov [501, 500] (op_slice_str (a := 0) (b := a_1) Tryd.underlying9 q0 rfl ⟨_, q1⟩ hv3) <| ov [500] (op_assign q0) .nil) fun _ a w h => ?_
      replace h := h.conv 3 rfl (R' := Rdr_e p_0 (some L_0)) (Rdr_packo (o := (some L_0)))
      replace h := h.slotc 0 rfl (fun _ _ h => lp_eqv h)
      replace h := h.sub [0, 1, 2, 3] (by rfl)
      change SatL c [.slot 0 (eqVP p_0), .slot 1 (intVP .i64 a_1), .slot 5 (strVP ((L_0.f_s.take a_1.toNat).drop (0 : Int).toNat)), .res (Rdr_e p_0 (some L_0))] a w at h
      show Code.wp Tryd.prog _ _ a w
      have hp := h.isp 3 rfl (fun Φ f w q => Rdr_lp Φ f w q)
      replace h := h.slotc 0 rfl (V' := lpVP p_0 0) (fun _ _ h => eq_lp h hp)
      replace h := h.sub [0, 1, 2, 3] (by rfl)
      change SatL c [.slot 0 (lpVP p_0 0), .slot 1 (intVP .i64 a_1), .slot 5 (strVP ((L_0.f_s.take a_1.toNat).drop (0 : Int).toNat)), .res (lb p_0 258 [one (strVP L_0.f_s), one (intVP .i64 L_0.f_e)])] a w at h
      obtain ⟨hv4, hF⟩ := ite_some hF
      refine wp_seq ?_
      refine reg mixed hn hG h [2, 500] (ov [0] (op_move q0) <| ov [0] (op_move q0) <| ov [500] (op_nilCheck q0 (ptr_lp _ _)) <| ov [500] (op_fieldAddr_lbm (p := p_0) (n := 1) 0 0 Tryd.underlying258 rfl Tryd.sizeOf9 (by decide) q0 rfl) <| ov [500, 3] (op_load_lb1 [] [one (intVP .i64 L_0.f_e)] 1 Tryd.isAgg9 q0 rfl rfl) <| ov [1] (op_move q0) <| ov [501, 500] (op_slice_str (a := a_1) (b := (L_0.f_s.length : Int)) Tryd.underlying9 q0 ⟨_, q1⟩ rfl hv4) <| ov [506] (op_nilCheck q0 (ptr_lp _ _)) <| ov [500] (op_fieldAddr_lbm (p := p_0) (n := 1) 0 0 Tryd.underlying258 rfl Tryd.sizeOf9 (by decide) q0 rfl) <| ou [500, 502] 3 (op_store_lb [] [one (strVP L_0.f_s)] [one (intVP .i64 L_0.f_e)] [one (strVP ((L_0.f_s.take (L_0.f_s.length : Int).toNat).drop a_1.toNat))] Tryd.sizeOf9 q0 q1 (cells_one (one_str _)) rfl rfl rfl) .nil) fun _ a w h => ?_
      replace h := h.conv 1 rfl (R' := Rdr_e p_0 (some ⟨(L_0.f_s.take (L_0.f_s.length : Int).toNat).drop a_1.toNat, L_0.f_e⟩)) (Rdr_packo (o := (some ⟨(L_0.f_s.take (L_0.f_s.length : Int).toNat).drop a_1.toNat, L_0.f_e⟩)))
      replace h := h.sub [0, 1] (by rfl)
      change SatL c [.slot 5 (strVP ((L_0.f_s.take a_1.toNat).drop (0 : Int).toNat)), .res (Rdr_e p_0 (some ⟨(L_0.f_s.take (L_0.f_s.length : Int).toNat).drop a_1.toNat, L_0.f_e⟩))] a w at h
      show Code.wp Tryd.prog _ _ a w
      refine regS mixed hn hG h [500, 1] (ov [0] (op_move q0) <| ov [500] (op_assign q0) .nil) fun _ a w h => ?_
      refine wp_ret ?_
      obtain rfl := Option.some.inj hF
      exact ⟨.inl rfl, ret1 h Tryd.results171 (r_tmp 0 rfl) [1] [(Rdr_e p_0 (some ⟨(L_0.f_s.take (L_0.f_s.length : Int).toNat).drop a_1.toNat, L_0.f_e⟩))] rfl rfl rfl⟩

def wire_Reader_number.b1 (r1 : (List UInt8) × O_Rdr) (x4 : Int) (x5 : Int) : Option (Flow (Int × O_Rdr) (Int × Int)) := (if (decide (x5 < (r1.1.length : Int))) = true then (if (0 : Int) ≤ x5 ∧ x5 < r1.1.length then some (.cont (bits .or .u64 (shl .u64 x4 8) (IntKind.wrap .u64 ((r1.1.getD x5.toNat default).toNat)), IntKind.wrap .i64 (x5 + 1))) else none) else some (.brk (x4, x5)))
def wire_Reader_number (L_0 : O_Rdr) (a_1 : Int) : Option (Int × O_Rdr) := ((wire_Reader_take L_0 a_1).bind fun r1 => ((loopN (fun s : Int × Int => wire_Reader_number.b1 r1 s.1 s.2) (((r1.1.length : Int) - 0 : Int).toNat + 2) (0, 0)).bind fun cr => match cr with | .ret r => some r | .next (y16, y17) => some (y16, r1.2)))
theorem wire_Reader_number_ok {p_0 : Value} {L_0 : O_Rdr} {a_1 : Int} {r : Int × O_Rdr} (hF : wire_Reader_number L_0 a_1 = some r) : CallOk Tryd.prog KG 170 [(eqVP p_0), (intVP .i64 a_1)] [(Rdr_e p_0 (some L_0))] (fun _ => [Rdr_e p_0 (some r.2)]) (intVP .u64 r.1) := by
  refine CallOk.intro 24 Tryd.func170 rfl Tryd.ntmps170 (Nat.le_of_ble_eq_true rfl) ?_
  intro c a w hG hn h
  unfold wire_Reader_number at hF
  change SatL c [.slot 0 (eqVP p_0), .slot 1 (intVP .i64 a_1), .res (Rdr_e p_0 (some L_0))] a w at h
  refine regS mixed hn hG h [0, 1, 2] (ov [] (op_assign qi) .nil) fun _ a w h => ?_
  refine regS mixed hn hG h [0, 1, 500, 2] (ov [] (op_assign qi) .nil) fun _ a w h => ?_
  refine wp_seq ?_
  obtain ⟨r1, hr1, hF⟩ := bind_some hF
  refine regS mixed hn hG h [2, 502, 501, 500, 503] (ov [0] (op_move q0) <| ov [1] (op_move q0) <| oc [501, 500] [3] Tryd.call171 (wire_Reader_take_ok hr1) ⟨q0, q1, trivial⟩ <| ov [501] (op_conv_str_sl Tryd.underlying9 Tryd.underlying259 Tryd.underlying5 q0) <| ov [500] (op_len_sl Tryd.underlying259 q0) <| ov [] (op_move qi) .nil) fun _ a w h => ?_
  refine wp_block ?_
  obtain ⟨cr12, hl13, hF⟩ := bind_some hF
  refine wp_mono (wp_loopN (R := Int × O_Rdr) (S := Int × Int) (fun s a w => SatL c [.slot 5 (intVP .u64 s.1), .slot 11 (slVP bC r1.1), .slot 12 (intVP .i64 (r1.1.length : Int)), .slot 13 (intVP .i64 s.2), .res (Rdr_e p_0 (some r1.2))] a w) (fun res e a w => match res with | .next s => e = .exit 0 ∧ SatL c [.slot 5 (intVP .u64 s.1), .res (Rdr_e p_0 (some r1.2))] a w | .ret r => e = .ret ∧ RetOk Tryd.prog Tryd.f170 c (intVP .u64 r.1) (fun _ => [Rdr_e p_0 (some r.2)]) a w) ?_ _ (0, 0) _ _ _ (h.sub [0, 1, 2, 3, 4] (by rfl)) hl13) ?_
  · clear hl13 hF h
    intro s a w o h hF
    obtain ⟨x4, x5⟩ := s
    change wire_Reader_number.b1 r1 x4 x5 = some o at hF
    unfold wire_Reader_number.b1 at hF
    change SatL c [.slot 5 (intVP .u64 x4), .slot 11 (slVP bC r1.1), .slot 12 (intVP .i64 (r1.1.length : Int)), .slot 13 (intVP .i64 x5), .res (Rdr_e p_0 (some r1.2))] a w at h
    refine regS mixed hn hG h [0, 1, 2, 3, 500, 4] (ov [3, 2] (op_bin bin_lss q0 q1) .nil) fun _ a w h => ?_
    refine wp_seq ?_
    refine cnd h hF 4 [0, 1, 2, 3, 5] [0, 1, 2, 3, 5] (fun hb10 hF h => ?_) (fun hb10 hF h => ?_)
    · refine wp_skip ?_
      show Code.wp Tryd.prog _ _ a w
      refine wp_seq ?_
      refine wp_block ?_
      obtain ⟨hv11, hF⟩ := ite_some hF
      refine regS mixed hn hG h [0, 500, 1, 2, 3, 4] (ov [1, 3] (op_indexAddr_sl Tryd.underlying259 Tryd.sizeOf5 lens_bC q0 q1 hv11) <| ov [500] (op_load_pp1 [] Tryd.isAgg5 q0) <| ov [500] (op_assign q0) .nil) fun _ a w h => ?_
      refine reg mixed hn hG h [500, 2, 3, 4, 5] (ov [0] (op_move q0) <| ov [500] (op_bin (bin_shlu rfl) q0 qi) <| ov [1] (op_move q0) <| ov [500] (op_convert_int Tryd.underlying5 Tryd.underlying27 q0) <| ov [502, 500] (op_bin bin_or q0 q1) <| od [500] 0 (op_assign q0) .nil) fun _ a w h => ?_
      show Code.wp Tryd.prog _ _ a w
      refine reg mixed hn hG h [0, 1, 2, 500, 4] (ov [3] (op_bin bin_add q0 qi) <| od [500] 3 (op_move q0) .nil) fun _ a w h => ?_
      obtain rfl := Option.some.inj hF
      exact ⟨rfl, h.sub [0, 1, 2, 3, 4] (by rfl)⟩
    · refine wp_exit ?_
      obtain rfl := Option.some.inj hF
      exact ⟨exit_ne _, rfl, h.sub [0, 4] (by rfl)⟩
  · clear hl13
    intro e a w hq
    cases cr12 with
    | ret r14 =>
      obtain ⟨rfl, hq⟩ := hq
      obtain rfl := Option.some.inj hF
      exact ⟨.inl rfl, hq⟩
    | next s15 =>
      obtain ⟨y16, y17⟩ := s15
      obtain ⟨rfl, h⟩ := hq
      change SatL c [.slot 5 (intVP .u64 y16), .res (Rdr_e p_0 (some r1.2))] a w at h
      refine inBlock_at ?_
      show Code.wp Tryd.prog _ _ a w
      refine regS mixed hn hG h [500, 1] (ov [0] (op_move q0) <| ov [500] (op_assign q0) .nil) fun _ a w h => ?_
      refine wp_ret ?_
      obtain rfl := Option.some.inj hF
      exact ⟨.inl rfl, ret1 h Tryd.results170 (r_tmp 0 rfl) [1] [(Rdr_e p_0 (some r1.2))] rfl rfl rfl⟩

def wire_Reader_Word (L_0 : O_Rdr) : Option (Int × O_Rdr) := ((wire_Reader_number L_0 4).bind fun r1 => some (IntKind.wrap .u32 r1.1, r1.2))
theorem wire_Reader_Word_ok {p_0 : Value} {L_0 : O_Rdr} {r : Int × O_Rdr} (hF : wire_Reader_Word L_0 = some r) : CallOk Tryd.prog KG 114 [(eqVP p_0)] [(Rdr_e p_0 (some L_0))] (fun _ => [Rdr_e p_0 (some r.2)]) (intVP .u32 r.1) := by
  refine CallOk.intro 6 Tryd.func114 rfl Tryd.ntmps114 (Nat.le_of_ble_eq_true rfl) ?_
  intro c a w hG hn h
  unfold wire_Reader_Word at hF
  change SatL c [.slot 0 (eqVP p_0), .res (Rdr_e p_0 (some L_0))] a w at h
  refine regS mixed hn hG h [0, 1] (ov [] (op_assign qi) .nil) fun _ a w h => ?_
  obtain ⟨r1, hr1, hF⟩ := bind_some hF
  refine regS mixed hn hG h [500, 502] (ov [0] (op_move q0) <| oc [500] [1] Tryd.call170 (wire_Reader_number_ok hr1) ⟨q0, qi, trivial⟩ <| ov [501] (op_convert_int Tryd.underlying27 Tryd.underlying22 q0) <| ov [500] (op_assign q0) .nil) fun _ a w h => ?_
  refine wp_ret ?_
  obtain rfl := Option.some.inj hF
  exact ⟨.inl rfl, ret1 h Tryd.results114 (r_tmp 0 rfl) [1] [(Rdr_e p_0 (some r1.2))] rfl rfl rfl⟩

def wire_Reader_Digest (L_0 : O_Rdr) : Option ((List UInt8) × O_Rdr) := ((wire_Reader_take L_0 32).bind fun r3 => some ((List.replicate 32 0).take (0 : Int).toNat ++ r3.1.take (min r3.1.length ((32 : Int).toNat - (0 : Int).toNat)) ++ (List.replicate 32 0).drop ((0 : Int).toNat + (min r3.1.length ((32 : Int).toNat - (0 : Int).toNat))), r3.2))
theorem wire_Reader_Digest_ok {p_0 : Value} {L_0 : O_Rdr} {r : (List UInt8) × O_Rdr} (hF : wire_Reader_Digest L_0 = some r) : CallOk Tryd.prog KG 115 [(eqVP p_0)] [(Rdr_e p_0 (some L_0))] (fun _ => [Rdr_e p_0 (some r.2)]) (aggVP [bytesCk 32 r.1]) := by
  refine CallOk.intro 9 Tryd.func115 rfl Tryd.ntmps115 (Nat.le_of_ble_eq_true rfl) ?_
  intro c a w hG hn h
  unfold wire_Reader_Digest at hF
  change SatL c [.slot 0 (eqVP p_0), .res (Rdr_e p_0 (some L_0))] a w at h
  refine regS mixed hn hG h [0, 501, 1, 500] (ob [] (op_alloc Tryd.zeroValue25 z25) .nil) fun b1 a w h => ?_
  refine regS mixed hn hG h [0, 1, 501, 2, 3, 500] (ob [] (op_alloc Tryd.zeroValue25 z25) .nil) fun b2 a w h => ?_
  obtain ⟨r3, hr3, hF⟩ := bind_some hF
  refine regS mixed hn hG h [1, 2, 4, 500, 502] (ov [2] (op_slice_lb (a := 0) (b := 32) Tryd.underlying25 Tryd.sizeOf5 q0 rfl rfl (by decide)) <| ov [0] (op_move q0) <| oc [500] [3] Tryd.call171 (wire_Reader_take_ok hr3) ⟨q0, qi, trivial⟩ <| oe [503, 501] [5] (GOk.plain (op_copy_str (i := (0 : Int).toNat) [] [] Tryd.underlying259 rfl q0 q1 (by rfl) (by decide) (by decide)) rfl) .nil) fun _ a w h => ?_
  refine regS mixed hn hG h [0, 500, 4] (ov [1, 3] (op_load_w 1 Tryd.isAgg25 Tryd.sizeOf25 q0) <| ou [0, 500] 2 (op_store_w Tryd.sizeOf25 q0 q1 (cells_agg _)) .nil) fun _ a w h => ?_
  refine wp_ret ?_
  obtain rfl := Option.some.inj hF
  exact ⟨.inl rfl, ret1 h Tryd.results115 (r_cell 0 1 rfl rfl Tryd.isAgg25 Tryd.sizeOf25 rfl) [2] [(Rdr_e p_0 (some r3.2))] rfl rfl rfl⟩

def wire_Reader_Fail.j1 (x1 : O_Rdr) : Option O_Rdr := some x1
def wire_Reader_Fail (L_0 : O_Rdr) (a_1 : Int) : Option O_Rdr := (if (decide (L_0.f_e = (0 : Int))) = true then wire_Reader_Fail.j1 ⟨L_0.f_s, a_1⟩ else wire_Reader_Fail.j1 L_0)
theorem wire_Reader_Fail_ok {p_0 : Value} {L_0 : O_Rdr} {a_1 : Int} {r : O_Rdr} (hF : wire_Reader_Fail L_0 a_1 = some r) : CallOk Tryd.prog KG 172 [(eqVP p_0), (intVP .i64 a_1)] [(Rdr_e p_0 (some L_0))] (fun _ => [Rdr_e p_0 (some r)]) (tupVP []) := by
  refine CallOk.intro 17 Tryd.func172 rfl Tryd.ntmps172 (Nat.le_of_ble_eq_true rfl) ?_
  intro c a w hG hn h
  unfold wire_Reader_Fail at hF
  change SatL c [.slot 0 (eqVP p_0), .slot 1 (intVP .i64 a_1), .res (Rdr_e p_0 (some L_0))] a w at h
  have hp := h.isp 2 rfl (fun Φ f w q => Rdr_lp Φ f w q)
  replace h := h.slotc 0 rfl (V' := lpVP p_0 0) (fun _ _ h => eq_lp h hp)
  replace h := h.sub [0, 1, 2] (by rfl)
  change SatL c [.slot 0 (lpVP p_0 0), .slot 1 (intVP .i64 a_1), .res (lb p_0 258 [one (strVP L_0.f_s), one (intVP .i64 L_0.f_e)])] a w at h
  refine wp_seq ?_
  refine reg mixed hn hG h [0, 1, 500, 2] (ov [0] (op_move q0) <| ov [500] (op_bin (bin_pnn Tryd.underlying197) (lp_ptr q0) (opc (ec _))) <| ov [500] (op_move q0) <| oe [500, 0] [] (GOk.on_eq rfl rfl rfl rfl (op_move q0)) <| oe [501, 500] [] (GOk.on_eq rfl rfl rfl rfl (op_nilCheck q0 (ptr_lp _ _))) <| oe [502, 500] [] (GOk.on_eq rfl rfl rfl rfl (op_fieldAddr_lbm (p := p_0) (n := 1) 0 1 Tryd.underlying258 rfl Tryd.sizeOf61 (by decide) q0 rfl)) <| oe [503, 500, 2] [] (GOk.on_eq rfl rfl rfl rfl (op_load_lb1 [one (strVP L_0.f_s)] [] 1 Tryd.isAgg61 q0 rfl rfl)) <| oe [504, 500] [] (GOk.on_eq rfl rfl rfl rfl (op_bin bin_eql q0 qi)) <| ov [505, 500] (op_pick_t rfl q0 q1) .nil) fun _ a w h => ?_
  replace h := h.conv 3 rfl (R' := Rdr_e p_0 (some L_0)) (Rdr_packo (o := (some L_0)))
  replace h := h.slotc 0 rfl (fun _ _ h => lp_eqv h)
  replace h := h.sub [0, 1, 2, 3] (by rfl)
  change SatL c [.slot 0 (eqVP p_0), .slot 1 (intVP .i64 a_1), .slot 12 (boolVP (decide (L_0.f_e = (0 : Int)))), .res (Rdr_e p_0 (some L_0))] a w at h
  show Code.wp Tryd.prog _ _ a w
  refine wp_cut (fun a w => ∃ (x1 : O_Rdr), wire_Reader_Fail.j1 x1 = some r ∧ SatL c [.res (Rdr_e p_0 (some x1))] a w) ?_ ?_
  · refine cnd h hF 2 [0, 1, 3] [3] (fun hb2 hF h => ?_) (fun hb2 hF h => ?_)
    · have hp := h.isp 2 rfl (fun Φ f w q => Rdr_lp Φ f w q)
      replace h := h.slotc 0 rfl (V' := lpVP p_0 0) (fun _ _ h => eq_lp h hp)
      replace h := h.sub [0, 1, 2] (by rfl)
      change SatL c [.slot 0 (lpVP p_0 0), .slot 1 (intVP .i64 a_1), .res (lb p_0 258 [one (strVP L_0.f_s), one (intVP .i64 L_0.f_e)])] a w at h
      refine reg mixed hn hG h [500] (ov [0] (op_move q0) <| ov [1] (op_move q0) <| ov [501] (op_nilCheck q0 (ptr_lp _ _)) <| ov [500] (op_fieldAddr_lbm (p := p_0) (n := 1) 0 1 Tryd.underlying258 rfl Tryd.sizeOf61 (by decide) q0 rfl) <| ou [500, 502] 2 (op_store_lb [one (strVP L_0.f_s)] [one (intVP .i64 L_0.f_e)] [] [one (intVP .i64 a_1)] Tryd.sizeOf61 q0 q1 (cells_one (one_int _ _)) rfl rfl rfl) .nil) fun _ a w h => ?_
      replace h := h.conv 0 rfl (R' := Rdr_e p_0 (some ⟨L_0.f_s, a_1⟩)) (Rdr_packo (o := (some ⟨L_0.f_s, a_1⟩)))
      replace h := h.sub [0] (by rfl)
      change SatL c [.res (Rdr_e p_0 (some ⟨L_0.f_s, a_1⟩))] a w at h
      exact ⟨⟨L_0.f_s, a_1⟩, hF, h.sub [0] (by rfl)⟩
    · refine wp_skip ?_
      exact ⟨L_0, hF, h.sub [0] (by rfl)⟩
  · clear h hF
    rintro a w ⟨x1, hF, h⟩
    unfold wire_Reader_Fail.j1 at hF
    obtain rfl := Option.some.inj hF
    exact ⟨.inr rfl, retn h (rs := []) (Vs := []) Tryd.results172 (by decide) trivial [0] [(Rdr_e p_0 (some x1))] rfl rfl rfl⟩

def wire_Reader_count (L_0 : O_Rdr) (a_1 : Int) : Option (Int × O_Rdr) := ((wire_Reader_number L_0 4).bind fun r1 => (if (decide ((IntKind.wrap .u64 (if a_1 < (0 : Int) then (0 : Int) else a_1)) < r1.1)) = true then ((wire_Reader_Fail r1.2 5).bind fun r3 => some (0, r3)) else some (IntKind.wrap .i64 r1.1, r1.2)))
theorem wire_Reader_count_ok {p_0 : Value} {L_0 : O_Rdr} {a_1 : Int} {r : Int × O_Rdr} (hF : wire_Reader_count L_0 a_1 = some r) : CallOk Tryd.prog KG 210 [(eqVP p_0), (intVP .i64 a_1)] [(Rdr_e p_0 (some L_0))] (fun _ => [Rdr_e p_0 (some r.2)]) (intVP .i64 r.1) := by
  refine CallOk.intro 17 Tryd.func210 rfl Tryd.ntmps210 (Nat.le_of_ble_eq_true rfl) ?_
  intro c a w hG hn h
  unfold wire_Reader_count at hF
  change SatL c [.slot 0 (eqVP p_0), .slot 1 (intVP .i64 a_1), .res (Rdr_e p_0 (some L_0))] a w at h
  refine regS mixed hn hG h [0, 1, 2] (ov [] (op_assign qi) .nil) fun _ a w h => ?_
  obtain ⟨r1, hr1, hF⟩ := bind_some hF
  refine regS mixed hn hG h [0, 1, 500, 501] (ov [0] (op_move q0) <| oc [500] [2] Tryd.call170 (wire_Reader_number_ok hr1) ⟨q0, qi, trivial⟩ <| ov [501] (op_assign q0) .nil) fun _ a w h => ?_
  refine wp_seq ?_
  refine regS mixed hn hG h [0, 2, 500, 3] (ov [2] (op_move q0) <| ov [1] (op_move q0) <| ov [500] (op_max q0 qi) <| ov [500] (op_convert_int Tryd.underlying3 Tryd.underlying27 q0) <| ov [503, 500] (op_bin bin_gtr q0 q1) .nil) fun _ a w h => ?_
  refine cnd h hF 2 [0, 3] [1, 3] (fun hb2 hF h => ?_) (fun hb2 hF h => ?_)
  · obtain ⟨r3, hr3, hF⟩ := bind_some hF
    refine regS mixed hn hG h [500] (ov [0] (op_move q0) <| oc [500] [1] Tryd.call172 (wire_Reader_Fail_ok hr3) ⟨q0, qi, trivial⟩ .nil) fun _ a w h => ?_
    refine regS mixed hn hG h [500, 0] (ov [] (op_assign qi) .nil) fun _ a w h => ?_
    refine wp_ret ?_
    obtain rfl := Option.some.inj hF
    exact ⟨.inl rfl, ret1 h Tryd.results210 (r_tmp 0 rfl) [1] [(Rdr_e p_0 (some r3))] rfl rfl rfl⟩
  · refine wp_skip ?_
    show Code.wp Tryd.prog _ _ a w
    refine regS mixed hn hG h [500, 1] (ov [0] (op_move q0) <| ov [500] (op_convert_int Tryd.underlying27 Tryd.underlying3 q0) <| ov [500] (op_assign q0) .nil) fun _ a w h => ?_
    refine wp_ret ?_
    obtain rfl := Option.some.inj hF
    exact ⟨.inl rfl, ret1 h Tryd.results210 (r_tmp 0 rfl) [1] [(Rdr_e p_0 (some r1.2))] rfl rfl rfl⟩

def wire_Reader_Digests.b1 (x15 : List UInt8) (x16 : List (List UInt8)) : Option (Flow ((List (List UInt8)) × O_Rdr) ((List UInt8) × (List (List UInt8)))) := (if (!decide (x15 = [])) = true then (if x16.length + [(List.replicate 32 0).take (0 : Int).toNat ++ x15.take (min x15.length ((32 : Int).toNat - (0 : Int).toNat)) ++ (List.replicate 32 0).drop ((0 : Int).toNat + (min x15.length ((32 : Int).toNat - (0 : Int).toNat)))].length ≤ mxl ∧ (x16.length + [(List.replicate 32 0).take (0 : Int).toNat ++ x15.take (min x15.length ((32 : Int).toNat - (0 : Int).toNat)) ++ (List.replicate 32 0).drop ((0 : Int).toNat + (min x15.length ((32 : Int).toNat - (0 : Int).toNat)))].length) * 32 ≤ 140737488355328 then (if (0 : Int) ≤ 32 ∧ (32 : Int) ≤ (x15.length : Int) ∧ (x15.length : Int) ≤ x15.length then some (.cont ((x15.take (x15.length : Int).toNat).drop 32, x16 ++ [(List.replicate 32 0).take (0 : Int).toNat ++ x15.take (min x15.length ((32 : Int).toNat - (0 : Int).toNat)) ++ (List.replicate 32 0).drop ((0 : Int).toNat + (min x15.length ((32 : Int).toNat - (0 : Int).toNat)))])) else none) else none) else some (.brk (x15, x16)))
def wire_Reader_Digests (L_0 : O_Rdr) (a_1 : Int) : Option ((List (List UInt8)) × O_Rdr) := ((wire_Reader_count L_0 a_1).bind fun r1 => ((wire_Reader_take r1.2 (IntKind.wrap .i64 (r1.1 * 32))).bind fun r2 => ((loopN (fun s : (List UInt8) × (List (List UInt8)) => wire_Reader_Digests.b1 s.1 s.2) 100000 (r2.1, [])).bind fun cr => match cr with | .ret r => some r | .next (y35, y36) => some (y36, r2.2))))
theorem wire_Reader_Digests_ok {p_0 : Value} {L_0 : O_Rdr} {a_1 : Int} {r : (List (List UInt8)) × O_Rdr} (hF : wire_Reader_Digests L_0 a_1 = some r) : CallOk Tryd.prog KG 173 [(eqVP p_0), (intVP .i64 a_1)] [(Rdr_e p_0 (some L_0))] (fun _ => [Rdr_e p_0 (some r.2)]) (slVP (dC 32) r.1) := by
  refine CallOk.intro 28 Tryd.func173 rfl Tryd.ntmps173 (Nat.le_of_ble_eq_true rfl) ?_
  intro c a w hG hn h
  unfold wire_Reader_Digests at hF
  change SatL c [.slot 0 (eqVP p_0), .slot 1 (intVP .i64 a_1), .res (Rdr_e p_0 (some L_0))] a w at h
  refine regS mixed hn hG h [0, 1, 2] (ov [] (op_assign (opc (ec _))) .nil) fun _ a w h => ?_
  obtain ⟨r1, hr1, hF⟩ := bind_some hF
  refine regS mixed hn hG h [0, 500, 501] (ov [0] (op_move q0) <| ov [1] (op_move q0) <| oc [501, 500] [2] Tryd.call210 (wire_Reader_count_ok hr1) ⟨q0, q1, trivial⟩ <| ov [501] (op_assign q0) .nil) fun _ a w h => ?_
  obtain ⟨r2, hr2, hF⟩ := bind_some hF
  refine regS mixed hn hG h [500, 501] (ov [0] (op_move q0) <| ov [1] (op_move q0) <| ov [500] (op_bin bin_mul q0 qi) <| oc [502, 500] [2] Tryd.call171 (wire_Reader_take_ok hr2) ⟨q0, q1, trivial⟩ <| ov [501] (op_assign q0) .nil) fun _ a w h => ?_
  refine regS mixed hn hG h [0, 500, 1] (ov [] (op_assign (opc (ec _))) .nil) fun _ a w h => ?_
  refine wp_seq ?_
  refine wp_block ?_
  obtain ⟨q9, h⟩ : ∃ q9 : Value, SatL c [.slot 6 (strVP r2.1), .slot 7 (eqVP q9), .res (Rdr_e p_0 (some r2.2)), .res (acc q9 25 32 (dC 32) [])] a w := ⟨.slice none 0 0, (h.nilacc 25 32 (dC 32)).sub [0, 1, 2, 3] (by rfl)⟩
  obtain ⟨cr31, hl32, hF⟩ := bind_some hF
  refine wp_mono (wp_loopN (R := (List (List UInt8)) × O_Rdr) (S := (List UInt8) × (List (List UInt8))) (fun s a w => ∃ q17 : Value, SatL c [.slot 6 (strVP s.1), .slot 7 (eqVP q17), .res (Rdr_e p_0 (some r2.2)), .res (acc q17 25 32 (dC 32) s.2)] a w) (fun res e a w => match res with | .next s => e = .exit 0 ∧ ∃ q17 : Value, SatL c [.slot 7 (eqVP q17), .res (Rdr_e p_0 (some r2.2)), .res (acc q17 25 32 (dC 32) s.2)] a w | .ret r => e = .ret ∧ RetOk Tryd.prog Tryd.f173 c (slVP (dC 32) r.1) (fun _ => [Rdr_e p_0 (some r.2)]) a w) ?_ _ (r2.1, []) _ _ _ ⟨q9, (h.sub [0, 1, 2, 3] (by rfl))⟩ hl32) ?_
  · clear hl32 hF h
    intro s a w o h hF
    obtain ⟨x15, x16⟩ := s
    obtain ⟨q17, h⟩ := h
    change wire_Reader_Digests.b1 x15 x16 = some o at hF
    unfold wire_Reader_Digests.b1 at hF
    change SatL c [.slot 6 (strVP x15), .slot 7 (eqVP q17), .res (Rdr_e p_0 (some r2.2)), .res (acc q17 25 32 (dC 32) x16)] a w at h
    refine wp_seq ?_
    refine regS mixed hn hG h [0, 1, 500, 2, 3] (ov [0] (op_move q0) <| ov [500] (op_bin bin_sneq q0 (opc (sc _ (by decide)))) .nil) fun _ a w h => ?_
    refine cnd h hF 2 [0, 1, 3, 4] [0, 1, 3, 4] (fun hb26 hF h => ?_) (fun hb26 hF h => ?_)
    · refine wp_skip ?_
      show Code.wp Tryd.prog _ _ a w
      refine wp_seq ?_
      refine wp_block ?_
      refine regS mixed hn hG h [0, 1, 501, 2, 3, 500] (ob [] (op_alloc Tryd.zeroValue25 z25) .nil) fun b27 a w h => ?_
      refine regS mixed hn hG h [0, 1, 2, 3, 4, 500] (ov [2] (op_slice_lb (a := 0) (b := 32) Tryd.underlying25 Tryd.sizeOf5 q0 rfl rfl (by decide)) <| ov [0] (op_move q0) <| oe [501, 500] [5] (GOk.plain (op_copy_str (i := (0 : Int).toNat) [] [] Tryd.underlying259 rfl q0 q1 (by rfl) (by decide) (by decide)) rfl) .nil) fun _ a w h => ?_
      obtain ⟨hv28, hF⟩ := ite_some hF
      refine reg mixed hn hG h [0, 500, 3, 501] (ov [1] (op_move q0) <| ov [2, 5] (op_load_w 1 Tryd.isAgg25 Tryd.sizeOf25 q0) <| ov [500] (op_lit (xs := [.tmp 24]) (ys := [(List.replicate 32 0).take (0 : Int).toNat ++ x15.take (min x15.length ((32 : Int).toNat - (0 : Int).toNat)) ++ (List.replicate 32 0).drop ((0 : Int).toNat + (min x15.length ((32 : Int).toNat - (0 : Int).toNat)))]) _ rfl Tryd.underlying26 Tryd.sizeOf25 Tryd.zeroValue25 rfl rfl (by decide) (by decide) ⟨⟨_, q0, (cells_agg _)⟩, trivial⟩ (lens_dC 32)) <| og [502, 500] [4] [.slot 26 3 100000 (fun v1_ _ => (eqVP v1_)), .res 3 100000 (fun v1_ _ => (acc (v1_) 25 32 (dC 32) (x16 ++ [(List.replicate 32 0).take (0 : Int).toNat ++ x15.take (min x15.length ((32 : Int).toNat - (0 : Int).toNat)) ++ (List.replicate 32 0).drop ((0 : Int).toNat + (min x15.length ((32 : Int).toNat - (0 : Int).toNat)))])))] (GOk.plain (op_append (i := Tryd.t25) Tryd.underlying26 Tryd.type25 rfl (lens_dC 32) (by decide) rfl q0 q1 hv28) rfl) <| og [501] [1] [.slot 7 3 100000 (fun v1_ _ => (eqVP v1_))] (fun {β} => (GOk.drop _ (GOk.plain (op_assign (V := (eqVP (β 3))) q0) rfl))) .nil) fun b29 a w h => ?_
      show Code.wp Tryd.prog _ _ a w
      obtain ⟨hv30, hF⟩ := ite_some hF
      refine reg mixed hn hG h [500, 1, 2, 3] (ov [0] (op_move q0) <| ov [500] (op_slice_str (a := 32) (b := (x15.length : Int)) Tryd.underlying9 q0 ⟨_, qi⟩ rfl hv30) <| od [500] 0 (op_assign q0) .nil) fun _ a w h => ?_
      obtain rfl := Option.some.inj hF
      exact ⟨rfl, (b29 3), h.sub [0, 1, 2, 3] (by rfl)⟩
    · refine wp_exit ?_
      obtain rfl := Option.some.inj hF
      exact ⟨exit_ne _, rfl, q17, h.sub [1, 2, 3] (by rfl)⟩
  · clear hl32
    intro e a w hq
    cases cr31 with
    | ret r33 =>
      obtain ⟨rfl, hq⟩ := hq
      obtain rfl := Option.some.inj hF
      exact ⟨.inl rfl, hq⟩
    | next s34 =>
      obtain ⟨y35, y36⟩ := s34
      obtain ⟨rfl, q17, h⟩ := hq
      change SatL c [.slot 7 (eqVP q17), .res (Rdr_e p_0 (some r2.2)), .res (acc q17 25 32 (dC 32) y36)] a w at h
      refine inBlock_at ?_
      show Code.wp Tryd.prog _ _ a w
      refine regS mixed hn hG h [500, 1, 2] (ov [0] (op_move q0) <| ov [500] (op_assign q0) .nil) fun _ a w h => ?_
      refine wp_ret ?_
      obtain rfl := Option.some.inj hF
      exact ⟨.inl rfl, ret1 h Tryd.results173 (r_acc 0 2 rfl rfl) [1] [(Rdr_e p_0 (some r2.2))] rfl rfl rfl⟩

def wire_Reader_Sig.j1 (r2 : Int × O_Rdr) (x4 : O_Rdr) : Option (S_api_Sig × O_Rdr) := ((wire_Reader_Digests x4 32).bind fun r6 => ((wire_Reader_Digests r6.2 32).bind fun r7 => ((wire_Reader_Digests r7.2 32).bind fun r8 => (if (!decide (r8.2.f_e = (0 : Int))) = true then some ((S_api_Sig.mk (0 : Int) [] [] []), r8.2) else some ((S_api_Sig.mk (IntKind.wrap .i64 r2.1) r6.1 r7.1 r8.1), r8.2)))))
def wire_Reader_Sig (L_0 : O_Rdr) : Option (S_api_Sig × O_Rdr) := ((wire_Reader_Word L_0).bind fun r2 => (if (decide ((2147483647 : Int) < r2.1)) = true then ((wire_Reader_Fail r2.2 8).bind fun r11 => wire_Reader_Sig.j1 r2 r11) else wire_Reader_Sig.j1 r2 r2.2))
theorem wire_Reader_Sig_ok {p_0 : Value} {L_0 : O_Rdr} {r : S_api_Sig × O_Rdr} (hF : wire_Reader_Sig L_0 = some r) : CallOk Tryd.prog KG 116 [(eqVP p_0)] [(Rdr_e p_0 (some L_0))] (fun _ => [Rdr_e p_0 (some r.2)]) (aggVP [one (intVP .i64 r.1.f_Index), one (slVP (dC 32) r.1.f_Parts), one (slVP (dC 32) r.1.f_Others), one (slVP (dC 32) r.1.f_Path)]) := by
  refine CallOk.intro 34 Tryd.func116 rfl Tryd.ntmps116 (Nat.le_of_ble_eq_true rfl) ?_
  intro c a w hG hn h
  unfold wire_Reader_Sig at hF
  change SatL c [.slot 0 (eqVP p_0), .res (Rdr_e p_0 (some L_0))] a w at h
  refine regS mixed hn hG h [0, 501, 1, 500] (ob [] (op_alloc Tryd.zeroValue35 z35) .nil) fun b1 a w h => ?_
  obtain ⟨r2, hr2, hF⟩ := bind_some hF
  refine regS mixed hn hG h [0, 1, 500, 3, 501] (ov [0] (op_move q0) <| oc [500] [2] Tryd.call114 (wire_Reader_Word_ok hr2) ⟨q0, trivial⟩ <| ov [501] (op_assign q0) .nil) fun _ a w h => ?_
  refine wp_seq ?_
  refine regS mixed hn hG h [0, 1, 2, 500, 3, 4] (ov [2] (op_move q0) <| ov [500] (op_bin bin_gtr q0 qi) .nil) fun _ a w h => ?_
  refine wp_cut (fun a w => ∃ (x4 : O_Rdr), wire_Reader_Sig.j1 r2 x4 = some r ∧ SatL c [.slot 0 (eqVP p_0), .slot 2 (lpVP (b1 0) 0), .slot 3 (intVP .u32 r2.1), .res (lb (b1 0) 35 [one (intVP .i64 ((S_api_Sig.mk (0 : Int) [] [] []).f_Index)), one (slVP (dC 32) ((S_api_Sig.mk (0 : Int) [] [] []).f_Parts)), one (slVP (dC 32) ((S_api_Sig.mk (0 : Int) [] [] []).f_Others)), one (slVP (dC 32) ((S_api_Sig.mk (0 : Int) [] [] []).f_Path))]), .res (Rdr_e p_0 (some x4))] a w) ?_ ?_
  · refine cnd h hF 3 [0, 1, 2, 4, 5] [0, 1, 2, 4, 5] (fun hb10 hF h => ?_) (fun hb10 hF h => ?_)
    · obtain ⟨r11, hr11, hF⟩ := bind_some hF
      refine reg mixed hn hG h [0, 1, 2, 3, 500] (ov [0] (op_move q0) <| oc [500] [4] Tryd.call172 (wire_Reader_Fail_ok hr11) ⟨q0, qi, trivial⟩ .nil) fun _ a w h => ?_
      exact ⟨r11, hF, h.sub [0, 1, 2, 3, 4] (by rfl)⟩
    · refine wp_skip ?_
      exact ⟨r2.2, hF, h.sub [0, 1, 2, 3, 4] (by rfl)⟩
  · clear h hF
    rintro a w ⟨x4, hF, h⟩
    unfold wire_Reader_Sig.j1 at hF
    show Code.wp Tryd.prog _ _ a w
    refine regS mixed hn hG h [0, 1, 502, 3, 4, 500] (ov [2] (op_move q0) <| ov [500] (op_convert_int Tryd.underlying22 Tryd.underlying3 q0) <| ov [500] (op_build [(0, .tmp 12)] rfl bu35 z35 ⟨[], [one (intVP .i64 (0 : Int))], [one (slVP (dC 32) []), one (slVP (dC 32) []), one (slVP (dC 32) [])], [one (intVP .i64 (IntKind.wrap .i64 r2.1))], _, rfl, rfl, rfl, q0, (cells_one (one_int _ _)), rfl⟩) <| ob [] (op_alloc Tryd.zeroValue35 z35) <| og [501, 502] [500] [.res 3 100000 (fun v1_ _ => (lb (v1_) 35 [one (intVP .i64 (IntKind.wrap .i64 r2.1)), one (slVP (dC 32) []), one (slVP (dC 32) []), one (slVP (dC 32) [])]))] (GOk.plain (op_store_w Tryd.sizeOf35 q0 q1 (cells_agg _)) rfl) .nil) fun b5 a w h => ?_
    obtain ⟨r6, hr6, hF⟩ := bind_some hF
    refine regS mixed hn hG h [0, 1, 2, 3, 500, 502] (ov [0] (op_move q0) <| oc [500] [4] Tryd.call173 (wire_Reader_Digests_ok hr6) ⟨q0, qi, trivial⟩ <| ov [2] (op_fieldAddr_lbm (p := (b5 3)) (n := 1) 0 1 Tryd.underlying35 rfl Tryd.sizeOf26 (by decide) q0 rfl) <| ou [500, 502] 5 (op_store_lb [one (intVP .i64 (IntKind.wrap .i64 r2.1))] [one (slVP (dC 32) [])] [one (slVP (dC 32) []), one (slVP (dC 32) [])] [one (slVP (dC 32) r6.1)] Tryd.sizeOf26 q0 q1 (cells_one (one_sl _ _)) rfl rfl rfl) .nil) fun _ a w h => ?_
    obtain ⟨r7, hr7, hF⟩ := bind_some hF
    refine regS mixed hn hG h [0, 1, 2, 3, 500, 502] (ov [0] (op_move q0) <| oc [500] [5] Tryd.call173 (wire_Reader_Digests_ok hr7) ⟨q0, qi, trivial⟩ <| ov [2] (op_fieldAddr_lbm (p := (b5 3)) (n := 1) 0 2 Tryd.underlying35 rfl Tryd.sizeOf26 (by decide) q0 rfl) <| ou [500, 502] 4 (op_store_lb [one (intVP .i64 (IntKind.wrap .i64 r2.1)), one (slVP (dC 32) r6.1)] [one (slVP (dC 32) [])] [one (slVP (dC 32) [])] [one (slVP (dC 32) r7.1)] Tryd.sizeOf26 q0 q1 (cells_one (one_sl _ _)) rfl rfl rfl) .nil) fun _ a w h => ?_
    obtain ⟨r8, hr8, hF⟩ := bind_some hF
    refine regS mixed hn hG h [0, 1, 2, 3, 500, 502] (ov [0] (op_move q0) <| oc [500] [5] Tryd.call173 (wire_Reader_Digests_ok hr8) ⟨q0, qi, trivial⟩ <| ov [2] (op_fieldAddr_lbm (p := (b5 3)) (n := 1) 0 3 Tryd.underlying35 rfl Tryd.sizeOf26 (by decide) q0 rfl) <| ou [500, 502] 4 (op_store_lb [one (intVP .i64 (IntKind.wrap .i64 r2.1)), one (slVP (dC 32) r6.1), one (slVP (dC 32) r7.1)] [one (slVP (dC 32) [])] [] [one (slVP (dC 32) r8.1)] Tryd.sizeOf26 q0 q1 (cells_one (one_sl _ _)) rfl rfl rfl) .nil) fun _ a w h => ?_
    refine wp_seq ?_
    have hp := h.isp 5 rfl (fun Φ f w q => Rdr_lp Φ f w q)
    replace h := h.slotc 0 rfl (V' := lpVP p_0 0) (fun _ _ h => eq_lp h hp)
    replace h := h.sub [0, 1, 2, 3, 4, 5] (by rfl)
    change SatL c [.slot 0 (lpVP p_0 0), .slot 2 (lpVP (b1 0) 0), .slot 4 (lpVP (b5 3) 0), .res (lb (b1 0) 35 [one (intVP .i64 ((S_api_Sig.mk (0 : Int) [] [] []).f_Index)), one (slVP (dC 32) ((S_api_Sig.mk (0 : Int) [] [] []).f_Parts)), one (slVP (dC 32) ((S_api_Sig.mk (0 : Int) [] [] []).f_Others)), one (slVP (dC 32) ((S_api_Sig.mk (0 : Int) [] [] []).f_Path))]), .res (lb (b5 3) 35 [one (intVP .i64 (IntKind.wrap .i64 r2.1)), one (slVP (dC 32) r6.1), one (slVP (dC 32) r7.1), one (slVP (dC 32) r8.1)]), .res (lb p_0 258 [one (strVP r8.2.f_s), one (intVP .i64 r8.2.f_e)])] a w at h
    refine wp_seq ?_
    refine reg mixed hn hG h [1, 2, 500, 3, 4, 5] (ov [0] (op_move q0) <| ov [500] (op_bin (bin_pnil Tryd.underlying197) (lp_ptr q0) (opc (ec _))) <| ov [500] (op_move q0) <| oe [500, 0] [] (GOk.on_eq rfl rfl rfl rfl (op_move q0)) <| oe [501, 500] [] (GOk.on_eq rfl rfl rfl rfl (op_nilCheck q0 (ptr_lp _ _))) <| oe [502, 500] [] (GOk.on_eq rfl rfl rfl rfl (op_fieldAddr_lbm (p := p_0) (n := 1) 0 1 Tryd.underlying258 rfl Tryd.sizeOf61 (by decide) q0 rfl)) <| oe [503, 500, 5] [] (GOk.on_eq rfl rfl rfl rfl (op_load_lb1 [one (strVP r8.2.f_s)] [] 1 Tryd.isAgg61 q0 rfl rfl)) <| oe [504, 500] [] (GOk.on_eq rfl rfl rfl rfl (op_bin bin_neq q0 qi)) <| ov [505, 500] (op_pick_f rfl q0 q1) .nil) fun _ a w h => ?_
    replace h := h.conv 5 rfl (R' := Rdr_e p_0 (some r8.2)) (Rdr_packo (o := (some r8.2)))
    replace h := h.sub [0, 1, 2, 3, 4, 5] (by rfl)
    change SatL c [.slot 2 (lpVP (b1 0) 0), .slot 4 (lpVP (b5 3) 0), .slot 31 (boolVP (!decide (r8.2.f_e = (0 : Int)))), .res (lb (b1 0) 35 [one (intVP .i64 ((S_api_Sig.mk (0 : Int) [] [] []).f_Index)), one (slVP (dC 32) ((S_api_Sig.mk (0 : Int) [] [] []).f_Parts)), one (slVP (dC 32) ((S_api_Sig.mk (0 : Int) [] [] []).f_Others)), one (slVP (dC 32) ((S_api_Sig.mk (0 : Int) [] [] []).f_Path))]), .res (lb (b5 3) 35 [one (intVP .i64 (IntKind.wrap .i64 r2.1)), one (slVP (dC 32) r6.1), one (slVP (dC 32) r7.1), one (slVP (dC 32) r8.1)]), .res (Rdr_e p_0 (some r8.2))] a w at h
    show Code.wp Tryd.prog _ _ a w
    refine cnd h hF 2 [0, 3, 5] [0, 1, 3, 4, 5] (fun hb9 hF h => ?_) (fun hb9 hF h => ?_)
    · refine regS mixed hn hG h [0, 500, 2] (ov [] (op_build [] rfl bu35 z35 rfl) <| ou [0, 500] 1 (op_store_w Tryd.sizeOf35 q0 q1 (cells_agg _)) .nil) fun _ a w h => ?_
      refine wp_ret ?_
      obtain rfl := Option.some.inj hF
      exact ⟨.inl rfl, ret1 h Tryd.results116 (r_cell 0 1 rfl rfl Tryd.isAgg35 Tryd.sizeOf35 rfl) [2] [(Rdr_e p_0 (some r8.2))] rfl rfl rfl⟩
    · refine wp_skip ?_
      show Code.wp Tryd.prog _ _ a w
      refine regS mixed hn hG h [0, 500, 4] (ov [1, 3] (op_load_w 1 Tryd.isAgg35 Tryd.sizeOf35 q0) <| ou [0, 500] 2 (op_store_w Tryd.sizeOf35 q0 q1 (cells_agg _)) .nil) fun _ a w h => ?_
      refine wp_ret ?_
      obtain rfl := Option.some.inj hF
      exact ⟨.inl rfl, ret1 h Tryd.results116 (r_cell 0 1 rfl rfl Tryd.isAgg35 Tryd.sizeOf35 rfl) [2] [(Rdr_e p_0 (some r8.2))] rfl rfl rfl⟩

def wire_Reader_End.j1 (L_0 : O_Rdr) (x2 : Bool) : Option (Int × O_Rdr) := (if x2 = true then some (4, L_0) else some (L_0.f_e, L_0))
def wire_Reader_End (L_0 : O_Rdr) : Option (Int × O_Rdr) := (if (decide (L_0.f_e = (0 : Int))) = true then wire_Reader_End.j1 L_0 (!decide (L_0.f_s = [])) else wire_Reader_End.j1 L_0 false)
theorem wire_Reader_End_ok {p_0 : Value} {L_0 : O_Rdr} {r : Int × O_Rdr} (hF : wire_Reader_End L_0 = some r) : CallOk Tryd.prog KG 117 [(eqVP p_0)] [(Rdr_e p_0 (some L_0))] (fun _ => [Rdr_e p_0 (some r.2)]) (intVP .i64 r.1) := by
  refine CallOk.intro 23 Tryd.func117 rfl Tryd.ntmps117 (Nat.le_of_ble_eq_true rfl) ?_
  intro c a w hG hn h
  unfold wire_Reader_End at hF
  change SatL c [.slot 0 (eqVP p_0), .res (Rdr_e p_0 (some L_0))] a w at h
  refine regS mixed hn hG h [0, 1] (ov [] (op_assign qi) .nil) fun _ a w h => ?_
  refine wp_seq ?_
  refine wp_block ?_
  have hp := h.isp 1 rfl (fun Φ f w q => Rdr_lp Φ f w q)
  replace h := h.slotc 0 rfl (V' := lpVP p_0 0) (fun _ _ h => eq_lp h hp)
  replace h := h.sub [0, 1] (by rfl)
  change SatL c [.slot 0 (lpVP p_0 0), .res (lb p_0 258 [one (strVP L_0.f_s), one (intVP .i64 L_0.f_e)])] a w at h
  refine wp_seq ?_
  refine reg mixed hn hG h [0, 500, 1] (ov [0] (op_move q0) <| ov [500] (op_bin (bin_pnil Tryd.underlying197) (lp_ptr q0) (opc (ec _))) <| ov [500] (op_assign q0) .nil) fun _ a w h => ?_
  replace h := h.conv 2 rfl (R' := Rdr_e p_0 (some L_0)) (Rdr_packo (o := (some L_0)))
  replace h := h.slotc 0 rfl (fun _ _ h => lp_eqv h)
  replace h := h.sub [0, 1, 2] (by rfl)
  change SatL c [.slot 0 (eqVP p_0), .slot 3 (boolVP false), .res (Rdr_e p_0 (some L_0))] a w at h
  show Code.wp Tryd.prog _ _ a w
  refine cond_L h 1 rfl (fun hb1 => ?_) (fun hb1 => ?_)
  · cases hb1
  · skip
    replace h := h.sel [0, 2]
    have hp := h.isp 1 rfl (fun Φ f w q => Rdr_lp Φ f w q)
    replace h := h.slotc 0 rfl (V' := lpVP p_0 0) (fun _ _ h => eq_lp h hp)
    replace h := h.sub [0, 1] (by rfl)
    change SatL c [.slot 0 (lpVP p_0 0), .res (lb p_0 258 [one (strVP L_0.f_s), one (intVP .i64 L_0.f_e)])] a w at h
    refine wp_seq ?_
    refine wp_cut (fun a w => ∃ (x2 : Bool), wire_Reader_End.j1 L_0 x2 = some r ∧ SatL c [.slot 0 (eqVP p_0), .slot 6 (boolVP x2), .res (Rdr_e p_0 (some L_0))] a w) ?_ ?_
    · rcases Bool.eq_false_or_eq_true (decide (L_0.f_e = (0 : Int))) with hb4 | hb4
      · replace hF := tt_of hb4 hF
        refine reg mixed hn hG h [0, 500, 1] (ov [0] (op_move q0) <| ov [500] (op_nilCheck q0 (ptr_lp _ _)) <| ov [500] (op_fieldAddr_lbm (p := p_0) (n := 1) 0 1 Tryd.underlying258 rfl Tryd.sizeOf61 (by decide) q0 rfl) <| ov [500, 1] (op_load_lb1 [one (strVP L_0.f_s)] [] 1 Tryd.isAgg61 q0 rfl rfl) <| ov [500] (op_bin bin_eql q0 qi) <| ov [500] (op_move q0) <| oe [500, 0] [] (GOk.on_eq hb4 rfl rfl rfl (op_move q0)) <| oe [501, 500] [] (GOk.on_eq hb4 rfl rfl rfl (op_nilCheck q0 (ptr_lp _ _))) <| oe [502, 500] [] (GOk.on_eq hb4 rfl rfl rfl (op_fieldAddr_lbm (p := p_0) (n := 1) 0 0 Tryd.underlying258 rfl Tryd.sizeOf9 (by decide) q0 rfl)) <| oe [503, 500, 1] [] (GOk.on_eq hb4 rfl rfl rfl (op_load_lb1 [] [one (intVP .i64 L_0.f_e)] 1 Tryd.isAgg9 q0 rfl rfl)) <| oe [504, 500] [] (GOk.on_eq hb4 rfl rfl rfl (op_bin bin_sneq q0 (opc (sc _ (by decide))))) <| ov [505, 500] (op_pick_t hb4 q0 q1) <| ov [500] (op_assign q0) .nil) fun _ a w h => ?_
        replace h := h.conv 2 rfl (R' := Rdr_e p_0 (some L_0)) (Rdr_packo (o := (some L_0)))
        replace h := h.slotc 0 rfl (fun _ _ h => lp_eqv h)
        replace h := h.sub [0, 1, 2] (by rfl)
        change SatL c [.slot 0 (eqVP p_0), .slot 6 (boolVP (!decide (L_0.f_s = []))), .res (Rdr_e p_0 (some L_0))] a w at h
        exact ⟨!decide (L_0.f_s = []), hF, h.sub [0, 1, 2] (by rfl)⟩
      · replace hF := ff_of hb4 hF
        refine reg mixed hn hG h [0, 500, 1] (ov [0] (op_move q0) <| ov [500] (op_nilCheck q0 (ptr_lp _ _)) <| ov [500] (op_fieldAddr_lbm (p := p_0) (n := 1) 0 1 Tryd.underlying258 rfl Tryd.sizeOf61 (by decide) q0 rfl) <| ov [500, 1] (op_load_lb1 [one (strVP L_0.f_s)] [] 1 Tryd.isAgg61 q0 rfl rfl) <| ov [500] (op_bin bin_eql q0 qi) <| ov [500] (op_move q0) <| oe [500] [] (GOk.off_v (want := true) hb4 rfl rfl rfl rfl) <| oe [501] [] (GOk.off_v (want := true) hb4 rfl rfl rfl rfl) <| oe [502] [] (GOk.off_v (want := true) hb4 rfl rfl rfl rfl) <| oe [503] [] (GOk.off_v (want := true) hb4 rfl rfl rfl rfl) <| oe [504] [] (GOk.off_v (want := true) hb4 rfl rfl rfl rfl) <| ov [505] (op_pick_f hb4 q0 qb) <| ov [500] (op_assign q0) .nil) fun _ a w h => ?_
        replace h := h.conv 2 rfl (R' := Rdr_e p_0 (some L_0)) (Rdr_packo (o := (some L_0)))
        replace h := h.slotc 0 rfl (fun _ _ h => lp_eqv h)
        replace h := h.sub [0, 1, 2] (by rfl)
        change SatL c [.slot 0 (eqVP p_0), .slot 6 (boolVP false), .res (Rdr_e p_0 (some L_0))] a w at h
        exact ⟨false, hF, h.sub [0, 1, 2] (by rfl)⟩
    · clear h hF
      rintro a w ⟨x2, hF, h⟩
      unfold wire_Reader_End.j1 at hF
      show Code.wp Tryd.prog _ _ a w
      refine cnd h hF 1 [2] [0, 2] (fun hb3 hF h => ?_) (fun hb3 hF h => ?_)
      · refine regS mixed hn hG h [500, 0] (ov [] (op_assign qi) .nil) fun _ a w h => ?_
        refine wp_ret ?_
        obtain rfl := Option.some.inj hF
        exact ⟨.inl rfl, ret1 h Tryd.results117 (r_tmp 0 rfl) [1] [(Rdr_e p_0 (some L_0))] rfl rfl rfl⟩
      · refine wp_skip ?_
        show Code.wp Tryd.prog _ _ a w
        have hp := h.isp 1 rfl (fun Φ f w q => Rdr_lp Φ f w q)
        replace h := h.slotc 0 rfl (V' := lpVP p_0 0) (fun _ _ h => eq_lp h hp)
        replace h := h.sub [0, 1] (by rfl)
        change SatL c [.slot 0 (lpVP p_0 0), .res (lb p_0 258 [one (strVP L_0.f_s), one (intVP .i64 L_0.f_e)])] a w at h
        refine wp_seq ?_
        refine reg mixed hn hG h [500, 1] (ov [0] (op_move q0) <| ov [500] (op_nilCheck q0 (ptr_lp _ _)) <| ov [500] (op_fieldAddr_lbm (p := p_0) (n := 1) 0 1 Tryd.underlying258 rfl Tryd.sizeOf61 (by decide) q0 rfl) <| ov [500, 1] (op_load_lb1 [one (strVP L_0.f_s)] [] 1 Tryd.isAgg61 q0 rfl rfl) <| ov [500] (op_assign q0) .nil) fun _ a w h => ?_
        replace h := h.conv 1 rfl (R' := Rdr_e p_0 (some L_0)) (Rdr_packo (o := (some L_0)))
        replace h := h.sub [0, 1] (by rfl)
        change SatL c [.slot 2 (intVP .i64 L_0.f_e), .res (Rdr_e p_0 (some L_0))] a w at h
        show Code.wp Tryd.prog _ _ a w
        refine wp_ret ?_
        obtain rfl := Option.some.inj hF
        exact ⟨.inl rfl, ret1 h Tryd.results117 (r_tmp 0 rfl) [1] [(Rdr_e p_0 (some L_0))] rfl rfl rfl⟩

def update_Read (a_0 : List UInt8) : Option (S_api_Update × Int) := ((wire_Over a_0).bind fun r2 => ((wire_Reader_Word r2).bind fun r4 => ((wire_Reader_Digest r4.2).bind fun r5 => ((wire_Reader_Digest r5.2).bind fun r6 => ((wire_Reader_Sig r6.2).bind fun r7 => ((wire_Reader_End r7.2).bind fun r9 => (if (!decide (r9.1 = (0 : Int))) = true then some ((S_api_Update.mk (0 : Int) (List.replicate 32 0) (List.replicate 32 0) (S_api_Sig.mk (0 : Int) [] [] [])), r9.1) else some ((S_api_Update.mk r4.1 r5.1 r6.1 r7.1), 0))))))))
theorem update_Read_ok {a_0 : List UInt8} {r : S_api_Update × Int} (hF : update_Read a_0 = some r) : CallOk Tryd.prog KG 55 [(strVP a_0)] [] (fun _ => []) (tupVP [(aggVP [one (intVP .u32 r.1.f_Home), bytesCk 32 r.1.f_Old, bytesCk 32 r.1.f_New, one (intVP .i64 r.1.f_Sig.f_Index), one (slVP (dC 32) r.1.f_Sig.f_Parts), one (slVP (dC 32) r.1.f_Sig.f_Others), one (slVP (dC 32) r.1.f_Sig.f_Path)]), (intVP .i64 r.2)]) := by
  refine CallOk.intro 25 Tryd.func55 rfl Tryd.ntmps55 (Nat.le_of_ble_eq_true rfl) ?_
  intro c a w hG hn h
  unfold update_Read at hF
  change SatL c [.slot 0 (strVP a_0)] a w at h
  refine regS mixed hn hG h [0, 502, 501] (ob [] (op_alloc Tryd.zeroValue37 z37) <| ov [] (op_assign qi) .nil) fun b1 a w h => ?_
  obtain ⟨r2, hr2, hF⟩ := bind_some hF
  refine regS mixed hn hG h [1, 500, 2, 501] (ov [0] (op_move q0) <| og [500] [] [.slot 8 1 100000 (fun v1_ _ => (eqVP v1_)), .res 1 100000 (fun v1_ _ => (Rdr_e (v1_) (some r2)))] (GOk.plain (op_callv Tryd.call113 (wire_Over_ok hr2) ⟨q0, trivial⟩) rfl) <| og [501] [] [.slot 4 1 100000 (fun v1_ _ => (eqVP v1_))] (fun {β} => (GOk.plain (op_assign (V := (eqVP (β 1))) q0) rfl)) .nil) fun b3 a w h => ?_
  obtain ⟨r4, hr4, hF⟩ := bind_some hF
  obtain ⟨r5, hr5, hF⟩ := bind_some hF
  obtain ⟨r6, hr6, hF⟩ := bind_some hF
  obtain ⟨r7, hr7, hF⟩ := bind_some hF
  refine regS mixed hn hG h [0, 1, 502, 2, 504, 500] (ov [1] (op_move q0) <| oc [500] [3] Tryd.call114 (wire_Reader_Word_ok hr4) ⟨q0, trivial⟩ <| ov [1] (op_move q0) <| oc [500] [501] Tryd.call115 (wire_Reader_Digest_ok hr5) ⟨q0, trivial⟩ <| ov [1] (op_move q0) <| oc [500] [501] Tryd.call115 (wire_Reader_Digest_ok hr6) ⟨q0, trivial⟩ <| ov [1] (op_move q0) <| oc [500] [501] Tryd.call116 (wire_Reader_Sig_ok hr7) ⟨q0, trivial⟩ <| ov [510, 507, 504, 501] (op_build [(0, .tmp 10), (1, .tmp 12), (2, .tmp 14), (3, .tmp 16)] rfl bu37 z37 ⟨[], [one (intVP .u32 (0 : Int))], [bytesCk 32 (List.replicate 32 0), bytesCk 32 (List.replicate 32 0), one (intVP .i64 ((S_api_Sig.mk (0 : Int) [] [] []).f_Index)), one (slVP (dC 32) ((S_api_Sig.mk (0 : Int) [] [] []).f_Parts)), one (slVP (dC 32) ((S_api_Sig.mk (0 : Int) [] [] []).f_Others)), one (slVP (dC 32) ((S_api_Sig.mk (0 : Int) [] [] []).f_Path))], [one (intVP .u32 r4.1)], _, rfl, rfl, rfl, q0, (cells_one (one_int _ _)), ⟨[one (intVP .u32 r4.1)], [bytesCk 32 (List.replicate 32 0)], [bytesCk 32 (List.replicate 32 0), one (intVP .i64 ((S_api_Sig.mk (0 : Int) [] [] []).f_Index)), one (slVP (dC 32) ((S_api_Sig.mk (0 : Int) [] [] []).f_Parts)), one (slVP (dC 32) ((S_api_Sig.mk (0 : Int) [] [] []).f_Others)), one (slVP (dC 32) ((S_api_Sig.mk (0 : Int) [] [] []).f_Path))], [bytesCk 32 r5.1], _, rfl, rfl, rfl, q1, (cells_agg _), ⟨[one (intVP .u32 r4.1), bytesCk 32 r5.1], [bytesCk 32 (List.replicate 32 0)], [one (intVP .i64 ((S_api_Sig.mk (0 : Int) [] [] []).f_Index)), one (slVP (dC 32) ((S_api_Sig.mk (0 : Int) [] [] []).f_Parts)), one (slVP (dC 32) ((S_api_Sig.mk (0 : Int) [] [] []).f_Others)), one (slVP (dC 32) ((S_api_Sig.mk (0 : Int) [] [] []).f_Path))], [bytesCk 32 r6.1], _, rfl, rfl, rfl, q2, (cells_agg _), ⟨[one (intVP .u32 r4.1), bytesCk 32 r5.1, bytesCk 32 r6.1], [one (intVP .i64 ((S_api_Sig.mk (0 : Int) [] [] []).f_Index)), one (slVP (dC 32) ((S_api_Sig.mk (0 : Int) [] [] []).f_Parts)), one (slVP (dC 32) ((S_api_Sig.mk (0 : Int) [] [] []).f_Others)), one (slVP (dC 32) ((S_api_Sig.mk (0 : Int) [] [] []).f_Path))], [], [one (intVP .i64 r7.1.f_Index), one (slVP (dC 32) r7.1.f_Parts), one (slVP (dC 32) r7.1.f_Others), one (slVP (dC 32) r7.1.f_Path)], _, rfl, rfl, rfl, q3, (cells_agg _), rfl⟩⟩⟩⟩) <| ob [] (op_alloc Tryd.zeroValue37 z37) <| og [501, 502] [500] [.res 9 100000 (fun v1_ _ => (lb (v1_) 37 [one (intVP .u32 r4.1), bytesCk 32 r5.1, bytesCk 32 r6.1, one (intVP .i64 r7.1.f_Index), one (slVP (dC 32) r7.1.f_Parts), one (slVP (dC 32) r7.1.f_Others), one (slVP (dC 32) r7.1.f_Path)]))] (GOk.plain (op_store_w Tryd.sizeOf37 q0 q1 (cells_agg _)) rfl) .nil) fun b8 a w h => ?_
  refine wp_seq ?_
  obtain ⟨r9, hr9, hF⟩ := bind_some hF
  refine regS mixed hn hG h [0, 2, 500, 3, 5, 501] (ov [1] (op_move q0) <| oc [500] [4] Tryd.call117 (wire_Reader_End_ok hr9) ⟨q0, trivial⟩ <| ov [501] (op_assign q0) .nil) fun _ a w h => ?_
  refine regS mixed hn hG h [0, 1, 2, 500, 3, 4, 5] (ov [2] (op_move q0) <| ov [500] (op_bin bin_neq q0 qi) .nil) fun _ a w h => ?_
  refine cnd h hF 3 [0, 2, 4, 6] [0, 1, 4, 5, 6] (fun hb10 hF h => ?_) (fun hb10 hF h => ?_)
  · refine regS mixed hn hG h [0, 500, 501, 3] (ov [] (op_build [] rfl bu37 z37 rfl) <| ov [1] (op_move q0) <| ou [0, 501] 2 (op_store_w Tryd.sizeOf37 q0 q1 (cells_agg _)) <| ov [501] (op_assign q0) .nil) fun _ a w h => ?_
    refine wp_ret ?_
    obtain rfl := Option.some.inj hF
    exact ⟨.inl rfl, retn h (rs := [.cell 2 37, .tmp 3]) (Vs := [(aggVP [one (intVP .u32 (0 : Int)), bytesCk 32 (List.replicate 32 0), bytesCk 32 (List.replicate 32 0), one (intVP .i64 ((S_api_Sig.mk (0 : Int) [] [] []).f_Index)), one (slVP (dC 32) ((S_api_Sig.mk (0 : Int) [] [] []).f_Parts)), one (slVP (dC 32) ((S_api_Sig.mk (0 : Int) [] [] []).f_Others)), one (slVP (dC 32) ((S_api_Sig.mk (0 : Int) [] [] []).f_Path))]), (intVP .i64 r9.1)]) Tryd.results55 (by decide) ⟨(r_cell 0 2 rfl rfl Tryd.isAgg37 Tryd.sizeOf37 rfl), (r_tmp 1 rfl), trivial⟩ [] [] rfl rfl rfl⟩
  · refine wp_skip ?_
    show Code.wp Tryd.prog _ _ a w
    refine regS mixed hn hG h [0, 500, 501, 4] (ov [1, 3] (op_load_w 1 Tryd.isAgg37 Tryd.sizeOf37 q0) <| ou [0, 500] 2 (op_store_w Tryd.sizeOf37 q0 q1 (cells_agg _)) <| ov [] (op_assign qi) .nil) fun _ a w h => ?_
    refine wp_ret ?_
    obtain rfl := Option.some.inj hF
    exact ⟨.inl rfl, retn h (rs := [.cell 2 37, .tmp 3]) (Vs := [(aggVP [one (intVP .u32 r4.1), bytesCk 32 r5.1, bytesCk 32 r6.1, one (intVP .i64 r7.1.f_Index), one (slVP (dC 32) r7.1.f_Parts), one (slVP (dC 32) r7.1.f_Others), one (slVP (dC 32) r7.1.f_Path)]), (intVP .i64 0)]) Tryd.results55 (by decide) ⟨(r_cell 0 2 rfl rfl Tryd.isAgg37 Tryd.sizeOf37 rfl), (r_tmp 1 rfl), trivial⟩ [] [] rfl rfl rfl⟩

def update_ReadStop (a_0 : List UInt8) : Option (S_api_Stop × Int) := ((wire_Over a_0).bind fun r2 => ((wire_Reader_Word r2).bind fun r4 => ((wire_Reader_Digest r4.2).bind fun r5 => ((wire_Reader_Word r5.2).bind fun r6 => ((wire_Reader_Sig r6.2).bind fun r7 => ((wire_Reader_End r7.2).bind fun r9 => (if (!decide (r9.1 = (0 : Int))) = true then some ((S_api_Stop.mk (0 : Int) (List.replicate 32 0) (0 : Int) (S_api_Sig.mk (0 : Int) [] [] [])), r9.1) else (if (decide ((2147483647 : Int) < (IntKind.wrap .i64 r6.1))) = true then some ((S_api_Stop.mk (0 : Int) (List.replicate 32 0) (0 : Int) (S_api_Sig.mk (0 : Int) [] [] [])), 8) else some ((S_api_Stop.mk r4.1 r5.1 (IntKind.wrap .i64 r6.1) r7.1), 0)))))))))
theorem update_ReadStop_ok {a_0 : List UInt8} {r : S_api_Stop × Int} (hF : update_ReadStop a_0 = some r) : CallOk Tryd.prog KG 57 [(strVP a_0)] [] (fun _ => []) (tupVP [(aggVP [one (intVP .u32 r.1.f_Home), bytesCk 32 r.1.f_Key, one (intVP .i64 r.1.f_Watcher), one (intVP .i64 r.1.f_Sig.f_Index), one (slVP (dC 32) r.1.f_Sig.f_Parts), one (slVP (dC 32) r.1.f_Sig.f_Others), one (slVP (dC 32) r.1.f_Sig.f_Path)]), (intVP .i64 r.2)]) := by
  refine CallOk.intro 32 Tryd.func57 rfl Tryd.ntmps57 (Nat.le_of_ble_eq_true rfl) ?_
  intro c a w hG hn h
  unfold update_ReadStop at hF
  change SatL c [.slot 0 (strVP a_0)] a w at h
  refine regS mixed hn hG h [0, 502, 501] (ob [] (op_alloc Tryd.zeroValue115 z115) <| ov [] (op_assign qi) .nil) fun b1 a w h => ?_
  obtain ⟨r2, hr2, hF⟩ := bind_some hF
  refine regS mixed hn hG h [1, 500, 2, 501] (ov [0] (op_move q0) <| og [500] [] [.slot 8 1 100000 (fun v1_ _ => (eqVP v1_)), .res 1 100000 (fun v1_ _ => (Rdr_e (v1_) (some r2)))] (GOk.plain (op_callv Tryd.call113 (wire_Over_ok hr2) ⟨q0, trivial⟩) rfl) <| og [501] [] [.slot 4 1 100000 (fun v1_ _ => (eqVP v1_))] (fun {β} => (GOk.plain (op_assign (V := (eqVP (β 1))) q0) rfl)) .nil) fun b3 a w h => ?_
  obtain ⟨r4, hr4, hF⟩ := bind_some hF
  obtain ⟨r5, hr5, hF⟩ := bind_some hF
  obtain ⟨r6, hr6, hF⟩ := bind_some hF
  obtain ⟨r7, hr7, hF⟩ := bind_some hF
  refine regS mixed hn hG h [0, 1, 502, 2, 504, 500] (ov [1] (op_move q0) <| oc [500] [3] Tryd.call114 (wire_Reader_Word_ok hr4) ⟨q0, trivial⟩ <| ov [1] (op_move q0) <| oc [500] [501] Tryd.call115 (wire_Reader_Digest_ok hr5) ⟨q0, trivial⟩ <| ov [1] (op_move q0) <| oc [500] [501] Tryd.call114 (wire_Reader_Word_ok hr6) ⟨q0, trivial⟩ <| ov [501] (op_convert_int Tryd.underlying22 Tryd.underlying3 q0) <| ov [1] (op_move q0) <| oc [500] [502] Tryd.call116 (wire_Reader_Sig_ok hr7) ⟨q0, trivial⟩ <| ov [511, 508, 503, 501] (op_build [(0, .tmp 10), (1, .tmp 12), (2, .tmp 15), (3, .tmp 17)] rfl bu115 z115 ⟨[], [one (intVP .u32 (0 : Int))], [bytesCk 32 (List.replicate 32 0), one (intVP .i64 (0 : Int)), one (intVP .i64 ((S_api_Sig.mk (0 : Int) [] [] []).f_Index)), one (slVP (dC 32) ((S_api_Sig.mk (0 : Int) [] [] []).f_Parts)), one (slVP (dC 32) ((S_api_Sig.mk (0 : Int) [] [] []).f_Others)), one (slVP (dC 32) ((S_api_Sig.mk (0 : Int) [] [] []).f_Path))], [one (intVP .u32 r4.1)], _, rfl, rfl, rfl, q0, (cells_one (one_int _ _)), ⟨[one (intVP .u32 r4.1)], [bytesCk 32 (List.replicate 32 0)], [one (intVP .i64 (0 : Int)), one (intVP .i64 ((S_api_Sig.mk (0 : Int) [] [] []).f_Index)), one (slVP (dC 32) ((S_api_Sig.mk (0 : Int) [] [] []).f_Parts)), one (slVP (dC 32) ((S_api_Sig.mk (0 : Int) [] [] []).f_Others)), one (slVP (dC 32) ((S_api_Sig.mk (0 : Int) [] [] []).f_Path))], [bytesCk 32 r5.1], _, rfl, rfl, rfl, q1, (cells_agg _), ⟨[one (intVP .u32 r4.1), bytesCk 32 r5.1], [one (intVP .i64 (0 : Int))], [one (intVP .i64 ((S_api_Sig.mk (0 : Int) [] [] []).f_Index)), one (slVP (dC 32) ((S_api_Sig.mk (0 : Int) [] [] []).f_Parts)), one (slVP (dC 32) ((S_api_Sig.mk (0 : Int) [] [] []).f_Others)), one (slVP (dC 32) ((S_api_Sig.mk (0 : Int) [] [] []).f_Path))], [one (intVP .i64 (IntKind.wrap .i64 r6.1))], _, rfl, rfl, rfl, q2, (cells_one (one_int _ _)), ⟨[one (intVP .u32 r4.1), bytesCk 32 r5.1, one (intVP .i64 (IntKind.wrap .i64 r6.1))], [one (intVP .i64 ((S_api_Sig.mk (0 : Int) [] [] []).f_Index)), one (slVP (dC 32) ((S_api_Sig.mk (0 : Int) [] [] []).f_Parts)), one (slVP (dC 32) ((S_api_Sig.mk (0 : Int) [] [] []).f_Others)), one (slVP (dC 32) ((S_api_Sig.mk (0 : Int) [] [] []).f_Path))], [], [one (intVP .i64 r7.1.f_Index), one (slVP (dC 32) r7.1.f_Parts), one (slVP (dC 32) r7.1.f_Others), one (slVP (dC 32) r7.1.f_Path)], _, rfl, rfl, rfl, q3, (cells_agg _), rfl⟩⟩⟩⟩) <| ob [] (op_alloc Tryd.zeroValue115 z115) <| og [501, 502] [500] [.res 10 100000 (fun v1_ _ => (lb (v1_) 115 [one (intVP .u32 r4.1), bytesCk 32 r5.1, one (intVP .i64 (IntKind.wrap .i64 r6.1)), one (intVP .i64 r7.1.f_Index), one (slVP (dC 32) r7.1.f_Parts), one (slVP (dC 32) r7.1.f_Others), one (slVP (dC 32) r7.1.f_Path)]))] (GOk.plain (op_store_w Tryd.sizeOf115 q0 q1 (cells_agg _)) rfl) .nil) fun b8 a w h => ?_
  refine wp_seq ?_
  obtain ⟨r9, hr9, hF⟩ := bind_some hF
  refine regS mixed hn hG h [0, 2, 500, 3, 5, 501] (ov [1] (op_move q0) <| oc [500] [4] Tryd.call117 (wire_Reader_End_ok hr9) ⟨q0, trivial⟩ <| ov [501] (op_assign q0) .nil) fun _ a w h => ?_
  refine wp_block ?_
  refine regS mixed hn hG h [0, 1, 2, 500, 3, 4, 5] (ov [2] (op_move q0) <| ov [500] (op_bin bin_neq q0 qi) <| ov [500] (op_assign q0) .nil) fun _ a w h => ?_
  refine cnd h hF 3 [0, 2, 4, 6] [0, 1, 4, 5, 6] (fun hb10 hF h => ?_) (fun hb10 hF h => ?_)
  · refine regS mixed hn hG h [0, 500, 501, 3] (ov [] (op_build [] rfl bu115 z115 rfl) <| ov [1] (op_move q0) <| ou [0, 501] 2 (op_store_w Tryd.sizeOf115 q0 q1 (cells_agg _)) <| ov [501] (op_assign q0) .nil) fun _ a w h => ?_
    refine wp_ret ?_
    obtain rfl := Option.some.inj hF
    exact ⟨.inl rfl, retn h (rs := [.cell 2 115, .tmp 3]) (Vs := [(aggVP [one (intVP .u32 (0 : Int)), bytesCk 32 (List.replicate 32 0), one (intVP .i64 (0 : Int)), one (intVP .i64 ((S_api_Sig.mk (0 : Int) [] [] []).f_Index)), one (slVP (dC 32) ((S_api_Sig.mk (0 : Int) [] [] []).f_Parts)), one (slVP (dC 32) ((S_api_Sig.mk (0 : Int) [] [] []).f_Others)), one (slVP (dC 32) ((S_api_Sig.mk (0 : Int) [] [] []).f_Path))]), (intVP .i64 r9.1)]) Tryd.results57 (by decide) ⟨(r_cell 0 2 rfl rfl Tryd.isAgg115 Tryd.sizeOf115 rfl), (r_tmp 1 rfl), trivial⟩ [] [] rfl rfl rfl⟩
  · refine regS mixed hn hG h [0, 1, 500, 2, 3, 4] (ov [1] (op_fieldAddr_lbm (p := (b8 10)) (n := 1) 0 33 Tryd.underlying115 rfl Tryd.sizeOf3 (by decide) q0 rfl) <| ov [500, 3] (op_load_lb1 [one (intVP .u32 r4.1), bytesCk 32 r5.1] [one (intVP .i64 r7.1.f_Index), one (slVP (dC 32) r7.1.f_Parts), one (slVP (dC 32) r7.1.f_Others), one (slVP (dC 32) r7.1.f_Path)] 1 Tryd.isAgg3 q0 rfl rfl) <| ov [500] (op_bin bin_gtr q0 qi) <| ov [500] (op_assign q0) .nil) fun _ a w h => ?_
    refine cnd h hF 2 [0, 3, 5] [0, 1, 3, 4, 5] (fun hb11 hF h => ?_) (fun hb11 hF h => ?_)
    · refine regS mixed hn hG h [0, 500, 501, 2] (ov [] (op_build [] rfl bu115 z115 rfl) <| ou [0, 500] 1 (op_store_w Tryd.sizeOf115 q0 q1 (cells_agg _)) <| ov [] (op_assign qi) .nil) fun _ a w h => ?_
      refine wp_ret ?_
      obtain rfl := Option.some.inj hF
      exact ⟨.inl rfl, retn h (rs := [.cell 2 115, .tmp 3]) (Vs := [(aggVP [one (intVP .u32 (0 : Int)), bytesCk 32 (List.replicate 32 0), one (intVP .i64 (0 : Int)), one (intVP .i64 ((S_api_Sig.mk (0 : Int) [] [] []).f_Index)), one (slVP (dC 32) ((S_api_Sig.mk (0 : Int) [] [] []).f_Parts)), one (slVP (dC 32) ((S_api_Sig.mk (0 : Int) [] [] []).f_Others)), one (slVP (dC 32) ((S_api_Sig.mk (0 : Int) [] [] []).f_Path))]), (intVP .i64 8)]) Tryd.results57 (by decide) ⟨(r_cell 0 2 rfl rfl Tryd.isAgg115 Tryd.sizeOf115 rfl), (r_tmp 1 rfl), trivial⟩ [] [] rfl rfl rfl⟩
    · refine wp_skip ?_
      show Code.wp Tryd.prog _ _ a w
      refine regS mixed hn hG h [0, 500, 501, 4] (ov [1, 3] (op_load_w 1 Tryd.isAgg115 Tryd.sizeOf115 q0) <| ou [0, 500] 2 (op_store_w Tryd.sizeOf115 q0 q1 (cells_agg _)) <| ov [] (op_assign qi) .nil) fun _ a w h => ?_
      refine wp_ret ?_
      obtain rfl := Option.some.inj hF
      exact ⟨.inl rfl, retn h (rs := [.cell 2 115, .tmp 3]) (Vs := [(aggVP [one (intVP .u32 r4.1), bytesCk 32 r5.1, one (intVP .i64 (IntKind.wrap .i64 r6.1)), one (intVP .i64 r7.1.f_Index), one (slVP (dC 32) r7.1.f_Parts), one (slVP (dC 32) r7.1.f_Others), one (slVP (dC 32) r7.1.f_Path)]), (intVP .i64 0)]) Tryd.results57 (by decide) ⟨(r_cell 0 2 rfl rfl Tryd.isAgg115 Tryd.sizeOf115 rfl), (r_tmp 1 rfl), trivial⟩ [] [] rfl rfl rfl⟩

def wire_Digests.b1 (a_0 : List (List UInt8)) (x8 : Int) (x9 : O_Bld) : Option (Flow (List UInt8) (Int × O_Bld)) := (if (decide (x8 < (a_0.length : Int))) = true then (if (0 : Int) ≤ x8 ∧ x8 < a_0.length then ((strings_Builder_Write x9 (((a_0.getD x8.toNat default).take (32 : Int).toNat).drop (0 : Int).toNat)).bind fun r19 => some (.cont (IntKind.wrap .i64 (x8 + 1), r19.2.2))) else none) else some (.brk (x8, x9)))
def wire_Digests (a_0 : List (List UInt8)) : Option (List UInt8) := ((wire_Word (IntKind.wrap .u32 (a_0.length : Int))).bind fun r2 => ((strings_Builder_WriteString ⟨[]⟩ r2).bind fun r3 => ((loopN (fun s : Int × O_Bld => wire_Digests.b1 a_0 s.1 s.2) (((a_0.length : Int) - 0 : Int).toNat + 2) (0, r3.2.2)).bind fun cr => match cr with | .ret r => some r | .next (y24, y25) => ((strings_Builder_String y25).bind fun r26 => some r26))))
theorem wire_Digests_ok {a_0 : List (List UInt8)} {r : (List UInt8)} (hF : wire_Digests a_0 = some r) : CallOk Tryd.prog KG 178 [(slVP (dC 32) a_0)] [] (fun _ => []) (strVP r) := by
  refine CallOk.intro 21 Tryd.func178 rfl Tryd.ntmps178 (Nat.le_of_ble_eq_true rfl) ?_
  intro c a w hG hn h
  unfold wire_Digests at hF
  change SatL c [.slot 0 (slVP (dC 32) a_0)] a w at h
  refine regS mixed hn hG h [0] (ov [] (op_assign (opc (sc _ (by decide)))) .nil) fun _ a w h => ?_
  refine regS mixed hn hG h [0, 501, 500] (ob [] (op_alloc Tryd.zeroValue298 zo298) .nil) fun b1 a w h => ?_
  replace h := h.conv 2 rfl Bld_new
  replace h := h.slotc 1 rfl (fun _ _ h => lp_eqv h)
  replace h := h.sub [0, 1, 2] (by rfl)
  change SatL c [.slot 0 (slVP (dC 32) a_0), .slot 3 (eqVP (b1 0)), .res (Bld_e (b1 0) (some ⟨[]⟩))] a w at h
  obtain ⟨r2, hr2, hF⟩ := bind_some hF
  obtain ⟨r3, hr3, hF⟩ := bind_some hF
  refine regS mixed hn hG h [0, 1, 500] (ov [0] (op_move q0) <| ov [500] (op_len_sl Tryd.underlying26 q0) <| ov [500] (op_convert_int Tryd.underlying3 Tryd.underlying22 q0) <| oc [500] [] Tryd.call122 (wire_Word_ok hr2) ⟨q0, trivial⟩ <| oc [1, 500] [2] Tryd.call212 (strings_Builder_WriteString_ok hr3) ⟨q0, q1, trivial⟩ .nil) fun _ a w h => ?_
  refine wp_seq ?_
  refine regS mixed hn hG h [1, 502, 501, 500, 2] (ov [0] (op_move q0) <| ov [500] (op_len_sl Tryd.underlying26 q0) <| ov [] (op_move qi) .nil) fun _ a w h => ?_
  refine wp_block ?_
  obtain ⟨cr20, hl21, hF⟩ := bind_some hF
  refine wp_mono (wp_loopN (R := (List UInt8)) (S := Int × O_Bld) (fun s a w => SatL c [.slot 3 (eqVP (b1 0)), .slot 11 (slVP (dC 32) a_0), .slot 12 (intVP .i64 (a_0.length : Int)), .slot 13 (intVP .i64 s.1), .res (Bld_e (b1 0) (some s.2))] a w) (fun res e a w => match res with | .next s => e = .exit 0 ∧ SatL c [.slot 3 (eqVP (b1 0)), .res (Bld_e (b1 0) (some s.2))] a w | .ret r => e = .ret ∧ RetOk Tryd.prog Tryd.f178 c (strVP r) (fun _ => []) a w) ?_ _ (0, r3.2.2) _ _ _ (h.sub [0, 1, 2, 3, 4] (by rfl)) hl21) ?_
  · clear hl21 hF h
    intro s a w o h hF
    obtain ⟨x8, x9⟩ := s
    change wire_Digests.b1 a_0 x8 x9 = some o at hF
    unfold wire_Digests.b1 at hF
    change SatL c [.slot 3 (eqVP (b1 0)), .slot 11 (slVP (dC 32) a_0), .slot 12 (intVP .i64 (a_0.length : Int)), .slot 13 (intVP .i64 x8), .res (Bld_e (b1 0) (some x9))] a w at h
    refine regS mixed hn hG h [0, 1, 2, 3, 500, 4] (ov [3, 2] (op_bin bin_lss q0 q1) .nil) fun _ a w h => ?_
    refine wp_seq ?_
    refine cnd h hF 4 [0, 1, 2, 3, 5] [0, 1, 2, 3, 5] (fun hb16 hF h => ?_) (fun hb16 hF h => ?_)
    · refine wp_skip ?_
      show Code.wp Tryd.prog _ _ a w
      refine wp_seq ?_
      refine wp_block ?_
      obtain ⟨hv17, hF⟩ := ite_some hF
      refine regS mixed hn hG h [0, 502, 1, 2, 3, 4, 500] (ov [1, 3] (op_indexAddr_sl Tryd.underlying26 Tryd.sizeOf25 (lens_dC 32) q0 q1 hv17) <| ov [500] (op_load_pp [bytesCk 32 (a_0.getD x8.toNat default)] [] Tryd.isAgg25 Tryd.sizeOf25 q0 rfl) <| ob [] (op_alloc Tryd.zeroValue25 z25) <| og [501, 502] [500] [.res 2 100000 (fun v1_ _ => (lb (v1_) 25 [bytesCk 32 (a_0.getD x8.toNat default)]))] (GOk.plain (op_store_w Tryd.sizeOf25 q0 q1 (cells_agg _)) rfl) .nil) fun b18 a w h => ?_
      replace h := h.publish 6 rfl
      replace h := h.factslot 1 6 rfl rfl
      replace h := h.sub [0, 1, 2, 3, 4, 5] (by rfl)
      change SatL c [.slot 3 (eqVP (b1 0)), .slot 5 (ppVP [bytesCk 32 (a_0.getD x8.toNat default)]), .slot 11 (slVP (dC 32) a_0), .slot 12 (intVP .i64 (a_0.length : Int)), .slot 13 (intVP .i64 x8), .res (Bld_e (b1 0) (some x9))] a w at h
      obtain ⟨r19, hr19, hF⟩ := bind_some hF
      refine reg mixed hn hG h [0, 2, 3, 4, 500] (ov [1] (op_slice_ppB (a := 0) (b := 32) Tryd.underlying25 Tryd.sizeOf5 q0 rfl rfl (by decide)) <| oc [0, 500] [5] Tryd.call213 (strings_Builder_Write_ok hr19) ⟨q0, q1, trivial⟩ .nil) fun _ a w h => ?_
      show Code.wp Tryd.prog _ _ a w
      refine reg mixed hn hG h [0, 1, 2, 500, 4] (ov [3] (op_bin bin_add q0 qi) <| od [500] 3 (op_move q0) .nil) fun _ a w h => ?_
      obtain rfl := Option.some.inj hF
      exact ⟨rfl, h.sub [0, 1, 2, 3, 4] (by rfl)⟩
    · refine wp_exit ?_
      obtain rfl := Option.some.inj hF
      exact ⟨exit_ne _, rfl, h.sub [0, 4] (by rfl)⟩
  · clear hl21
    intro e a w hq
    cases cr20 with
    | ret r22 =>
      obtain ⟨rfl, hq⟩ := hq
      obtain rfl := Option.some.inj hF
      exact ⟨.inl rfl, hq⟩
    | next s23 =>
      obtain ⟨y24, y25⟩ := s23
      obtain ⟨rfl, h⟩ := hq
      change SatL c [.slot 3 (eqVP (b1 0)), .res (Bld_e (b1 0) (some y25))] a w at h
      refine inBlock_at ?_
      show Code.wp Tryd.prog _ _ a w
      obtain ⟨r26, hr26, hF⟩ := bind_some hF
      refine regS mixed hn hG h [500] (oc [0] [1] Tryd.call214 (strings_Builder_String_ok hr26) ⟨q0, trivial⟩ <| ov [500] (op_assign q0) .nil) fun _ a w h => ?_
      refine wp_ret ?_
      obtain rfl := Option.some.inj hF
      exact ⟨.inl rfl, ret1 h Tryd.results178 (r_tmp 0 rfl) [] [] rfl rfl rfl⟩

def wire_Sig (a_0 : S_api_Sig) : Option (List UInt8) := ((wire_Word (IntKind.wrap .u32 a_0.f_Index)).bind fun r2 => ((wire_Digests a_0.f_Parts).bind fun r3 => (if r2.length + r3.length ≤ mxl then ((wire_Digests a_0.f_Others).bind fun r5 => (if (r2 ++ r3).length + r5.length ≤ mxl then ((wire_Digests a_0.f_Path).bind fun r7 => (if ((r2 ++ r3) ++ r5).length + r7.length ≤ mxl then some (((r2 ++ r3) ++ r5) ++ r7) else none)) else none)) else none)))
theorem wire_Sig_ok {a_0 : S_api_Sig} {r : (List UInt8)} (hF : wire_Sig a_0 = some r) : CallOk Tryd.prog KG 124 [(aggVP [one (intVP .i64 a_0.f_Index), one (slVP (dC 32) a_0.f_Parts), one (slVP (dC 32) a_0.f_Others), one (slVP (dC 32) a_0.f_Path)])] [] (fun _ => []) (strVP r) := by
  refine CallOk.intro 19 Tryd.func124 rfl Tryd.ntmps124 (Nat.le_of_ble_eq_true rfl) ?_
  intro c a w hG hn h
  unfold wire_Sig at hF
  change SatL c [.slot 0 (aggVP [one (intVP .i64 a_0.f_Index), one (slVP (dC 32) a_0.f_Parts), one (slVP (dC 32) a_0.f_Others), one (slVP (dC 32) a_0.f_Path)])] a w at h
  refine regS mixed hn hG h [502, 501] (ob [0] (op_box q0 (cells_agg _)) <| ov [] (op_assign (opc (sc _ (by decide)))) .nil) fun b1 a w h => ?_
  obtain ⟨r2, hr2, hF⟩ := bind_some hF
  obtain ⟨r3, hr3, hF⟩ := bind_some hF
  obtain ⟨hv4, hF⟩ := ite_some hF
  obtain ⟨r5, hr5, hF⟩ := bind_some hF
  obtain ⟨hv6, hF⟩ := ite_some hF
  obtain ⟨r7, hr7, hF⟩ := bind_some hF
  obtain ⟨hv8, hF⟩ := ite_some hF
  refine regS mixed hn hG h [500] (ov [0] (op_fieldAddr_lbm (p := (b1 0)) (n := 1) 0 0 Tryd.underlying35 rfl Tryd.sizeOf3 (by decide) q0 rfl) <| ov [500, 1] (op_load_lb1 [] [one (slVP (dC 32) a_0.f_Parts), one (slVP (dC 32) a_0.f_Others), one (slVP (dC 32) a_0.f_Path)] 1 Tryd.isAgg3 q0 rfl rfl) <| ov [500] (op_convert_int Tryd.underlying3 Tryd.underlying22 q0) <| oc [500] [] Tryd.call122 (wire_Word_ok hr2) ⟨q0, trivial⟩ <| ov [0] (op_fieldAddr_lbm (p := (b1 0)) (n := 1) 0 1 Tryd.underlying35 rfl Tryd.sizeOf26 (by decide) q0 rfl) <| ov [500, 1] (op_load_lb1 [one (intVP .i64 a_0.f_Index)] [one (slVP (dC 32) a_0.f_Others), one (slVP (dC 32) a_0.f_Path)] 1 Tryd.isAgg26 q0 rfl rfl) <| oc [500] [] Tryd.call178 (wire_Digests_ok hr3) ⟨q0, trivial⟩ <| ov [503, 500] (op_bin (bin_sadd hv4) q0 q1) <| ov [0] (op_fieldAddr_lbm (p := (b1 0)) (n := 1) 0 2 Tryd.underlying35 rfl Tryd.sizeOf26 (by decide) q0 rfl) <| ov [500, 1] (op_load_lb1 [one (intVP .i64 a_0.f_Index), one (slVP (dC 32) a_0.f_Parts)] [one (slVP (dC 32) a_0.f_Path)] 1 Tryd.isAgg26 q0 rfl rfl) <| oc [500] [] Tryd.call178 (wire_Digests_ok hr5) ⟨q0, trivial⟩ <| ov [503, 500] (op_bin (bin_sadd hv6) q0 q1) <| ov [0] (op_fieldAddr_lbm (p := (b1 0)) (n := 1) 0 3 Tryd.underlying35 rfl Tryd.sizeOf26 (by decide) q0 rfl) <| ov [500, 1] (op_load_lb1 [one (intVP .i64 a_0.f_Index), one (slVP (dC 32) a_0.f_Parts), one (slVP (dC 32) a_0.f_Others)] [] 1 Tryd.isAgg26 q0 rfl rfl) <| oc [500] [] Tryd.call178 (wire_Digests_ok hr7) ⟨q0, trivial⟩ <| ov [503, 500] (op_bin (bin_sadd hv8) q0 q1) <| ov [500] (op_assign q0) .nil) fun _ a w h => ?_
  refine wp_ret ?_
  obtain rfl := Option.some.inj hF
  exact ⟨.inl rfl, ret1 h Tryd.results124 (r_tmp 0 rfl) [] [] rfl rfl rfl⟩

def update_Bytes (a_0 : S_api_Update) : Option (List UInt8) := ((wire_Word a_0.f_Home).bind fun r2 => ((wire_Digest a_0.f_Old).bind fun r3 => (if r2.length + r3.length ≤ mxl then ((wire_Digest a_0.f_New).bind fun r5 => (if (r2 ++ r3).length + r5.length ≤ mxl then ((wire_Sig a_0.f_Sig).bind fun r7 => (if ((r2 ++ r3) ++ r5).length + r7.length ≤ mxl then some (((r2 ++ r3) ++ r5) ++ r7) else none)) else none)) else none)))
theorem update_Bytes_ok {a_0 : S_api_Update} {r : (List UInt8)} (hF : update_Bytes a_0 = some r) : CallOk Tryd.prog KG 59 [(aggVP [one (intVP .u32 a_0.f_Home), bytesCk 32 a_0.f_Old, bytesCk 32 a_0.f_New, one (intVP .i64 a_0.f_Sig.f_Index), one (slVP (dC 32) a_0.f_Sig.f_Parts), one (slVP (dC 32) a_0.f_Sig.f_Others), one (slVP (dC 32) a_0.f_Sig.f_Path)])] [] (fun _ => []) (strVP r) := by
  refine CallOk.intro 18 Tryd.func59 rfl Tryd.ntmps59 (Nat.le_of_ble_eq_true rfl) ?_
  intro c a w hG hn h
  unfold update_Bytes at hF
  change SatL c [.slot 0 (aggVP [one (intVP .u32 a_0.f_Home), bytesCk 32 a_0.f_Old, bytesCk 32 a_0.f_New, one (intVP .i64 a_0.f_Sig.f_Index), one (slVP (dC 32) a_0.f_Sig.f_Parts), one (slVP (dC 32) a_0.f_Sig.f_Others), one (slVP (dC 32) a_0.f_Sig.f_Path)])] a w at h
  refine regS mixed hn hG h [502, 501] (ob [0] (op_box q0 (cells_agg _)) <| ov [] (op_assign (opc (sc _ (by decide)))) .nil) fun b1 a w h => ?_
  obtain ⟨r2, hr2, hF⟩ := bind_some hF
  obtain ⟨r3, hr3, hF⟩ := bind_some hF
  obtain ⟨hv4, hF⟩ := ite_some hF
  obtain ⟨r5, hr5, hF⟩ := bind_some hF
  obtain ⟨hv6, hF⟩ := ite_some hF
  obtain ⟨r7, hr7, hF⟩ := bind_some hF
  obtain ⟨hv8, hF⟩ := ite_some hF
  refine regS mixed hn hG h [500] (ov [0] (op_fieldAddr_lbm (p := (b1 0)) (n := 1) 0 0 Tryd.underlying37 rfl Tryd.sizeOf22 (by decide) q0 rfl) <| ov [500, 1] (op_load_lb1 [] [bytesCk 32 a_0.f_Old, bytesCk 32 a_0.f_New, one (intVP .i64 a_0.f_Sig.f_Index), one (slVP (dC 32) a_0.f_Sig.f_Parts), one (slVP (dC 32) a_0.f_Sig.f_Others), one (slVP (dC 32) a_0.f_Sig.f_Path)] 1 Tryd.isAgg22 q0 rfl rfl) <| oc [500] [] Tryd.call122 (wire_Word_ok hr2) ⟨q0, trivial⟩ <| ov [0] (op_fieldAddr_lbm (p := (b1 0)) (n := 32) 0 1 Tryd.underlying37 rfl Tryd.sizeOf25 (by decide) q0 rfl) <| ov [500, 1] (op_load_lb [one (intVP .u32 a_0.f_Home)] [bytesCk 32 a_0.f_Old] [bytesCk 32 a_0.f_New, one (intVP .i64 a_0.f_Sig.f_Index), one (slVP (dC 32) a_0.f_Sig.f_Parts), one (slVP (dC 32) a_0.f_Sig.f_Others), one (slVP (dC 32) a_0.f_Sig.f_Path)] 1 Tryd.isAgg25 Tryd.sizeOf25 q0 rfl rfl rfl) <| oc [500] [] Tryd.call123 (wire_Digest_ok hr3) ⟨q0, trivial⟩ <| ov [503, 500] (op_bin (bin_sadd hv4) q0 q1) <| ov [0] (op_fieldAddr_lbm (p := (b1 0)) (n := 32) 0 33 Tryd.underlying37 rfl Tryd.sizeOf25 (by decide) q0 rfl) <| ov [500, 1] (op_load_lb [one (intVP .u32 a_0.f_Home), bytesCk 32 a_0.f_Old] [bytesCk 32 a_0.f_New] [one (intVP .i64 a_0.f_Sig.f_Index), one (slVP (dC 32) a_0.f_Sig.f_Parts), one (slVP (dC 32) a_0.f_Sig.f_Others), one (slVP (dC 32) a_0.f_Sig.f_Path)] 1 Tryd.isAgg25 Tryd.sizeOf25 q0 rfl rfl rfl) <| oc [500] [] Tryd.call123 (wire_Digest_ok hr5) ⟨q0, trivial⟩ <| ov [503, 500] (op_bin (bin_sadd hv6) q0 q1) <| ov [0] (op_fieldAddr_lbm (p := (b1 0)) (n := 4) 0 65 Tryd.underlying37 rfl Tryd.sizeOf35 (by decide) q0 rfl) <| ov [500, 1] (op_load_lb [one (intVP .u32 a_0.f_Home), bytesCk 32 a_0.f_Old, bytesCk 32 a_0.f_New] [one (intVP .i64 a_0.f_Sig.f_Index), one (slVP (dC 32) a_0.f_Sig.f_Parts), one (slVP (dC 32) a_0.f_Sig.f_Others), one (slVP (dC 32) a_0.f_Sig.f_Path)] [] 1 Tryd.isAgg35 Tryd.sizeOf35 q0 rfl rfl rfl) <| oc [500] [] Tryd.call124 (wire_Sig_ok hr7) ⟨q0, trivial⟩ <| ov [503, 500] (op_bin (bin_sadd hv8) q0 q1) <| ov [500] (op_assign q0) .nil) fun _ a w h => ?_
  refine wp_ret ?_
  obtain rfl := Option.some.inj hF
  exact ⟨.inl rfl, ret1 h Tryd.results59 (r_tmp 0 rfl) [] [] rfl rfl rfl⟩

def update_StopBytes (a_0 : S_api_Stop) : Option (List UInt8) := ((wire_Word a_0.f_Home).bind fun r2 => ((wire_Digest a_0.f_Key).bind fun r3 => (if r2.length + r3.length ≤ mxl then ((wire_Word (IntKind.wrap .u32 a_0.f_Watcher)).bind fun r5 => (if (r2 ++ r3).length + r5.length ≤ mxl then ((wire_Sig a_0.f_Sig).bind fun r7 => (if ((r2 ++ r3) ++ r5).length + r7.length ≤ mxl then some (((r2 ++ r3) ++ r5) ++ r7) else none)) else none)) else none)))
theorem update_StopBytes_ok {a_0 : S_api_Stop} {r : (List UInt8)} (hF : update_StopBytes a_0 = some r) : CallOk Tryd.prog KG 61 [(aggVP [one (intVP .u32 a_0.f_Home), bytesCk 32 a_0.f_Key, one (intVP .i64 a_0.f_Watcher), one (intVP .i64 a_0.f_Sig.f_Index), one (slVP (dC 32) a_0.f_Sig.f_Parts), one (slVP (dC 32) a_0.f_Sig.f_Others), one (slVP (dC 32) a_0.f_Sig.f_Path)])] [] (fun _ => []) (strVP r) := by
  refine CallOk.intro 19 Tryd.func61 rfl Tryd.ntmps61 (Nat.le_of_ble_eq_true rfl) ?_
  intro c a w hG hn h
  unfold update_StopBytes at hF
  change SatL c [.slot 0 (aggVP [one (intVP .u32 a_0.f_Home), bytesCk 32 a_0.f_Key, one (intVP .i64 a_0.f_Watcher), one (intVP .i64 a_0.f_Sig.f_Index), one (slVP (dC 32) a_0.f_Sig.f_Parts), one (slVP (dC 32) a_0.f_Sig.f_Others), one (slVP (dC 32) a_0.f_Sig.f_Path)])] a w at h
  refine regS mixed hn hG h [502, 501] (ob [0] (op_box q0 (cells_agg _)) <| ov [] (op_assign (opc (sc _ (by decide)))) .nil) fun b1 a w h => ?_
  obtain ⟨r2, hr2, hF⟩ := bind_some hF
  obtain ⟨r3, hr3, hF⟩ := bind_some hF
  obtain ⟨hv4, hF⟩ := ite_some hF
  obtain ⟨r5, hr5, hF⟩ := bind_some hF
  obtain ⟨hv6, hF⟩ := ite_some hF
  obtain ⟨r7, hr7, hF⟩ := bind_some hF
  obtain ⟨hv8, hF⟩ := ite_some hF
  refine regS mixed hn hG h [500] (ov [0] (op_fieldAddr_lbm (p := (b1 0)) (n := 1) 0 0 Tryd.underlying115 rfl Tryd.sizeOf22 (by decide) q0 rfl) <| ov [500, 1] (op_load_lb1 [] [bytesCk 32 a_0.f_Key, one (intVP .i64 a_0.f_Watcher), one (intVP .i64 a_0.f_Sig.f_Index), one (slVP (dC 32) a_0.f_Sig.f_Parts), one (slVP (dC 32) a_0.f_Sig.f_Others), one (slVP (dC 32) a_0.f_Sig.f_Path)] 1 Tryd.isAgg22 q0 rfl rfl) <| oc [500] [] Tryd.call122 (wire_Word_ok hr2) ⟨q0, trivial⟩ <| ov [0] (op_fieldAddr_lbm (p := (b1 0)) (n := 32) 0 1 Tryd.underlying115 rfl Tryd.sizeOf25 (by decide) q0 rfl) <| ov [500, 1] (op_load_lb [one (intVP .u32 a_0.f_Home)] [bytesCk 32 a_0.f_Key] [one (intVP .i64 a_0.f_Watcher), one (intVP .i64 a_0.f_Sig.f_Index), one (slVP (dC 32) a_0.f_Sig.f_Parts), one (slVP (dC 32) a_0.f_Sig.f_Others), one (slVP (dC 32) a_0.f_Sig.f_Path)] 1 Tryd.isAgg25 Tryd.sizeOf25 q0 rfl rfl rfl) <| oc [500] [] Tryd.call123 (wire_Digest_ok hr3) ⟨q0, trivial⟩ <| ov [503, 500] (op_bin (bin_sadd hv4) q0 q1) <| ov [0] (op_fieldAddr_lbm (p := (b1 0)) (n := 1) 0 33 Tryd.underlying115 rfl Tryd.sizeOf3 (by decide) q0 rfl) <| ov [500, 1] (op_load_lb1 [one (intVP .u32 a_0.f_Home), bytesCk 32 a_0.f_Key] [one (intVP .i64 a_0.f_Sig.f_Index), one (slVP (dC 32) a_0.f_Sig.f_Parts), one (slVP (dC 32) a_0.f_Sig.f_Others), one (slVP (dC 32) a_0.f_Sig.f_Path)] 1 Tryd.isAgg3 q0 rfl rfl) <| ov [500] (op_convert_int Tryd.underlying3 Tryd.underlying22 q0) <| oc [500] [] Tryd.call122 (wire_Word_ok hr5) ⟨q0, trivial⟩ <| ov [504, 500] (op_bin (bin_sadd hv6) q0 q1) <| ov [0] (op_fieldAddr_lbm (p := (b1 0)) (n := 4) 0 34 Tryd.underlying115 rfl Tryd.sizeOf35 (by decide) q0 rfl) <| ov [500, 1] (op_load_lb [one (intVP .u32 a_0.f_Home), bytesCk 32 a_0.f_Key, one (intVP .i64 a_0.f_Watcher)] [one (intVP .i64 a_0.f_Sig.f_Index), one (slVP (dC 32) a_0.f_Sig.f_Parts), one (slVP (dC 32) a_0.f_Sig.f_Others), one (slVP (dC 32) a_0.f_Sig.f_Path)] [] 1 Tryd.isAgg35 Tryd.sizeOf35 q0 rfl rfl rfl) <| oc [500] [] Tryd.call124 (wire_Sig_ok hr7) ⟨q0, trivial⟩ <| ov [503, 500] (op_bin (bin_sadd hv8) q0 q1) <| ov [500] (op_assign q0) .nil) fun _ a w h => ?_
  refine wp_ret ?_
  obtain rfl := Option.some.inj hF
  exact ⟨.inl rfl, ret1 h Tryd.results61 (r_tmp 0 rfl) [] [] rfl rfl rfl⟩

def ref10_SameStop.j1 (x4 : Bool) : Option Bool := some x4
def ref10_SameStop (a_0 : S_api_Stop) (a_1 : S_api_Stop) : Option Bool := (if (decide (a_0.f_Home = a_1.f_Home)) = true then (if (decide (a_0.f_Key = a_1.f_Key)) = true then (if (decide (a_0.f_Watcher = a_1.f_Watcher)) = true then ((ref03_SameSig a_0.f_Sig a_1.f_Sig).bind fun r3 => ref10_SameStop.j1 r3) else ref10_SameStop.j1 false) else ref10_SameStop.j1 false) else ref10_SameStop.j1 false)
theorem ref10_SameStop_ok {a_0 : S_api_Stop} {a_1 : S_api_Stop} {r : Bool} (hF : ref10_SameStop a_0 a_1 = some r) : CallOk Tryd.prog KG 63 [(aggVP [one (intVP .u32 a_0.f_Home), bytesCk 32 a_0.f_Key, one (intVP .i64 a_0.f_Watcher), one (intVP .i64 a_0.f_Sig.f_Index), one (slVP (dC 32) a_0.f_Sig.f_Parts), one (slVP (dC 32) a_0.f_Sig.f_Others), one (slVP (dC 32) a_0.f_Sig.f_Path)]), (aggVP [one (intVP .u32 a_1.f_Home), bytesCk 32 a_1.f_Key, one (intVP .i64 a_1.f_Watcher), one (intVP .i64 a_1.f_Sig.f_Index), one (slVP (dC 32) a_1.f_Sig.f_Parts), one (slVP (dC 32) a_1.f_Sig.f_Others), one (slVP (dC 32) a_1.f_Sig.f_Path)])] [] (fun _ => []) (boolVP r) := by
  refine CallOk.intro 31 Tryd.func63 rfl Tryd.ntmps63 (Nat.le_of_ble_eq_true rfl) ?_
  intro c a w hG hn h
  unfold ref10_SameStop at hF
  change SatL c [.slot 0 (aggVP [one (intVP .u32 a_0.f_Home), bytesCk 32 a_0.f_Key, one (intVP .i64 a_0.f_Watcher), one (intVP .i64 a_0.f_Sig.f_Index), one (slVP (dC 32) a_0.f_Sig.f_Parts), one (slVP (dC 32) a_0.f_Sig.f_Others), one (slVP (dC 32) a_0.f_Sig.f_Path)]), .slot 1 (aggVP [one (intVP .u32 a_1.f_Home), bytesCk 32 a_1.f_Key, one (intVP .i64 a_1.f_Watcher), one (intVP .i64 a_1.f_Sig.f_Index), one (slVP (dC 32) a_1.f_Sig.f_Parts), one (slVP (dC 32) a_1.f_Sig.f_Others), one (slVP (dC 32) a_1.f_Sig.f_Path)])] a w at h
  refine regS mixed hn hG h [504, 502, 503, 501] (ob [0] (op_box q0 (cells_agg _)) <| ob [1] (op_box q0 (cells_agg _)) <| ov [] (op_assign qb) .nil) fun b1 a w h => ?_
  refine wp_seq ?_
  refine wp_cut (fun a w => ∃ (x4 : Bool), ref10_SameStop.j1 x4 = some r ∧ SatL c [.slot 4 (boolVP x4)] a w) ?_ ?_
  · rcases Bool.eq_false_or_eq_true (decide (a_0.f_Home = a_1.f_Home)) with hb5 | hb5
    · replace hF := tt_of hb5 hF
      rcases Bool.eq_false_or_eq_true (decide (a_0.f_Key = a_1.f_Key)) with hb6 | hb6
      · replace hF := tt_of hb6 hF
        rcases Bool.eq_false_or_eq_true (decide (a_0.f_Watcher = a_1.f_Watcher)) with hb7 | hb7
        · replace hF := tt_of hb7 hF
          obtain ⟨r3, hr3, hF⟩ := bind_some hF
          refine reg mixed hn hG h [500] (ov [0] (op_fieldAddr_lbm (p := (b1 0)) (n := 1) 0 0 Tryd.underlying115 rfl Tryd.sizeOf22 (by decide) q0 rfl) <| ov [500, 2] (op_load_lb1 [] [bytesCk 32 a_0.f_Key, one (intVP .i64 a_0.f_Watcher), one (intVP .i64 a_0.f_Sig.f_Index), one (slVP (dC 32) a_0.f_Sig.f_Parts), one (slVP (dC 32) a_0.f_Sig.f_Others), one (slVP (dC 32) a_0.f_Sig.f_Path)] 1 Tryd.isAgg22 q0 rfl rfl) <| ov [1] (op_fieldAddr_lbm (p := (b1 1)) (n := 1) 0 0 Tryd.underlying115 rfl Tryd.sizeOf22 (by decide) q0 rfl) <| ov [500, 3] (op_load_lb1 [] [bytesCk 32 a_1.f_Key, one (intVP .i64 a_1.f_Watcher), one (intVP .i64 a_1.f_Sig.f_Index), one (slVP (dC 32) a_1.f_Sig.f_Parts), one (slVP (dC 32) a_1.f_Sig.f_Others), one (slVP (dC 32) a_1.f_Sig.f_Path)] 1 Tryd.isAgg22 q0 rfl rfl) <| ov [502, 500] (op_bin bin_eql q0 q1) <| ov [500] (op_move q0) <| oe [500, 0] [] (GOk.on_eq hb5 rfl rfl rfl (op_fieldAddr_lbm (p := (b1 0)) (n := 32) 0 1 Tryd.underlying115 rfl Tryd.sizeOf25 (by decide) q0 rfl)) <| oe [501, 500, 2] [] (GOk.on_eq hb5 rfl rfl rfl (op_load_lb [one (intVP .u32 a_0.f_Home)] [bytesCk 32 a_0.f_Key] [one (intVP .i64 a_0.f_Watcher), one (intVP .i64 a_0.f_Sig.f_Index), one (slVP (dC 32) a_0.f_Sig.f_Parts), one (slVP (dC 32) a_0.f_Sig.f_Others), one (slVP (dC 32) a_0.f_Sig.f_Path)] 1 Tryd.isAgg25 Tryd.sizeOf25 q0 rfl rfl rfl)) <| oe [502, 1] [] (GOk.on_eq hb5 rfl rfl rfl (op_fieldAddr_lbm (p := (b1 1)) (n := 32) 0 1 Tryd.underlying115 rfl Tryd.sizeOf25 (by decide) q0 rfl)) <| oe [503, 500, 3] [] (GOk.on_eq hb5 rfl rfl rfl (op_load_lb [one (intVP .u32 a_1.f_Home)] [bytesCk 32 a_1.f_Key] [one (intVP .i64 a_1.f_Watcher), one (intVP .i64 a_1.f_Sig.f_Index), one (slVP (dC 32) a_1.f_Sig.f_Parts), one (slVP (dC 32) a_1.f_Sig.f_Others), one (slVP (dC 32) a_1.f_Sig.f_Path)] 1 Tryd.isAgg25 Tryd.sizeOf25 q0 rfl rfl rfl)) <| oe [504, 502, 500] [] (GOk.on_eq hb5 rfl rfl rfl (op_bin (bin_aeql Tryd.underlying25 Tryd.underlying5 Tryd.type5 Tryd.sizeOf5 Tryd.isAgg5 Tryd.eqGuardType25) q0 q1)) <| ov [505, 500] (op_pick_t hb5 q0 q1) <| ov [500] (op_move q0) <| oe [500, 0] [] (GOk.on_eq hb6 rfl rfl rfl (op_fieldAddr_lbm (p := (b1 0)) (n := 1) 0 33 Tryd.underlying115 rfl Tryd.sizeOf3 (by decide) q0 rfl)) <| oe [501, 500, 2] [] (GOk.on_eq hb6 rfl rfl rfl (op_load_lb1 [one (intVP .u32 a_0.f_Home), bytesCk 32 a_0.f_Key] [one (intVP .i64 a_0.f_Sig.f_Index), one (slVP (dC 32) a_0.f_Sig.f_Parts), one (slVP (dC 32) a_0.f_Sig.f_Others), one (slVP (dC 32) a_0.f_Sig.f_Path)] 1 Tryd.isAgg3 q0 rfl rfl)) <| oe [502, 1] [] (GOk.on_eq hb6 rfl rfl rfl (op_fieldAddr_lbm (p := (b1 1)) (n := 1) 0 33 Tryd.underlying115 rfl Tryd.sizeOf3 (by decide) q0 rfl)) <| oe [503, 500, 3] [] (GOk.on_eq hb6 rfl rfl rfl (op_load_lb1 [one (intVP .u32 a_1.f_Home), bytesCk 32 a_1.f_Key] [one (intVP .i64 a_1.f_Sig.f_Index), one (slVP (dC 32) a_1.f_Sig.f_Parts), one (slVP (dC 32) a_1.f_Sig.f_Others), one (slVP (dC 32) a_1.f_Sig.f_Path)] 1 Tryd.isAgg3 q0 rfl rfl)) <| oe [504, 502, 500] [] (GOk.on_eq hb6 rfl rfl rfl (op_bin bin_eql q0 q1)) <| ov [505, 500] (op_pick_t hb6 q0 q1) <| ov [500] (op_move q0) <| oe [500, 0] [] (GOk.on_eq hb7 rfl rfl rfl (op_fieldAddr_lbm (p := (b1 0)) (n := 4) 0 34 Tryd.underlying115 rfl Tryd.sizeOf35 (by decide) q0 rfl)) <| oe [501, 500, 2] [] (GOk.on_eq hb7 rfl rfl rfl (op_load_lb [one (intVP .u32 a_0.f_Home), bytesCk 32 a_0.f_Key, one (intVP .i64 a_0.f_Watcher)] [one (intVP .i64 a_0.f_Sig.f_Index), one (slVP (dC 32) a_0.f_Sig.f_Parts), one (slVP (dC 32) a_0.f_Sig.f_Others), one (slVP (dC 32) a_0.f_Sig.f_Path)] [] 1 Tryd.isAgg35 Tryd.sizeOf35 q0 rfl rfl rfl)) <| oe [502, 1] [] (GOk.on_eq hb7 rfl rfl rfl (op_fieldAddr_lbm (p := (b1 1)) (n := 4) 0 34 Tryd.underlying115 rfl Tryd.sizeOf35 (by decide) q0 rfl)) <| oe [503, 500, 3] [] (GOk.on_eq hb7 rfl rfl rfl (op_load_lb [one (intVP .u32 a_1.f_Home), bytesCk 32 a_1.f_Key, one (intVP .i64 a_1.f_Watcher)] [one (intVP .i64 a_1.f_Sig.f_Index), one (slVP (dC 32) a_1.f_Sig.f_Parts), one (slVP (dC 32) a_1.f_Sig.f_Others), one (slVP (dC 32) a_1.f_Sig.f_Path)] [] 1 Tryd.isAgg35 Tryd.sizeOf35 q0 rfl rfl rfl)) <| oe [504, 502, 500] [] (GOk.on_eq hb7 rfl rfl rfl (op_call Tryd.call77 (ref03_SameSig_ok hr3) ⟨q0, q1, trivial⟩)) <| ov [505, 500] (op_pick_t hb7 q0 q1) <| ov [500] (op_assign q0) .nil) fun _ a w h => ?_
          exact ⟨r3, hF, h.sub [0] (by rfl)⟩
        · replace hF := ff_of hb7 hF
          refine reg mixed hn hG h [500] (ov [0] (op_fieldAddr_lbm (p := (b1 0)) (n := 1) 0 0 Tryd.underlying115 rfl Tryd.sizeOf22 (by decide) q0 rfl) <| ov [500, 2] (op_load_lb1 [] [bytesCk 32 a_0.f_Key, one (intVP .i64 a_0.f_Watcher), one (intVP .i64 a_0.f_Sig.f_Index), one (slVP (dC 32) a_0.f_Sig.f_Parts), one (slVP (dC 32) a_0.f_Sig.f_Others), one (slVP (dC 32) a_0.f_Sig.f_Path)] 1 Tryd.isAgg22 q0 rfl rfl) <| ov [1] (op_fieldAddr_lbm (p := (b1 1)) (n := 1) 0 0 Tryd.underlying115 rfl Tryd.sizeOf22 (by decide) q0 rfl) <| ov [500, 3] (op_load_lb1 [] [bytesCk 32 a_1.f_Key, one (intVP .i64 a_1.f_Watcher), one (intVP .i64 a_1.f_Sig.f_Index), one (slVP (dC 32) a_1.f_Sig.f_Parts), one (slVP (dC 32) a_1.f_Sig.f_Others), one (slVP (dC 32) a_1.f_Sig.f_Path)] 1 Tryd.isAgg22 q0 rfl rfl) <| ov [502, 500] (op_bin bin_eql q0 q1) <| ov [500] (op_move q0) <| oe [500, 0] [] (GOk.on_eq hb5 rfl rfl rfl (op_fieldAddr_lbm (p := (b1 0)) (n := 32) 0 1 Tryd.underlying115 rfl Tryd.sizeOf25 (by decide) q0 rfl)) <| oe [501, 500, 2] [] (GOk.on_eq hb5 rfl rfl rfl (op_load_lb [one (intVP .u32 a_0.f_Home)] [bytesCk 32 a_0.f_Key] [one (intVP .i64 a_0.f_Watcher), one (intVP .i64 a_0.f_Sig.f_Index), one (slVP (dC 32) a_0.f_Sig.f_Parts), one (slVP (dC 32) a_0.f_Sig.f_Others), one (slVP (dC 32) a_0.f_Sig.f_Path)] 1 Tryd.isAgg25 Tryd.sizeOf25 q0 rfl rfl rfl)) <| oe [502, 1] [] (GOk.on_eq hb5 rfl rfl rfl (op_fieldAddr_lbm (p := (b1 1)) (n := 32) 0 1 Tryd.underlying115 rfl Tryd.sizeOf25 (by decide) q0 rfl)) <| oe [503, 500, 3] [] (GOk.on_eq hb5 rfl rfl rfl (op_load_lb [one (intVP .u32 a_1.f_Home)] [bytesCk 32 a_1.f_Key] [one (intVP .i64 a_1.f_Watcher), one (intVP .i64 a_1.f_Sig.f_Index), one (slVP (dC 32) a_1.f_Sig.f_Parts), one (slVP (dC 32) a_1.f_Sig.f_Others), one (slVP (dC 32) a_1.f_Sig.f_Path)] 1 Tryd.isAgg25 Tryd.sizeOf25 q0 rfl rfl rfl)) <| oe [504, 502, 500] [] (GOk.on_eq hb5 rfl rfl rfl (op_bin (bin_aeql Tryd.underlying25 Tryd.underlying5 Tryd.type5 Tryd.sizeOf5 Tryd.isAgg5 Tryd.eqGuardType25) q0 q1)) <| ov [505, 500] (op_pick_t hb5 q0 q1) <| ov [500] (op_move q0) <| oe [500, 0] [] (GOk.on_eq hb6 rfl rfl rfl (op_fieldAddr_lbm (p := (b1 0)) (n := 1) 0 33 Tryd.underlying115 rfl Tryd.sizeOf3 (by decide) q0 rfl)) <| oe [501, 500, 2] [] (GOk.on_eq hb6 rfl rfl rfl (op_load_lb1 [one (intVP .u32 a_0.f_Home), bytesCk 32 a_0.f_Key] [one (intVP .i64 a_0.f_Sig.f_Index), one (slVP (dC 32) a_0.f_Sig.f_Parts), one (slVP (dC 32) a_0.f_Sig.f_Others), one (slVP (dC 32) a_0.f_Sig.f_Path)] 1 Tryd.isAgg3 q0 rfl rfl)) <| oe [502, 1] [] (GOk.on_eq hb6 rfl rfl rfl (op_fieldAddr_lbm (p := (b1 1)) (n := 1) 0 33 Tryd.underlying115 rfl Tryd.sizeOf3 (by decide) q0 rfl)) <| oe [503, 500, 3] [] (GOk.on_eq hb6 rfl rfl rfl (op_load_lb1 [one (intVP .u32 a_1.f_Home), bytesCk 32 a_1.f_Key] [one (intVP .i64 a_1.f_Sig.f_Index), one (slVP (dC 32) a_1.f_Sig.f_Parts), one (slVP (dC 32) a_1.f_Sig.f_Others), one (slVP (dC 32) a_1.f_Sig.f_Path)] 1 Tryd.isAgg3 q0 rfl rfl)) <| oe [504, 502, 500] [] (GOk.on_eq hb6 rfl rfl rfl (op_bin bin_eql q0 q1)) <| ov [505, 500] (op_pick_t hb6 q0 q1) <| ov [500] (op_move q0) <| oe [500] [] (GOk.off_v (want := true) hb7 rfl rfl rfl rfl) <| oe [501] [] (GOk.off_v (want := true) hb7 rfl rfl rfl rfl) <| oe [502] [] (GOk.off_v (want := true) hb7 rfl rfl rfl rfl) <| oe [503] [] (GOk.off_v (want := true) hb7 rfl rfl rfl rfl) <| oe [504] [] (GOk.off_v (want := true) hb7 rfl rfl rfl rfl) <| ov [505] (op_pick_f hb7 q0 qb) <| ov [500] (op_assign q0) .nil) fun _ a w h => ?_
          exact ⟨false, hF, h.sub [0] (by rfl)⟩
      · replace hF := ff_of hb6 hF
        refine reg mixed hn hG h [500] (ov [0] (op_fieldAddr_lbm (p := (b1 0)) (n := 1) 0 0 Tryd.underlying115 rfl Tryd.sizeOf22 (by decide) q0 rfl) <| ov [500, 2] (op_load_lb1 [] [bytesCk 32 a_0.f_Key, one (intVP .i64 a_0.f_Watcher), one (intVP .i64 a_0.f_Sig.f_Index), one (slVP (dC 32) a_0.f_Sig.f_Parts), one (slVP (dC 32) a_0.f_Sig.f_Others), one (slVP (dC 32) a_0.f_Sig.f_Path)] 1 Tryd.isAgg22 q0 rfl rfl) <| ov [1] (op_fieldAddr_lbm (p := (b1 1)) (n := 1) 0 0 Tryd.underlying115 rfl Tryd.sizeOf22 (by decide) q0 rfl) <| ov [500, 3] (op_load_lb1 [] [bytesCk 32 a_1.f_Key, one (intVP .i64 a_1.f_Watcher), one (intVP .i64 a_1.f_Sig.f_Index), one (slVP (dC 32) a_1.f_Sig.f_Parts), one (slVP (dC 32) a_1.f_Sig.f_Others), one (slVP (dC 32) a_1.f_Sig.f_Path)] 1 Tryd.isAgg22 q0 rfl rfl) <| ov [502, 500] (op_bin bin_eql q0 q1) <| ov [500] (op_move q0) <| oe [500, 0] [] (GOk.on_eq hb5 rfl rfl rfl (op_fieldAddr_lbm (p := (b1 0)) (n := 32) 0 1 Tryd.underlying115 rfl Tryd.sizeOf25 (by decide) q0 rfl)) <| oe [501, 500, 2] [] (GOk.on_eq hb5 rfl rfl rfl (op_load_lb [one (intVP .u32 a_0.f_Home)] [bytesCk 32 a_0.f_Key] [one (intVP .i64 a_0.f_Watcher), one (intVP .i64 a_0.f_Sig.f_Index), one (slVP (dC 32) a_0.f_Sig.f_Parts), one (slVP (dC 32) a_0.f_Sig.f_Others), one (slVP (dC 32) a_0.f_Sig.f_Path)] 1 Tryd.isAgg25 Tryd.sizeOf25 q0 rfl rfl rfl)) <| oe [502, 1] [] (GOk.on_eq hb5 rfl rfl rfl (op_fieldAddr_lbm (p := (b1 1)) (n := 32) 0 1 Tryd.underlying115 rfl Tryd.sizeOf25 (by decide) q0 rfl)) <| oe [503, 500, 3] [] (GOk.on_eq hb5 rfl rfl rfl (op_load_lb [one (intVP .u32 a_1.f_Home)] [bytesCk 32 a_1.f_Key] [one (intVP .i64 a_1.f_Watcher), one (intVP .i64 a_1.f_Sig.f_Index), one (slVP (dC 32) a_1.f_Sig.f_Parts), one (slVP (dC 32) a_1.f_Sig.f_Others), one (slVP (dC 32) a_1.f_Sig.f_Path)] 1 Tryd.isAgg25 Tryd.sizeOf25 q0 rfl rfl rfl)) <| oe [504, 502, 500] [] (GOk.on_eq hb5 rfl rfl rfl (op_bin (bin_aeql Tryd.underlying25 Tryd.underlying5 Tryd.type5 Tryd.sizeOf5 Tryd.isAgg5 Tryd.eqGuardType25) q0 q1)) <| ov [505, 500] (op_pick_t hb5 q0 q1) <| ov [500] (op_move q0) <| oe [500] [] (GOk.off_v (want := true) hb6 rfl rfl rfl rfl) <| oe [501] [] (GOk.off_v (want := true) hb6 rfl rfl rfl rfl) <| oe [502] [] (GOk.off_v (want := true) hb6 rfl rfl rfl rfl) <| oe [503] [] (GOk.off_v (want := true) hb6 rfl rfl rfl rfl) <| oe [504] [] (GOk.off_v (want := true) hb6 rfl rfl rfl rfl) <| ov [505] (op_pick_f hb6 q0 qb) <| ov [500] (op_move q0) <| oe [500] [] (GOk.off_v (want := true) rfl rfl rfl rfl rfl) <| oe [501] [] (GOk.off_v (want := true) rfl rfl rfl rfl rfl) <| oe [502] [] (GOk.off_v (want := true) rfl rfl rfl rfl rfl) <| oe [503] [] (GOk.off_v (want := true) rfl rfl rfl rfl rfl) <| oe [504] [] (GOk.off_v (want := true) rfl rfl rfl rfl rfl) <| ov [505] (op_pick_f rfl q0 qb) <| ov [500] (op_assign q0) .nil) fun _ a w h => ?_
        exact ⟨false, hF, h.sub [0] (by rfl)⟩
    · replace hF := ff_of hb5 hF
      refine reg mixed hn hG h [500] (ov [0] (op_fieldAddr_lbm (p := (b1 0)) (n := 1) 0 0 Tryd.underlying115 rfl Tryd.sizeOf22 (by decide) q0 rfl) <| ov [500, 2] (op_load_lb1 [] [bytesCk 32 a_0.f_Key, one (intVP .i64 a_0.f_Watcher), one (intVP .i64 a_0.f_Sig.f_Index), one (slVP (dC 32) a_0.f_Sig.f_Parts), one (slVP (dC 32) a_0.f_Sig.f_Others), one (slVP (dC 32) a_0.f_Sig.f_Path)] 1 Tryd.isAgg22 q0 rfl rfl) <| ov [1] (op_fieldAddr_lbm (p := (b1 1)) (n := 1) 0 0 Tryd.underlying115 rfl Tryd.sizeOf22 (by decide) q0 rfl) <| ov [500, 3] (op_load_lb1 [] [bytesCk 32 a_1.f_Key, one (intVP .i64 a_1.f_Watcher), one (intVP .i64 a_1.f_Sig.f_Index), one (slVP (dC 32) a_1.f_Sig.f_Parts), one (slVP (dC 32) a_1.f_Sig.f_Others), one (slVP (dC 32) a_1.f_Sig.f_Path)] 1 Tryd.isAgg22 q0 rfl rfl) <| ov [502, 500] (op_bin bin_eql q0 q1) <| ov [500] (op_move q0) <| oe [500] [] (GOk.off_v (want := true) hb5 rfl rfl rfl rfl) <| oe [501] [] (GOk.off_v (want := true) hb5 rfl rfl rfl rfl) <| oe [502] [] (GOk.off_v (want := true) hb5 rfl rfl rfl rfl) <| oe [503] [] (GOk.off_v (want := true) hb5 rfl rfl rfl rfl) <| oe [504] [] (GOk.off_v (want := true) hb5 rfl rfl rfl rfl) <| ov [505] (op_pick_f hb5 q0 qb) <| ov [500] (op_move q0) <| oe [500] [] (GOk.off_v (want := true) rfl rfl rfl rfl rfl) <| oe [501] [] (GOk.off_v (want := true) rfl rfl rfl rfl rfl) <| oe [502] [] (GOk.off_v (want := true) rfl rfl rfl rfl rfl) <| oe [503] [] (GOk.off_v (want := true) rfl rfl rfl rfl rfl) <| oe [504] [] (GOk.off_v (want := true) rfl rfl rfl rfl rfl) <| ov [505] (op_pick_f rfl q0 qb) <| ov [500] (op_move q0) <| oe [500] [] (GOk.off_v (want := true) rfl rfl rfl rfl rfl) <| oe [501] [] (GOk.off_v (want := true) rfl rfl rfl rfl rfl) <| oe [502] [] (GOk.off_v (want := true) rfl rfl rfl rfl rfl) <| oe [503] [] (GOk.off_v (want := true) rfl rfl rfl rfl rfl) <| oe [504] [] (GOk.off_v (want := true) rfl rfl rfl rfl rfl) <| ov [505] (op_pick_f rfl q0 qb) <| ov [500] (op_assign q0) .nil) fun _ a w h => ?_
      exact ⟨false, hF, h.sub [0] (by rfl)⟩
  · clear h hF
    rintro a w ⟨x4, hF, h⟩
    unfold ref10_SameStop.j1 at hF
    show Code.wp Tryd.prog _ _ a w
    refine wp_ret ?_
    obtain rfl := Option.some.inj hF
    exact ⟨.inl rfl, ret1 h Tryd.results63 (r_tmp 0 rfl) [] [] rfl rfl rfl⟩

def update_Halt (L_0 : Option O_Log) (a_1 : Int) (a_2 : List UInt8) (a_3 : Int) : Option ((List UInt8) × (Option O_Log)) := ((wire_Word a_1).bind fun r3 => ((wire_Digest a_2).bind fun r4 => ((wire_Word (IntKind.wrap .u32 a_3)).bind fun r5 => ((digest_Log_Of L_0 9 [r3, r4, r5]).bind fun r6 => some (r6.1, r6.2)))))
theorem update_Halt_ok {p_0 : Value} {L_0 : Option O_Log} {a_1 : Int} {a_2 : List UInt8} {a_3 : Int} {r : (List UInt8) × (Option O_Log)} (hF : update_Halt L_0 a_1 a_2 a_3 = some r) : CallOk Tryd.prog KG 132 [(eqVP p_0), (intVP .u32 a_1), (aggVP [bytesCk 32 a_2]), (intVP .i64 a_3)] [(Log_e p_0 L_0)] (fun _ => [Log_e p_0 r.2]) (aggVP [bytesCk 32 r.1]) := by
  refine CallOk.intro 19 Tryd.func132 rfl Tryd.ntmps132 (Nat.le_of_ble_eq_true rfl) ?_
  intro c a w hG hn h
  unfold update_Halt at hF
  change SatL c [.slot 0 (eqVP p_0), .slot 1 (intVP .u32 a_1), .slot 2 (aggVP [bytesCk 32 a_2]), .slot 3 (intVP .i64 a_3), .res (Log_e p_0 L_0)] a w at h
  refine regS mixed hn hG h [0, 1, 3, 503, 501, 4, 502, 500] (ob [2] (op_box q0 (cells_agg _)) <| ob [] (op_alloc Tryd.zeroValue25 z25) .nil) fun b1 a w h => ?_
  obtain ⟨r3, hr3, hF⟩ := bind_some hF
  obtain ⟨r4, hr4, hF⟩ := bind_some hF
  obtain ⟨r5, hr5, hF⟩ := bind_some hF
  obtain ⟨r6, hr6, hF⟩ := bind_some hF
  refine regS mixed hn hG h [4, 500, 501] (ov [0] (op_move q0) <| ov [1] (op_move q0) <| oc [500] [] Tryd.call122 (wire_Word_ok hr3) ⟨q0, trivial⟩ <| ov [3, 6] (op_load_w 1 Tryd.isAgg25 Tryd.sizeOf25 q0) <| oc [500] [] Tryd.call123 (wire_Digest_ok hr4) ⟨q0, trivial⟩ <| ov [2] (op_move q0) <| ov [500] (op_convert_int Tryd.underlying3 Tryd.underlying22 q0) <| oc [500] [] Tryd.call122 (wire_Word_ok hr5) ⟨q0, trivial⟩ <| ov [505, 503, 500] (op_lit (xs := [.tmp 11, .tmp 13, .tmp 16]) (ys := [r3, r4, r5]) _ rfl Tryd.underlying151 Tryd.sizeOf9 Tryd.zeroValue9 rfl rfl (by decide) (by decide) ⟨⟨_, q0, (cells_one (one_str _))⟩, ⟨_, q1, (cells_one (one_str _))⟩, ⟨_, q2, (cells_one (one_str _))⟩, trivial⟩ lens_strC) <| oc [508, 500] [5] Tryd.call135 (digest_Log_Of_ok hr6) ⟨q0, qi, q1, trivial⟩ <| ou [4, 501] 7 (op_store_w Tryd.sizeOf25 q0 q1 (cells_agg _)) .nil) fun _ a w h => ?_
  refine wp_ret ?_
  obtain rfl := Option.some.inj hF
  exact ⟨.inl rfl, ret1 h Tryd.results132 (r_cell 0 1 rfl rfl Tryd.isAgg25 Tryd.sizeOf25 rfl) [2] [(Log_e p_0 r6.2)] rfl rfl rfl⟩

def update_Stop (L_0 : Option O_Log) (a_1 : S_keys_Signer) (a_2 : Int) (a_3 : List UInt8) (a_4 : Int) : Option (S_keys_Signer × S_api_Stop × Int × (Option O_Log)) := ((update_Halt L_0 a_2 a_3 a_4).bind fun r5 => ((keys_Signer_Sign a_1 r5.2 r5.1).bind fun r6 => (if (!decide (r6.2.2.1 = (0 : Int))) = true then some (a_1, (S_api_Stop.mk (0 : Int) (List.replicate 32 0) (0 : Int) (S_api_Sig.mk (0 : Int) [] [] [])), r6.2.2.1, r6.2.2.2) else some (r6.1, (S_api_Stop.mk a_2 a_3 a_4 r6.2.1), 0, r6.2.2.2))))
theorem update_Stop_ok {p_0 : Value} {L_0 : Option O_Log} {a_1 : S_keys_Signer} {a_2 : Int} {a_3 : List UInt8} {a_4 : Int} {r : S_keys_Signer × S_api_Stop × Int × (Option O_Log)} (hF : update_Stop L_0 a_1 a_2 a_3 a_4 = some r) : CallOk Tryd.prog KG 67 [(eqVP p_0), (aggVP [bytesCk 32 a_1.f_Seed, one (intVP .i64 a_1.f_Next), one (slVP (dC 32) a_1.f_Leaves)]), (intVP .u32 a_2), (aggVP [bytesCk 32 a_3]), (intVP .i64 a_4)] [(Log_e p_0 L_0)] (fun _ => [Log_e p_0 r.2.2.2]) (tupVP [(aggVP [bytesCk 32 r.1.f_Seed, one (intVP .i64 r.1.f_Next), one (slVP (dC 32) r.1.f_Leaves)]), (aggVP [one (intVP .u32 r.2.1.f_Home), bytesCk 32 r.2.1.f_Key, one (intVP .i64 r.2.1.f_Watcher), one (intVP .i64 r.2.1.f_Sig.f_Index), one (slVP (dC 32) r.2.1.f_Sig.f_Parts), one (slVP (dC 32) r.2.1.f_Sig.f_Others), one (slVP (dC 32) r.2.1.f_Sig.f_Path)]), (intVP .i64 r.2.2.1)]) := by
  refine CallOk.intro 39 Tryd.func67 rfl Tryd.ntmps67 (Nat.le_of_ble_eq_true rfl) ?_
  intro c a w hG hn h
  unfold update_Stop at hF
  change SatL c [.slot 0 (eqVP p_0), .slot 1 (aggVP [bytesCk 32 a_1.f_Seed, one (intVP .i64 a_1.f_Next), one (slVP (dC 32) a_1.f_Leaves)]), .slot 2 (intVP .u32 a_2), .slot 3 (aggVP [bytesCk 32 a_3]), .slot 4 (intVP .i64 a_4), .res (Log_e p_0 L_0)] a w at h
  refine regS mixed hn hG h [0, 2, 4, 508, 506, 504, 502, 5, 507, 505, 503, 501] (ob [1] (op_box q0 (cells_agg _)) <| ob [3] (op_box q0 (cells_agg _)) <| ob [] (op_alloc Tryd.zeroValue130 z130) <| ob [] (op_alloc Tryd.zeroValue115 z115) <| ov [] (op_assign qi) .nil) fun b1 a w h => ?_
  obtain ⟨r5, hr5, hF⟩ := bind_some hF
  obtain ⟨r6, hr6, hF⟩ := bind_some hF
  refine regS mixed hn hG h [1, 2, 3, 4, 5, 6, 506, 504, 500, 8, 9, 10, 11, 511, 502, 501] (ov [3, 8] (op_load_w 1 Tryd.isAgg130 Tryd.sizeOf130 q0) <| ov [0] (op_move q0) <| ov [0] (op_move q0) <| ov [1] (op_move q0) <| ov [4, 9] (op_load_w 1 Tryd.isAgg25 Tryd.sizeOf25 q0) <| ov [2] (op_move q0) <| oc [503, 502, 501, 500] [7] Tryd.call132 (update_Halt_ok hr5) ⟨q0, q1, q2, q3, trivial⟩ <| oc [507, 506, 501] [500] Tryd.call130 (keys_Signer_Sign_ok hr6) ⟨q0, q1, q2, trivial⟩ <| ov [501] (op_move q0) <| ov [500] (op_extract q0 rfl) <| ov [501] (op_extract q0 rfl) <| ov [502] (op_extract q0 rfl) <| ob [] (op_alloc Tryd.zeroValue130 z130) <| ob [] (op_alloc Tryd.zeroValue35 z35) <| og [503, 506] [502] [.res 12 100000 (fun v1_ _ => (lb (v1_) 130 [bytesCk 32 r6.1.f_Seed, one (intVP .i64 r6.1.f_Next), one (slVP (dC 32) r6.1.f_Leaves)]))] (GOk.plain (op_store_w Tryd.sizeOf130 q0 q1 (cells_agg _)) rfl) <| og [502, 506] [501] [.res 13 100000 (fun v1_ _ => (lb (v1_) 35 [one (intVP .i64 r6.2.1.f_Index), one (slVP (dC 32) r6.2.1.f_Parts), one (slVP (dC 32) r6.2.1.f_Others), one (slVP (dC 32) r6.2.1.f_Path)]))] (GOk.plain (op_store_w Tryd.sizeOf35 q0 q1 (cells_agg _)) rfl) <| ov [506] (op_assign q0) .nil) fun b7 a w h => ?_
  refine wp_seq ?_
  refine regS mixed hn hG h [0, 1, 2, 3, 4, 5, 6, 7, 8, 500, 9, 10, 11, 12, 13, 14, 15] (ov [8] (op_move q0) <| ov [500] (op_bin bin_neq q0 qi) .nil) fun _ a w h => ?_
  refine cnd h hF 9 [2, 4, 5, 8, 10, 12, 13, 14] [0, 1, 3, 4, 5, 6, 7, 11, 12, 13, 14, 15, 16] (fun hb9 hF h => ?_) (fun hb9 hF h => ?_)
  · refine regS mixed hn hG h [1, 2, 500, 502, 501, 7] (ov [0, 4] (op_load_w 1 Tryd.isAgg130 Tryd.sizeOf130 q0) <| ov [] (op_build [] rfl bu115 z115 rfl) <| ov [3] (op_move q0) <| ou [1, 502] 5 (op_store_w Tryd.sizeOf130 q0 q1 (cells_agg _)) <| ou [2, 502] 6 (op_store_w Tryd.sizeOf115 q0 q1 (cells_agg _)) <| ov [502] (op_assign q0) .nil) fun _ a w h => ?_
    refine wp_ret ?_
    obtain rfl := Option.some.inj hF
    exact ⟨.inl rfl, retn h (rs := [.cell 10 130, .cell 11 115, .tmp 12]) (Vs := [(aggVP [bytesCk 32 a_1.f_Seed, one (intVP .i64 a_1.f_Next), one (slVP (dC 32) a_1.f_Leaves)]), (aggVP [one (intVP .u32 (0 : Int)), bytesCk 32 (List.replicate 32 0), one (intVP .i64 (0 : Int)), one (intVP .i64 ((S_api_Sig.mk (0 : Int) [] [] []).f_Index)), one (slVP (dC 32) ((S_api_Sig.mk (0 : Int) [] [] []).f_Parts)), one (slVP (dC 32) ((S_api_Sig.mk (0 : Int) [] [] []).f_Others)), one (slVP (dC 32) ((S_api_Sig.mk (0 : Int) [] [] []).f_Path))]), (intVP .i64 r6.2.2.1)]) Tryd.results67 (by decide) ⟨(r_cell 0 3 rfl rfl Tryd.isAgg130 Tryd.sizeOf130 rfl), (r_cell 1 4 rfl rfl Tryd.isAgg115 Tryd.sizeOf115 rfl), (r_tmp 2 rfl), trivial⟩ [5] [(Log_e p_0 r6.2.2.2)] rfl rfl rfl⟩
  · refine wp_skip ?_
    show Code.wp Tryd.prog _ _ a w
    refine regS mixed hn hG h [3, 4, 500, 502, 501, 10] (ov [5, 11] (op_load_w 1 Tryd.isAgg130 Tryd.sizeOf130 q0) <| ov [0] (op_move q0) <| ov [2, 7] (op_load_w 1 Tryd.isAgg25 Tryd.sizeOf25 q0) <| ov [1] (op_move q0) <| ov [6, 12] (op_load_w 1 Tryd.isAgg35 Tryd.sizeOf35 q0) <| ov [503, 502, 501, 500] (op_build [(0, .tmp 34), (1, .tmp 35), (2, .tmp 36), (3, .tmp 37)] rfl bu115 z115 ⟨[], [one (intVP .u32 (0 : Int))], [bytesCk 32 (List.replicate 32 0), one (intVP .i64 (0 : Int)), one (intVP .i64 ((S_api_Sig.mk (0 : Int) [] [] []).f_Index)), one (slVP (dC 32) ((S_api_Sig.mk (0 : Int) [] [] []).f_Parts)), one (slVP (dC 32) ((S_api_Sig.mk (0 : Int) [] [] []).f_Others)), one (slVP (dC 32) ((S_api_Sig.mk (0 : Int) [] [] []).f_Path))], [one (intVP .u32 a_2)], _, rfl, rfl, rfl, q0, (cells_one (one_int _ _)), ⟨[one (intVP .u32 a_2)], [bytesCk 32 (List.replicate 32 0)], [one (intVP .i64 (0 : Int)), one (intVP .i64 ((S_api_Sig.mk (0 : Int) [] [] []).f_Index)), one (slVP (dC 32) ((S_api_Sig.mk (0 : Int) [] [] []).f_Parts)), one (slVP (dC 32) ((S_api_Sig.mk (0 : Int) [] [] []).f_Others)), one (slVP (dC 32) ((S_api_Sig.mk (0 : Int) [] [] []).f_Path))], [bytesCk 32 a_3], _, rfl, rfl, rfl, q1, (cells_agg _), ⟨[one (intVP .u32 a_2), bytesCk 32 a_3], [one (intVP .i64 (0 : Int))], [one (intVP .i64 ((S_api_Sig.mk (0 : Int) [] [] []).f_Index)), one (slVP (dC 32) ((S_api_Sig.mk (0 : Int) [] [] []).f_Parts)), one (slVP (dC 32) ((S_api_Sig.mk (0 : Int) [] [] []).f_Others)), one (slVP (dC 32) ((S_api_Sig.mk (0 : Int) [] [] []).f_Path))], [one (intVP .i64 a_4)], _, rfl, rfl, rfl, q2, (cells_one (one_int _ _)), ⟨[one (intVP .u32 a_2), bytesCk 32 a_3, one (intVP .i64 a_4)], [one (intVP .i64 ((S_api_Sig.mk (0 : Int) [] [] []).f_Index)), one (slVP (dC 32) ((S_api_Sig.mk (0 : Int) [] [] []).f_Parts)), one (slVP (dC 32) ((S_api_Sig.mk (0 : Int) [] [] []).f_Others)), one (slVP (dC 32) ((S_api_Sig.mk (0 : Int) [] [] []).f_Path))], [], [one (intVP .i64 r6.2.1.f_Index), one (slVP (dC 32) r6.2.1.f_Parts), one (slVP (dC 32) r6.2.1.f_Others), one (slVP (dC 32) r6.2.1.f_Path)], _, rfl, rfl, rfl, q3, (cells_agg _), rfl⟩⟩⟩⟩) <| ou [3, 505] 8 (op_store_w Tryd.sizeOf130 q0 q1 (cells_agg _)) <| ou [4, 501] 9 (op_store_w Tryd.sizeOf115 q0 q1 (cells_agg _)) <| ov [] (op_assign qi) .nil) fun _ a w h => ?_
    refine wp_ret ?_
    obtain rfl := Option.some.inj hF
    exact ⟨.inl rfl, retn h (rs := [.cell 10 130, .cell 11 115, .tmp 12]) (Vs := [(aggVP [bytesCk 32 r6.1.f_Seed, one (intVP .i64 r6.1.f_Next), one (slVP (dC 32) r6.1.f_Leaves)]), (aggVP [one (intVP .u32 a_2), bytesCk 32 a_3, one (intVP .i64 a_4), one (intVP .i64 r6.2.1.f_Index), one (slVP (dC 32) r6.2.1.f_Parts), one (slVP (dC 32) r6.2.1.f_Others), one (slVP (dC 32) r6.2.1.f_Path)]), (intVP .i64 0)]) Tryd.results67 (by decide) ⟨(r_cell 0 3 rfl rfl Tryd.isAgg130 Tryd.sizeOf130 rfl), (r_cell 1 4 rfl rfl Tryd.isAgg115 Tryd.sizeOf115 rfl), (r_tmp 2 rfl), trivial⟩ [5] [(Log_e p_0 r6.2.2.2)] rfl rfl rfl⟩

def update_Halts (L_0 : Option O_Log) (a_1 : List UInt8) (a_2 : S_api_Stop) : Option (Bool × (Option O_Log)) := ((update_Halt L_0 a_2.f_Home a_2.f_Key a_2.f_Watcher).bind fun r3 => ((keys_Verify r3.2 a_1 r3.1 a_2.f_Sig).bind fun r4 => some (r4.1, r4.2)))
theorem update_Halts_ok {p_0 : Value} {L_0 : Option O_Log} {a_1 : List UInt8} {a_2 : S_api_Stop} {r : Bool × (Option O_Log)} (hF : update_Halts L_0 a_1 a_2 = some r) : CallOk Tryd.prog KG 69 [(eqVP p_0), (aggVP [bytesCk 32 a_1]), (aggVP [one (intVP .u32 a_2.f_Home), bytesCk 32 a_2.f_Key, one (intVP .i64 a_2.f_Watcher), one (intVP .i64 a_2.f_Sig.f_Index), one (slVP (dC 32) a_2.f_Sig.f_Parts), one (slVP (dC 32) a_2.f_Sig.f_Others), one (slVP (dC 32) a_2.f_Sig.f_Path)])] [(Log_e p_0 L_0)] (fun _ => [Log_e p_0 r.2]) (boolVP r.1) := by
  refine CallOk.intro 20 Tryd.func69 rfl Tryd.ntmps69 (Nat.le_of_ble_eq_true rfl) ?_
  intro c a w hG hn h
  unfold update_Halts at hF
  change SatL c [.slot 0 (eqVP p_0), .slot 1 (aggVP [bytesCk 32 a_1]), .slot 2 (aggVP [one (intVP .u32 a_2.f_Home), bytesCk 32 a_2.f_Key, one (intVP .i64 a_2.f_Watcher), one (intVP .i64 a_2.f_Sig.f_Index), one (slVP (dC 32) a_2.f_Sig.f_Parts), one (slVP (dC 32) a_2.f_Sig.f_Others), one (slVP (dC 32) a_2.f_Sig.f_Path)]), .res (Log_e p_0 L_0)] a w at h
  refine regS mixed hn hG h [0, 504, 502, 3, 503, 501] (ob [1] (op_box q0 (cells_agg _)) <| ob [2] (op_box q0 (cells_agg _)) <| ov [] (op_assign qb) .nil) fun b1 a w h => ?_
  obtain ⟨r3, hr3, hF⟩ := bind_some hF
  obtain ⟨r4, hr4, hF⟩ := bind_some hF
  refine regS mixed hn hG h [500, 501] (ov [0] (op_move q0) <| ov [1, 4] (op_load_w 1 Tryd.isAgg25 Tryd.sizeOf25 q0) <| ov [0] (op_move q0) <| ov [2] (op_fieldAddr_lbm (p := (b1 1)) (n := 1) 0 0 Tryd.underlying115 rfl Tryd.sizeOf22 (by decide) q0 rfl) <| ov [500, 5] (op_load_lb1 [] [bytesCk 32 a_2.f_Key, one (intVP .i64 a_2.f_Watcher), one (intVP .i64 a_2.f_Sig.f_Index), one (slVP (dC 32) a_2.f_Sig.f_Parts), one (slVP (dC 32) a_2.f_Sig.f_Others), one (slVP (dC 32) a_2.f_Sig.f_Path)] 1 Tryd.isAgg22 q0 rfl rfl) <| ov [2] (op_fieldAddr_lbm (p := (b1 1)) (n := 32) 0 1 Tryd.underlying115 rfl Tryd.sizeOf25 (by decide) q0 rfl) <| ov [500, 5] (op_load_lb [one (intVP .u32 a_2.f_Home)] [bytesCk 32 a_2.f_Key] [one (intVP .i64 a_2.f_Watcher), one (intVP .i64 a_2.f_Sig.f_Index), one (slVP (dC 32) a_2.f_Sig.f_Parts), one (slVP (dC 32) a_2.f_Sig.f_Others), one (slVP (dC 32) a_2.f_Sig.f_Path)] 1 Tryd.isAgg25 Tryd.sizeOf25 q0 rfl rfl rfl) <| ov [2] (op_fieldAddr_lbm (p := (b1 1)) (n := 1) 0 33 Tryd.underlying115 rfl Tryd.sizeOf3 (by decide) q0 rfl) <| ov [500, 5] (op_load_lb1 [one (intVP .u32 a_2.f_Home), bytesCk 32 a_2.f_Key] [one (intVP .i64 a_2.f_Sig.f_Index), one (slVP (dC 32) a_2.f_Sig.f_Parts), one (slVP (dC 32) a_2.f_Sig.f_Others), one (slVP (dC 32) a_2.f_Sig.f_Path)] 1 Tryd.isAgg3 q0 rfl rfl) <| oc [506, 504, 502, 500] [3] Tryd.call132 (update_Halt_ok hr3) ⟨q0, q1, q2, q3, trivial⟩ <| ov [2] (op_fieldAddr_lbm (p := (b1 1)) (n := 4) 0 34 Tryd.underlying115 rfl Tryd.sizeOf35 (by decide) q0 rfl) <| ov [500, 5] (op_load_lb [one (intVP .u32 a_2.f_Home), bytesCk 32 a_2.f_Key, one (intVP .i64 a_2.f_Watcher)] [one (intVP .i64 a_2.f_Sig.f_Index), one (slVP (dC 32) a_2.f_Sig.f_Parts), one (slVP (dC 32) a_2.f_Sig.f_Others), one (slVP (dC 32) a_2.f_Sig.f_Path)] [] 1 Tryd.isAgg35 Tryd.sizeOf35 q0 rfl rfl rfl) <| oc [512, 511, 503, 500] [502] Tryd.call133 (keys_Verify_ok hr4) ⟨q0, q1, q2, q3, trivial⟩ <| ov [501] (op_assign q0) .nil) fun _ a w h => ?_
  refine wp_ret ?_
  obtain rfl := Option.some.inj hF
  exact ⟨.inl rfl, ret1 h Tryd.results69 (r_tmp 0 rfl) [1] [(Log_e p_0 r4.2)] rfl rfl rfl⟩

def law10_UpdateBack.j2 (x35 : Bool) : Option Bool := some x35
def law10_UpdateBack.j1 (a_5 : List UInt8) (x26 : Bool) (x27 : Option O_Log) : Option Bool := (if x26 = true then some false else ((update_Read a_5).bind fun r29 => ((update_ReadStop a_5).bind fun r30 => ((law10_awake).bind fun r31 => (if r31 = true then (if (!decide (r29.2 = (0 : Int))) = true then (if (!decide (r30.2 = (0 : Int))) = true then law10_UpdateBack.j2 true else ((update_StopBytes r30.1).bind fun r32 => law10_UpdateBack.j2 (decide (r32 = a_5)))) else ((update_Bytes r29.1).bind fun r33 => (if (decide (r33 = a_5)) = true then (if (!decide (r30.2 = (0 : Int))) = true then law10_UpdateBack.j2 true else ((update_StopBytes r30.1).bind fun r34 => law10_UpdateBack.j2 (decide (r34 = a_5)))) else law10_UpdateBack.j2 false))) else law10_UpdateBack.j2 false)))))
def law10_UpdateBack (a_0 : List UInt8) (a_1 : Int) (a_2 : List UInt8) (a_3 : List UInt8) (a_4 : Int) (a_5 : List UInt8) : Option Bool := ((law10_awake).bind fun r4 => (if (!r4) = true then some false else (if (decide ((10000 : Int) < (a_5.length : Int))) = true then ((law10_awake).bind fun r7 => some r7) else ((keys_New none a_0).bind fun r8 => ((keys_Signer_Root r8.1 r8.2).bind fun r10 => ((update_Sign r10.2 r8.1 a_1 a_2 a_3).bind fun r12 => ((update_Stop r12.2.2.2 r12.1 a_1 a_2 (IntKind.wrap .i64 a_4)).bind fun r14 => ((update_Bytes r12.2.1).bind fun r16 => ((update_Read r16).bind fun r17 => ((update_StopBytes r14.2.1).bind fun r19 => ((update_ReadStop r19).bind fun r20 => (if (!decide (r12.2.2.1 = (0 : Int))) = true then law10_UpdateBack.j1 a_5 true r14.2.2.2 else (if (!decide (r14.2.2.1 = (0 : Int))) = true then law10_UpdateBack.j1 a_5 true r14.2.2.2 else (if (!decide (r17.2 = (0 : Int))) = true then law10_UpdateBack.j1 a_5 true r14.2.2.2 else (if (!decide (r20.2 = (0 : Int))) = true then law10_UpdateBack.j1 a_5 true r14.2.2.2 else ((ref10_Same r12.2.1 r17.1).bind fun r22 => (if (!r22) = true then law10_UpdateBack.j1 a_5 true r14.2.2.2 else ((ref10_SameStop r14.2.1 r20.1).bind fun r23 => (if (!r23) = true then law10_UpdateBack.j1 a_5 true r14.2.2.2 else ((update_Right r14.2.2.2 r10.1 r17.1).bind fun r24 => (if (!r24.1) = true then law10_UpdateBack.j1 a_5 true r24.2 else ((update_Halts r24.2 r10.1 r20.1).bind fun r25 => law10_UpdateBack.j1 a_5 (!r25.1) r25.2))))))))))))))))))))))
theorem law10_UpdateBack_ok {a_0 : List UInt8} {a_1 : Int} {a_2 : List UInt8} {a_3 : List UInt8} {a_4 : Int} {a_5 : List UInt8} {r : Bool} (hF : law10_UpdateBack a_0 a_1 a_2 a_3 a_4 a_5 = some r) : CallOk Tryd.prog KG 10 [(aggVP [bytesCk 32 a_0]), (intVP .u32 a_1), (aggVP [bytesCk 32 a_2]), (aggVP [bytesCk 32 a_3]), (intVP .u16 a_4), (strVP a_5)] [] (fun _ => []) (boolVP r) := by
  refine CallOk.intro 134 Tryd.func10 rfl Tryd.ntmps10 (Nat.le_of_ble_eq_true rfl) ?_
  intro c a w hG hn h
  unfold law10_UpdateBack at hF
  change SatL c [.slot 0 (aggVP [bytesCk 32 a_0]), .slot 1 (intVP .u32 a_1), .slot 2 (aggVP [bytesCk 32 a_2]), .slot 3 (aggVP [bytesCk 32 a_3]), .slot 4 (intVP .u16 a_4), .slot 5 (strVP a_5)] a w at h
  refine regS mixed hn hG h [1, 4, 5, 506, 504, 502, 505, 503, 501] (ob [0] (op_box q0 (cells_agg _)) <| ob [2] (op_box q0 (cells_agg _)) <| ob [3] (op_box q0 (cells_agg _)) <| ov [] (op_assign qb) .nil) fun b1 a w h => ?_
  refine wp_seq ?_
  obtain ⟨r4, hr4, hF⟩ := bind_some hF
  refine regS mixed hn hG h [0, 1, 2, 3, 4, 5, 500, 6, 7, 8] (oc [] [] Tryd.call53 (law10_awake_ok hr4) trivial <| ov [500] (op_un (un_not _) q0) .nil) fun _ a w h => ?_
  refine cnd h hF 6 [] [0, 1, 2, 3, 4, 5, 7, 8, 9] (fun hb5 hF h => ?_) (fun hb5 hF h => ?_)
  · refine regS mixed hn hG h [500] (ov [] (op_assign qb) .nil) fun _ a w h => ?_
    refine wp_ret ?_
    obtain rfl := Option.some.inj hF
    exact ⟨.inl rfl, ret1 h Tryd.results10 (r_tmp 0 rfl) [] [] rfl rfl rfl⟩
  · refine wp_skip ?_
    show Code.wp Tryd.prog _ _ a w
    refine wp_seq ?_
    refine regS mixed hn hG h [0, 1, 2, 3, 4, 5, 500, 6, 7, 8] (ov [2] (op_move q0) <| ov [500] (op_len_str Tryd.underlying9 q0) <| ov [500] (op_bin bin_gtr q0 qi) .nil) fun _ a w h => ?_
    refine cnd h hF 6 [] [0, 1, 2, 3, 4, 5, 7, 8, 9] (fun hb6 hF h => ?_) (fun hb6 hF h => ?_)
    · obtain ⟨r7, hr7, hF⟩ := bind_some hF
      refine regS mixed hn hG h [500] (oc [] [] Tryd.call53 (law10_awake_ok hr7) trivial <| ov [500] (op_assign q0) .nil) fun _ a w h => ?_
      refine wp_ret ?_
      obtain rfl := Option.some.inj hF
      exact ⟨.inl rfl, ret1 h Tryd.results10 (r_tmp 0 rfl) [] [] rfl rfl rfl⟩
    · refine wp_skip ?_
      show Code.wp Tryd.prog _ _ a w
      replace h := h.snoc Log_nil
      replace h := h.sub [0, 1, 2, 3, 4, 5, 6, 7, 8, 9] (by rfl)
      change SatL c [.slot 1 (intVP .u32 a_1), .slot 4 (intVP .u16 a_4), .slot 5 (strVP a_5), .slot 6 (lpVP (b1 0) 0), .slot 8 (lpVP (b1 1) 0), .slot 9 (lpVP (b1 2) 0), .res (lb (b1 0) 25 [bytesCk 32 a_0]), .res (lb (b1 1) 25 [bytesCk 32 a_2]), .res (lb (b1 2) 25 [bytesCk 32 a_3]), .res (Log_e (.pointer none) none)] a w at h
      obtain ⟨r8, hr8, hF⟩ := bind_some hF
      refine regS mixed hn hG h [0, 1, 2, 4, 5, 502, 7, 8, 503, 500] (ov [3, 6] (op_load_w 1 Tryd.isAgg25 Tryd.sizeOf25 q0) <| oc [500] [9] Tryd.call64 (keys_New_ok hr8) ⟨(opc (ec _)), q0, trivial⟩ <| ob [] (op_alloc Tryd.zeroValue130 z130) <| og [501, 503] [500] [.res 2 100000 (fun v1_ _ => (lb (v1_) 130 [bytesCk 32 r8.1.f_Seed, one (intVP .i64 r8.1.f_Next), one (slVP (dC 32) r8.1.f_Leaves)]))] (GOk.plain (op_store_w Tryd.sizeOf130 q0 q1 (cells_agg _)) rfl) .nil) fun b9 a w h => ?_
      obtain ⟨r10, hr10, hF⟩ := bind_some hF
      refine regS mixed hn hG h [0, 1, 2, 3, 4, 5, 502, 6, 7, 9, 503, 500] (ov [5, 9] (op_load_w 1 Tryd.isAgg130 Tryd.sizeOf130 q0) <| oc [500] [8] Tryd.call65 (keys_Signer_Root_ok hr10) ⟨q0, (opc (ec _)), trivial⟩ <| ob [] (op_alloc Tryd.zeroValue25 z25) <| og [501, 503] [500] [.res 2 100000 (fun v1_ _ => (lb (v1_) 25 [bytesCk 32 r10.1]))] (GOk.plain (op_store_w Tryd.sizeOf25 q0 q1 (cells_agg _)) rfl) .nil) fun b11 a w h => ?_
      obtain ⟨r12, hr12, hF⟩ := bind_some hF
      refine regS mixed hn hG h [0, 1, 2, 3, 5, 6, 504, 500, 7, 502, 11, 509, 501] (ov [5, 9] (op_load_w 1 Tryd.isAgg130 Tryd.sizeOf130 q0) <| ov [0] (op_move q0) <| ov [3, 7] (op_load_w 1 Tryd.isAgg25 Tryd.sizeOf25 q0) <| ov [4, 8] (op_load_w 1 Tryd.isAgg25 Tryd.sizeOf25 q0) <| oc [503, 502, 501, 500] [10] Tryd.call66 (update_Sign_ok hr12) ⟨(opc (ec _)), q0, q1, q2, q3, trivial⟩ <| ov [501] (op_move q0) <| ov [500] (op_extract q0 rfl) <| ov [501] (op_extract q0 rfl) <| ov [502] (op_extract q0 rfl) <| ob [] (op_alloc Tryd.zeroValue37 z37) <| ou [5, 504] 9 (op_store_w Tryd.sizeOf130 q0 q1 (cells_agg _)) <| og [502, 504] [501] [.res 9 100000 (fun v1_ _ => (lb (v1_) 37 [one (intVP .u32 r12.2.1.f_Home), bytesCk 32 r12.2.1.f_Old, bytesCk 32 r12.2.1.f_New, one (intVP .i64 r12.2.1.f_Sig.f_Index), one (slVP (dC 32) r12.2.1.f_Sig.f_Parts), one (slVP (dC 32) r12.2.1.f_Sig.f_Others), one (slVP (dC 32) r12.2.1.f_Sig.f_Path)]))] (GOk.plain (op_store_w Tryd.sizeOf37 q0 q1 (cells_agg _)) rfl) <| ov [504] (op_assign q0) .nil) fun b13 a w h => ?_
      obtain ⟨r14, hr14, hF⟩ := bind_some hF
      refine regS mixed hn hG h [2, 5, 6, 7, 504, 500, 10, 12, 511, 501] (ov [4, 9] (op_load_w 1 Tryd.isAgg130 Tryd.sizeOf130 q0) <| ov [0] (op_move q0) <| ov [3, 8] (op_load_w 1 Tryd.isAgg25 Tryd.sizeOf25 q0) <| ov [1] (op_move q0) <| ov [500] (op_convert_int Tryd.underlying128 Tryd.underlying3 q0) <| oc [504, 503, 502, 500] [11] Tryd.call67 (update_Stop_ok hr14) ⟨(opc (ec _)), q0, q1, q2, q3, trivial⟩ <| ov [501] (op_move q0) <| ov [500] (op_extract q0 rfl) <| ov [501] (op_extract q0 rfl) <| ov [502] (op_extract q0 rfl) <| ob [] (op_alloc Tryd.zeroValue130 z130) <| ob [] (op_alloc Tryd.zeroValue115 z115) <| og [503, 506] [502] [.res 10 100000 (fun v1_ _ => (lb (v1_) 130 [bytesCk 32 r14.1.f_Seed, one (intVP .i64 r14.1.f_Next), one (slVP (dC 32) r14.1.f_Leaves)]))] (GOk.plain (op_store_w Tryd.sizeOf130 q0 q1 (cells_agg _)) rfl) <| og [502, 506] [501] [.res 11 100000 (fun v1_ _ => (lb (v1_) 115 [one (intVP .u32 r14.2.1.f_Home), bytesCk 32 r14.2.1.f_Key, one (intVP .i64 r14.2.1.f_Watcher), one (intVP .i64 r14.2.1.f_Sig.f_Index), one (slVP (dC 32) r14.2.1.f_Sig.f_Parts), one (slVP (dC 32) r14.2.1.f_Sig.f_Others), one (slVP (dC 32) r14.2.1.f_Sig.f_Path)]))] (GOk.plain (op_store_w Tryd.sizeOf115 q0 q1 (cells_agg _)) rfl) <| ov [506] (op_assign q0) .nil) fun b15 a w h => ?_
      obtain ⟨r16, hr16, hF⟩ := bind_some hF
      obtain ⟨r17, hr17, hF⟩ := bind_some hF
      refine regS mixed hn hG h [0, 1, 2, 3, 4, 5, 503, 500, 6, 7, 8, 9, 501] (ov [2, 7] (op_load_w 1 Tryd.isAgg37 Tryd.sizeOf37 q0) <| oc [500] [] Tryd.call59 (update_Bytes_ok hr16) ⟨q0, trivial⟩ <| oc [500] [] Tryd.call55 (update_Read_ok hr17) ⟨q0, trivial⟩ <| ov [500] (op_move q0) <| ov [500] (op_extract q0 rfl) <| ov [501] (op_extract q0 rfl) <| ob [] (op_alloc Tryd.zeroValue37 z37) <| og [501, 503] [500] [.res 6 100000 (fun v1_ _ => (lb (v1_) 37 [one (intVP .u32 r17.1.f_Home), bytesCk 32 r17.1.f_Old, bytesCk 32 r17.1.f_New, one (intVP .i64 r17.1.f_Sig.f_Index), one (slVP (dC 32) r17.1.f_Sig.f_Parts), one (slVP (dC 32) r17.1.f_Sig.f_Others), one (slVP (dC 32) r17.1.f_Sig.f_Path)]))] (GOk.plain (op_store_w Tryd.sizeOf37 q0 q1 (cells_agg _)) rfl) <| ov [503] (op_assign q0) .nil) fun b18 a w h => ?_
      obtain ⟨r19, hr19, hF⟩ := bind_some hF
      obtain ⟨r20, hr20, hF⟩ := bind_some hF
      refine regS mixed hn hG h [0, 1, 2, 3, 4, 5, 6, 7, 503, 500, 8, 9, 10, 11, 12, 501] (ov [4, 11] (op_load_w 1 Tryd.isAgg115 Tryd.sizeOf115 q0) <| oc [500] [] Tryd.call61 (update_StopBytes_ok hr19) ⟨q0, trivial⟩ <| oc [500] [] Tryd.call57 (update_ReadStop_ok hr20) ⟨q0, trivial⟩ <| ov [500] (op_move q0) <| ov [500] (op_extract q0 rfl) <| ov [501] (op_extract q0 rfl) <| ob [] (op_alloc Tryd.zeroValue115 z115) <| og [501, 503] [500] [.res 6 100000 (fun v1_ _ => (lb (v1_) 115 [one (intVP .u32 r20.1.f_Home), bytesCk 32 r20.1.f_Key, one (intVP .i64 r20.1.f_Watcher), one (intVP .i64 r20.1.f_Sig.f_Index), one (slVP (dC 32) r20.1.f_Sig.f_Parts), one (slVP (dC 32) r20.1.f_Sig.f_Others), one (slVP (dC 32) r20.1.f_Sig.f_Path)]))] (GOk.plain (op_store_w Tryd.sizeOf115 q0 q1 (cells_agg _)) rfl) <| ov [503] (op_assign q0) .nil) fun b21 a w h => ?_
      refine wp_seq ?_
      refine wp_seq ?_
      refine wp_cut (fun a w => ∃ (x26 : Bool), ∃ (x27 : Option O_Log), law10_UpdateBack.j1 a_5 x26 x27 = some r ∧ SatL c [.slot 5 (strVP a_5), .slot 20 (lpVP (b18 6) 0), .slot 22 (lpVP (b21 6) 0), .slot 102 (boolVP x26), .res (Log_e (.pointer none) x27), .res (lb (b18 6) 37 [one (intVP .u32 r17.1.f_Home), bytesCk 32 r17.1.f_Old, bytesCk 32 r17.1.f_New, one (intVP .i64 r17.1.f_Sig.f_Index), one (slVP (dC 32) r17.1.f_Sig.f_Parts), one (slVP (dC 32) r17.1.f_Sig.f_Others), one (slVP (dC 32) r17.1.f_Sig.f_Path)]), .res (lb (b21 6) 115 [one (intVP .u32 r20.1.f_Home), bytesCk 32 r20.1.f_Key, one (intVP .i64 r20.1.f_Watcher), one (intVP .i64 r20.1.f_Sig.f_Index), one (slVP (dC 32) r20.1.f_Sig.f_Parts), one (slVP (dC 32) r20.1.f_Sig.f_Others), one (slVP (dC 32) r20.1.f_Sig.f_Path)])] a w) ?_ ?_
      · rcases Bool.eq_false_or_eq_true (!decide (r12.2.2.1 = (0 : Int))) with hb41 | hb41
        · replace hF := tt_of hb41 hF
          refine reg mixed hn hG h [0, 6, 8, 500, 12, 14, 15] (ov [3] (op_move q0) <| ov [500] (op_bin bin_neq q0 qi) <| ov [500] (op_move q0) <| oe [500] [] (GOk.off_v (want := false) hb41 rfl rfl rfl rfl) <| oe [501] [] (GOk.off_v (want := false) hb41 rfl rfl rfl rfl) <| ov [502] (op_pick_t hb41 q0 qb) <| ov [500] (op_move q0) <| oe [500] [] (GOk.off_v (want := false) rfl rfl rfl rfl rfl) <| oe [501] [] (GOk.off_v (want := false) rfl rfl rfl rfl rfl) <| ov [502] (op_pick_t rfl q0 qb) <| ov [500] (op_move q0) <| oe [500] [] (GOk.off_v (want := false) rfl rfl rfl rfl rfl) <| oe [501] [] (GOk.off_v (want := false) rfl rfl rfl rfl rfl) <| ov [502] (op_pick_t rfl q0 qb) <| ov [500] (op_move q0) <| oe [500] [] (GOk.off_v (want := false) rfl rfl rfl rfl rfl) <| oe [501] [] (GOk.off_v (want := false) rfl rfl rfl rfl rfl) <| oe [502] [] (GOk.off_v (want := false) rfl rfl rfl rfl rfl) <| oe [503] [] (GOk.off_v (want := false) rfl rfl rfl rfl rfl) <| ov [504] (op_pick_t rfl q0 qb) <| ov [500] (op_move q0) <| oe [500] [] (GOk.off_v (want := false) rfl rfl rfl rfl rfl) <| oe [501] [] (GOk.off_v (want := false) rfl rfl rfl rfl rfl) <| oe [502] [] (GOk.off_v (want := false) rfl rfl rfl rfl rfl) <| oe [503] [] (GOk.off_v (want := false) rfl rfl rfl rfl rfl) <| ov [504] (op_pick_t rfl q0 qb) <| ov [500] (op_move q0) <| oe [500] [] (GOk.off_v (want := false) rfl rfl rfl rfl rfl) <| oe [501] [] (GOk.off_v (want := false) rfl rfl rfl rfl rfl) <| oe [502] [] (GOk.off_v (want := false) rfl rfl rfl rfl rfl) <| oe [503] [] (GOk.off_v (want := false) rfl rfl rfl rfl rfl) <| ov [504] (op_pick_t rfl q0 qb) <| ov [500] (op_move q0) <| oe [500] [] (GOk.off_v (want := false) rfl rfl rfl rfl rfl) <| oe [501] [] (GOk.off_v (want := false) rfl rfl rfl rfl rfl) <| oe [502] [] (GOk.off_v (want := false) rfl rfl rfl rfl rfl) <| oe [503] [] (GOk.off_v (want := false) rfl rfl rfl rfl rfl) <| ov [504] (op_pick_t rfl q0 qb) .nil) fun _ a w h => ?_
          exact ⟨true, r14.2.2.2, hF, h.sub [0, 1, 2, 3, 4, 5, 6] (by rfl)⟩
        · replace hF := ff_of hb41 hF
          rcases Bool.eq_false_or_eq_true (!decide (r14.2.2.1 = (0 : Int))) with hb42 | hb42
          · replace hF := tt_of hb42 hF
            refine reg mixed hn hG h [0, 6, 8, 500, 12, 14, 15] (ov [3] (op_move q0) <| ov [500] (op_bin bin_neq q0 qi) <| ov [500] (op_move q0) <| oe [500, 5] [] (GOk.on_eq hb41 rfl rfl rfl (op_move q0)) <| oe [501, 500] [] (GOk.on_eq hb41 rfl rfl rfl (op_bin bin_neq q0 qi)) <| ov [502, 500] (op_pick_f hb41 q0 q1) <| ov [500] (op_move q0) <| oe [500] [] (GOk.off_v (want := false) hb42 rfl rfl rfl rfl) <| oe [501] [] (GOk.off_v (want := false) hb42 rfl rfl rfl rfl) <| ov [502] (op_pick_t hb42 q0 qb) <| ov [500] (op_move q0) <| oe [500] [] (GOk.off_v (want := false) rfl rfl rfl rfl rfl) <| oe [501] [] (GOk.off_v (want := false) rfl rfl rfl rfl rfl) <| ov [502] (op_pick_t rfl q0 qb) <| ov [500] (op_move q0) <| oe [500] [] (GOk.off_v (want := false) rfl rfl rfl rfl rfl) <| oe [501] [] (GOk.off_v (want := false) rfl rfl rfl rfl rfl) <| oe [502] [] (GOk.off_v (want := false) rfl rfl rfl rfl rfl) <| oe [503] [] (GOk.off_v (want := false) rfl rfl rfl rfl rfl) <| ov [504] (op_pick_t rfl q0 qb) <| ov [500] (op_move q0) <| oe [500] [] (GOk.off_v (want := false) rfl rfl rfl rfl rfl) <| oe [501] [] (GOk.off_v (want := false) rfl rfl rfl rfl rfl) <| oe [502] [] (GOk.off_v (want := false) rfl rfl rfl rfl rfl) <| oe [503] [] (GOk.off_v (want := false) rfl rfl rfl rfl rfl) <| ov [504] (op_pick_t rfl q0 qb) <| ov [500] (op_move q0) <| oe [500] [] (GOk.off_v (want := false) rfl rfl rfl rfl rfl) <| oe [501] [] (GOk.off_v (want := false) rfl rfl rfl rfl rfl) <| oe [502] [] (GOk.off_v (want := false) rfl rfl rfl rfl rfl) <| oe [503] [] (GOk.off_v (want := false) rfl rfl rfl rfl rfl) <| ov [504] (op_pick_t rfl q0 qb) <| ov [500] (op_move q0) <| oe [500] [] (GOk.off_v (want := false) rfl rfl rfl rfl rfl) <| oe [501] [] (GOk.off_v (want := false) rfl rfl rfl rfl rfl) <| oe [502] [] (GOk.off_v (want := false) rfl rfl rfl rfl rfl) <| oe [503] [] (GOk.off_v (want := false) rfl rfl rfl rfl rfl) <| ov [504] (op_pick_t rfl q0 qb) .nil) fun _ a w h => ?_
            exact ⟨true, r14.2.2.2, hF, h.sub [0, 1, 2, 3, 4, 5, 6] (by rfl)⟩
          · replace hF := ff_of hb42 hF
            rcases Bool.eq_false_or_eq_true (!decide (r17.2 = (0 : Int))) with hb43 | hb43
            · replace hF := tt_of hb43 hF
              refine reg mixed hn hG h [0, 6, 8, 500, 12, 14, 15] (ov [3] (op_move q0) <| ov [500] (op_bin bin_neq q0 qi) <| ov [500] (op_move q0) <| oe [500, 5] [] (GOk.on_eq hb41 rfl rfl rfl (op_move q0)) <| oe [501, 500] [] (GOk.on_eq hb41 rfl rfl rfl (op_bin bin_neq q0 qi)) <| ov [502, 500] (op_pick_f hb41 q0 q1) <| ov [500] (op_move q0) <| oe [500, 7] [] (GOk.on_eq hb42 rfl rfl rfl (op_move q0)) <| oe [501, 500] [] (GOk.on_eq hb42 rfl rfl rfl (op_bin bin_neq q0 qi)) <| ov [502, 500] (op_pick_f hb42 q0 q1) <| ov [500] (op_move q0) <| oe [500] [] (GOk.off_v (want := false) hb43 rfl rfl rfl rfl) <| oe [501] [] (GOk.off_v (want := false) hb43 rfl rfl rfl rfl) <| ov [502] (op_pick_t hb43 q0 qb) <| ov [500] (op_move q0) <| oe [500] [] (GOk.off_v (want := false) rfl rfl rfl rfl rfl) <| oe [501] [] (GOk.off_v (want := false) rfl rfl rfl rfl rfl) <| oe [502] [] (GOk.off_v (want := false) rfl rfl rfl rfl rfl) <| oe [503] [] (GOk.off_v (want := false) rfl rfl rfl rfl rfl) <| ov [504] (op_pick_t rfl q0 qb) <| ov [500] (op_move q0) <| oe [500] [] (GOk.off_v (want := false) rfl rfl rfl rfl rfl) <| oe [501] [] (GOk.off_v (want := false) rfl rfl rfl rfl rfl) <| oe [502] [] (GOk.off_v (want := false) rfl rfl rfl rfl rfl) <| oe [503] [] (GOk.off_v (want := false) rfl rfl rfl rfl rfl) <| ov [504] (op_pick_t rfl q0 qb) <| ov [500] (op_move q0) <| oe [500] [] (GOk.off_v (want := false) rfl rfl rfl rfl rfl) <| oe [501] [] (GOk.off_v (want := false) rfl rfl rfl rfl rfl) <| oe [502] [] (GOk.off_v (want := false) rfl rfl rfl rfl rfl) <| oe [503] [] (GOk.off_v (want := false) rfl rfl rfl rfl rfl) <| ov [504] (op_pick_t rfl q0 qb) <| ov [500] (op_move q0) <| oe [500] [] (GOk.off_v (want := false) rfl rfl rfl rfl rfl) <| oe [501] [] (GOk.off_v (want := false) rfl rfl rfl rfl rfl) <| oe [502] [] (GOk.off_v (want := false) rfl rfl rfl rfl rfl) <| oe [503] [] (GOk.off_v (want := false) rfl rfl rfl rfl rfl) <| ov [504] (op_pick_t rfl q0 qb) .nil) fun _ a w h => ?_
              exact ⟨true, r14.2.2.2, hF, h.sub [0, 1, 2, 3, 4, 5, 6] (by rfl)⟩
            · replace hF := ff_of hb43 hF
              rcases Bool.eq_false_or_eq_true (!decide (r20.2 = (0 : Int))) with hb44 | hb44
              · replace hF := tt_of hb44 hF
                refine reg mixed hn hG h [0, 6, 8, 500, 12, 14, 15] (ov [3] (op_move q0) <| ov [500] (op_bin bin_neq q0 qi) <| ov [500] (op_move q0) <| oe [500, 5] [] (GOk.on_eq hb41 rfl rfl rfl (op_move q0)) <| oe [501, 500] [] (GOk.on_eq hb41 rfl rfl rfl (op_bin bin_neq q0 qi)) <| ov [502, 500] (op_pick_f hb41 q0 q1) <| ov [500] (op_move q0) <| oe [500, 7] [] (GOk.on_eq hb42 rfl rfl rfl (op_move q0)) <| oe [501, 500] [] (GOk.on_eq hb42 rfl rfl rfl (op_bin bin_neq q0 qi)) <| ov [502, 500] (op_pick_f hb42 q0 q1) <| ov [500] (op_move q0) <| oe [500, 9] [] (GOk.on_eq hb43 rfl rfl rfl (op_move q0)) <| oe [501, 500] [] (GOk.on_eq hb43 rfl rfl rfl (op_bin bin_neq q0 qi)) <| ov [502, 500] (op_pick_f hb43 q0 q1) <| ov [500] (op_move q0) <| oe [500] [] (GOk.off_v (want := false) hb44 rfl rfl rfl rfl) <| oe [501] [] (GOk.off_v (want := false) hb44 rfl rfl rfl rfl) <| oe [502] [] (GOk.off_v (want := false) hb44 rfl rfl rfl rfl) <| oe [503] [] (GOk.off_v (want := false) hb44 rfl rfl rfl rfl) <| ov [504] (op_pick_t hb44 q0 qb) <| ov [500] (op_move q0) <| oe [500] [] (GOk.off_v (want := false) rfl rfl rfl rfl rfl) <| oe [501] [] (GOk.off_v (want := false) rfl rfl rfl rfl rfl) <| oe [502] [] (GOk.off_v (want := false) rfl rfl rfl rfl rfl) <| oe [503] [] (GOk.off_v (want := false) rfl rfl rfl rfl rfl) <| ov [504] (op_pick_t rfl q0 qb) <| ov [500] (op_move q0) <| oe [500] [] (GOk.off_v (want := false) rfl rfl rfl rfl rfl) <| oe [501] [] (GOk.off_v (want := false) rfl rfl rfl rfl rfl) <| oe [502] [] (GOk.off_v (want := false) rfl rfl rfl rfl rfl) <| oe [503] [] (GOk.off_v (want := false) rfl rfl rfl rfl rfl) <| ov [504] (op_pick_t rfl q0 qb) <| ov [500] (op_move q0) <| oe [500] [] (GOk.off_v (want := false) rfl rfl rfl rfl rfl) <| oe [501] [] (GOk.off_v (want := false) rfl rfl rfl rfl rfl) <| oe [502] [] (GOk.off_v (want := false) rfl rfl rfl rfl rfl) <| oe [503] [] (GOk.off_v (want := false) rfl rfl rfl rfl rfl) <| ov [504] (op_pick_t rfl q0 qb) .nil) fun _ a w h => ?_
                exact ⟨true, r14.2.2.2, hF, h.sub [0, 1, 2, 3, 4, 5, 6] (by rfl)⟩
              · replace hF := ff_of hb44 hF
                obtain ⟨r22, hr22, hF⟩ := bind_some hF
                rcases Bool.eq_false_or_eq_true (!r22) with hb45 | hb45
                · replace hF := tt_of hb45 hF
                  refine reg mixed hn hG h [0, 6, 8, 500, 12, 14, 15] (ov [3] (op_move q0) <| ov [500] (op_bin bin_neq q0 qi) <| ov [500] (op_move q0) <| oe [500, 5] [] (GOk.on_eq hb41 rfl rfl rfl (op_move q0)) <| oe [501, 500] [] (GOk.on_eq hb41 rfl rfl rfl (op_bin bin_neq q0 qi)) <| ov [502, 500] (op_pick_f hb41 q0 q1) <| ov [500] (op_move q0) <| oe [500, 7] [] (GOk.on_eq hb42 rfl rfl rfl (op_move q0)) <| oe [501, 500] [] (GOk.on_eq hb42 rfl rfl rfl (op_bin bin_neq q0 qi)) <| ov [502, 500] (op_pick_f hb42 q0 q1) <| ov [500] (op_move q0) <| oe [500, 9] [] (GOk.on_eq hb43 rfl rfl rfl (op_move q0)) <| oe [501, 500] [] (GOk.on_eq hb43 rfl rfl rfl (op_bin bin_neq q0 qi)) <| ov [502, 500] (op_pick_f hb43 q0 q1) <| ov [500] (op_move q0) <| oe [500, 2, 11] [] (GOk.on_eq hb44 rfl rfl rfl (op_load_w 1 Tryd.isAgg37 Tryd.sizeOf37 q0)) <| oe [501, 6, 14] [] (GOk.on_eq hb44 rfl rfl rfl (op_load_w 1 Tryd.isAgg37 Tryd.sizeOf37 q0)) <| oe [502, 501, 500] [] (GOk.on_eq hb44 rfl rfl rfl (op_call Tryd.call20 (ref10_Same_ok hr22) ⟨q0, q1, trivial⟩)) <| oe [503, 500] [] (GOk.on_eq hb44 rfl rfl rfl (op_un (un_not _) q0)) <| ov [504, 500] (op_pick_f hb44 q0 q1) <| ov [500] (op_move q0) <| oe [500] [] (GOk.off_v (want := false) hb45 rfl rfl rfl rfl) <| oe [501] [] (GOk.off_v (want := false) hb45 rfl rfl rfl rfl) <| oe [502] [] (GOk.off_v (want := false) hb45 rfl rfl rfl rfl) <| oe [503] [] (GOk.off_v (want := false) hb45 rfl rfl rfl rfl) <| ov [504] (op_pick_t hb45 q0 qb) <| ov [500] (op_move q0) <| oe [500] [] (GOk.off_v (want := false) rfl rfl rfl rfl rfl) <| oe [501] [] (GOk.off_v (want := false) rfl rfl rfl rfl rfl) <| oe [502] [] (GOk.off_v (want := false) rfl rfl rfl rfl rfl) <| oe [503] [] (GOk.off_v (want := false) rfl rfl rfl rfl rfl) <| ov [504] (op_pick_t rfl q0 qb) <| ov [500] (op_move q0) <| oe [500] [] (GOk.off_v (want := false) rfl rfl rfl rfl rfl) <| oe [501] [] (GOk.off_v (want := false) rfl rfl rfl rfl rfl) <| oe [502] [] (GOk.off_v (want := false) rfl rfl rfl rfl rfl) <| oe [503] [] (GOk.off_v (want := false) rfl rfl rfl rfl rfl) <| ov [504] (op_pick_t rfl q0 qb) .nil) fun _ a w h => ?_
                  exact ⟨true, r14.2.2.2, hF, h.sub [0, 1, 2, 3, 4, 5, 6] (by rfl)⟩
                · replace hF := ff_of hb45 hF
                  obtain ⟨r23, hr23, hF⟩ := bind_some hF
                  rcases Bool.eq_false_or_eq_true (!r23) with hb46 | hb46
                  · replace hF := tt_of hb46 hF
                    refine reg mixed hn hG h [0, 6, 8, 500, 12, 14, 15] (ov [3] (op_move q0) <| ov [500] (op_bin bin_neq q0 qi) <| ov [500] (op_move q0) <| oe [500, 5] [] (GOk.on_eq hb41 rfl rfl rfl (op_move q0)) <| oe [501, 500] [] (GOk.on_eq hb41 rfl rfl rfl (op_bin bin_neq q0 qi)) <| ov [502, 500] (op_pick_f hb41 q0 q1) <| ov [500] (op_move q0) <| oe [500, 7] [] (GOk.on_eq hb42 rfl rfl rfl (op_move q0)) <| oe [501, 500] [] (GOk.on_eq hb42 rfl rfl rfl (op_bin bin_neq q0 qi)) <| ov [502, 500] (op_pick_f hb42 q0 q1) <| ov [500] (op_move q0) <| oe [500, 9] [] (GOk.on_eq hb43 rfl rfl rfl (op_move q0)) <| oe [501, 500] [] (GOk.on_eq hb43 rfl rfl rfl (op_bin bin_neq q0 qi)) <| ov [502, 500] (op_pick_f hb43 q0 q1) <| ov [500] (op_move q0) <| oe [500, 2, 11] [] (GOk.on_eq hb44 rfl rfl rfl (op_load_w 1 Tryd.isAgg37 Tryd.sizeOf37 q0)) <| oe [501, 6, 14] [] (GOk.on_eq hb44 rfl rfl rfl (op_load_w 1 Tryd.isAgg37 Tryd.sizeOf37 q0)) <| oe [502, 501, 500] [] (GOk.on_eq hb44 rfl rfl rfl (op_call Tryd.call20 (ref10_Same_ok hr22) ⟨q0, q1, trivial⟩)) <| oe [503, 500] [] (GOk.on_eq hb44 rfl rfl rfl (op_un (un_not _) q0)) <| ov [504, 500] (op_pick_f hb44 q0 q1) <| ov [500] (op_move q0) <| oe [500, 4, 13] [] (GOk.on_eq hb45 rfl rfl rfl (op_load_w 1 Tryd.isAgg115 Tryd.sizeOf115 q0)) <| oe [501, 8, 15] [] (GOk.on_eq hb45 rfl rfl rfl (op_load_w 1 Tryd.isAgg115 Tryd.sizeOf115 q0)) <| oe [502, 501, 500] [] (GOk.on_eq hb45 rfl rfl rfl (op_call Tryd.call63 (ref10_SameStop_ok hr23) ⟨q0, q1, trivial⟩)) <| oe [503, 500] [] (GOk.on_eq hb45 rfl rfl rfl (op_un (un_not _) q0)) <| ov [504, 500] (op_pick_f hb45 q0 q1) <| ov [500] (op_move q0) <| oe [500] [] (GOk.off_v (want := false) hb46 rfl rfl rfl rfl) <| oe [501] [] (GOk.off_v (want := false) hb46 rfl rfl rfl rfl) <| oe [502] [] (GOk.off_v (want := false) hb46 rfl rfl rfl rfl) <| oe [503] [] (GOk.off_v (want := false) hb46 rfl rfl rfl rfl) <| ov [504] (op_pick_t hb46 q0 qb) <| ov [500] (op_move q0) <| oe [500] [] (GOk.off_v (want := false) rfl rfl rfl rfl rfl) <| oe [501] [] (GOk.off_v (want := false) rfl rfl rfl rfl rfl) <| oe [502] [] (GOk.off_v (want := false) rfl rfl rfl rfl rfl) <| oe [503] [] (GOk.off_v (want := false) rfl rfl rfl rfl rfl) <| ov [504] (op_pick_t rfl q0 qb) .nil) fun _ a w h => ?_
                    exact ⟨true, r14.2.2.2, hF, h.sub [0, 1, 2, 3, 4, 5, 6] (by rfl)⟩
                  · replace hF := ff_of hb46 hF
                    obtain ⟨r24, hr24, hF⟩ := bind_some hF
                    rcases Bool.eq_false_or_eq_true (!r24.1) with hb47 | hb47
                    · replace hF := tt_of hb47 hF
                      refine reg mixed hn hG h [0, 6, 8, 500, 14, 15, 508] (ov [3] (op_move q0) <| ov [500] (op_bin bin_neq q0 qi) <| ov [500] (op_move q0) <| oe [500, 5] [] (GOk.on_eq hb41 rfl rfl rfl (op_move q0)) <| oe [501, 500] [] (GOk.on_eq hb41 rfl rfl rfl (op_bin bin_neq q0 qi)) <| ov [502, 500] (op_pick_f hb41 q0 q1) <| ov [500] (op_move q0) <| oe [500, 7] [] (GOk.on_eq hb42 rfl rfl rfl (op_move q0)) <| oe [501, 500] [] (GOk.on_eq hb42 rfl rfl rfl (op_bin bin_neq q0 qi)) <| ov [502, 500] (op_pick_f hb42 q0 q1) <| ov [500] (op_move q0) <| oe [500, 9] [] (GOk.on_eq hb43 rfl rfl rfl (op_move q0)) <| oe [501, 500] [] (GOk.on_eq hb43 rfl rfl rfl (op_bin bin_neq q0 qi)) <| ov [502, 500] (op_pick_f hb43 q0 q1) <| ov [500] (op_move q0) <| oe [500, 2, 11] [] (GOk.on_eq hb44 rfl rfl rfl (op_load_w 1 Tryd.isAgg37 Tryd.sizeOf37 q0)) <| oe [501, 6, 14] [] (GOk.on_eq hb44 rfl rfl rfl (op_load_w 1 Tryd.isAgg37 Tryd.sizeOf37 q0)) <| oe [502, 501, 500] [] (GOk.on_eq hb44 rfl rfl rfl (op_call Tryd.call20 (ref10_Same_ok hr22) ⟨q0, q1, trivial⟩)) <| oe [503, 500] [] (GOk.on_eq hb44 rfl rfl rfl (op_un (un_not _) q0)) <| ov [504, 500] (op_pick_f hb44 q0 q1) <| ov [500] (op_move q0) <| oe [500, 4, 13] [] (GOk.on_eq hb45 rfl rfl rfl (op_load_w 1 Tryd.isAgg115 Tryd.sizeOf115 q0)) <| oe [501, 8, 15] [] (GOk.on_eq hb45 rfl rfl rfl (op_load_w 1 Tryd.isAgg115 Tryd.sizeOf115 q0)) <| oe [502, 501, 500] [] (GOk.on_eq hb45 rfl rfl rfl (op_call Tryd.call63 (ref10_SameStop_ok hr23) ⟨q0, q1, trivial⟩)) <| oe [503, 500] [] (GOk.on_eq hb45 rfl rfl rfl (op_un (un_not _) q0)) <| ov [504, 500] (op_pick_f hb45 q0 q1) <| ov [500] (op_move q0) <| oe [500, 1, 10] [] (GOk.on_eq hb46 rfl rfl rfl (op_load_w 1 Tryd.isAgg25 Tryd.sizeOf25 q0)) <| oe [501, 6, 14] [] (GOk.on_eq hb46 rfl rfl rfl (op_load_w 1 Tryd.isAgg37 Tryd.sizeOf37 q0)) <| oe [502, 501, 500] [12] (GOk.on_eq hb46 rfl rfl rfl (op_call Tryd.call68 (update_Right_ok hr24) ⟨(opc (ec _)), q0, q1, trivial⟩)) <| oe [504, 501] [] (GOk.on_eq hb46 rfl rfl rfl (op_un (un_not _) q0)) <| ov [505, 500] (op_pick_f hb46 q0 q1) <| ov [500] (op_move q0) <| oe [500] [] (GOk.off_v (want := false) hb47 rfl rfl rfl rfl) <| oe [501] [] (GOk.off_v (want := false) hb47 rfl rfl rfl rfl) <| oe [502] [] (GOk.off_v (want := false) hb47 rfl rfl rfl rfl) <| oe [503] [] (GOk.off_v (want := false) hb47 rfl rfl rfl rfl) <| ov [504] (op_pick_t hb47 q0 qb) .nil) fun _ a w h => ?_
                      exact ⟨true, r24.2, hF, h.sub [0, 1, 2, 3, 6, 4, 5] (by rfl)⟩
                    · replace hF := ff_of hb47 hF
                      obtain ⟨r25, hr25, hF⟩ := bind_some hF
                      refine reg mixed hn hG h [0, 6, 8, 500, 14, 15, 502] (ov [3] (op_move q0) <| ov [500] (op_bin bin_neq q0 qi) <| ov [500] (op_move q0) <| oe [500, 5] [] (GOk.on_eq hb41 rfl rfl rfl (op_move q0)) <| oe [501, 500] [] (GOk.on_eq hb41 rfl rfl rfl (op_bin bin_neq q0 qi)) <| ov [502, 500] (op_pick_f hb41 q0 q1) <| ov [500] (op_move q0) <| oe [500, 7] [] (GOk.on_eq hb42 rfl rfl rfl (op_move q0)) <| oe [501, 500] [] (GOk.on_eq hb42 rfl rfl rfl (op_bin bin_neq q0 qi)) <| ov [502, 500] (op_pick_f hb42 q0 q1) <| ov [500] (op_move q0) <| oe [500, 9] [] (GOk.on_eq hb43 rfl rfl rfl (op_move q0)) <| oe [501, 500] [] (GOk.on_eq hb43 rfl rfl rfl (op_bin bin_neq q0 qi)) <| ov [502, 500] (op_pick_f hb43 q0 q1) <| ov [500] (op_move q0) <| oe [500, 2, 11] [] (GOk.on_eq hb44 rfl rfl rfl (op_load_w 1 Tryd.isAgg37 Tryd.sizeOf37 q0)) <| oe [501, 6, 14] [] (GOk.on_eq hb44 rfl rfl rfl (op_load_w 1 Tryd.isAgg37 Tryd.sizeOf37 q0)) <| oe [502, 501, 500] [] (GOk.on_eq hb44 rfl rfl rfl (op_call Tryd.call20 (ref10_Same_ok hr22) ⟨q0, q1, trivial⟩)) <| oe [503, 500] [] (GOk.on_eq hb44 rfl rfl rfl (op_un (un_not _) q0)) <| ov [504, 500] (op_pick_f hb44 q0 q1) <| ov [500] (op_move q0) <| oe [500, 4, 13] [] (GOk.on_eq hb45 rfl rfl rfl (op_load_w 1 Tryd.isAgg115 Tryd.sizeOf115 q0)) <| oe [501, 8, 15] [] (GOk.on_eq hb45 rfl rfl rfl (op_load_w 1 Tryd.isAgg115 Tryd.sizeOf115 q0)) <| oe [502, 501, 500] [] (GOk.on_eq hb45 rfl rfl rfl (op_call Tryd.call63 (ref10_SameStop_ok hr23) ⟨q0, q1, trivial⟩)) <| oe [503, 500] [] (GOk.on_eq hb45 rfl rfl rfl (op_un (un_not _) q0)) <| ov [504, 500] (op_pick_f hb45 q0 q1) <| ov [500] (op_move q0) <| oe [500, 1, 10] [] (GOk.on_eq hb46 rfl rfl rfl (op_load_w 1 Tryd.isAgg25 Tryd.sizeOf25 q0)) <| oe [501, 6, 14] [] (GOk.on_eq hb46 rfl rfl rfl (op_load_w 1 Tryd.isAgg37 Tryd.sizeOf37 q0)) <| oe [502, 501, 500] [12] (GOk.on_eq hb46 rfl rfl rfl (op_call Tryd.call68 (update_Right_ok hr24) ⟨(opc (ec _)), q0, q1, trivial⟩)) <| oe [504, 501] [] (GOk.on_eq hb46 rfl rfl rfl (op_un (un_not _) q0)) <| ov [505, 500] (op_pick_f hb46 q0 q1) <| ov [500] (op_move q0) <| oe [500, 1, 10] [] (GOk.on_eq hb47 rfl rfl rfl (op_load_w 1 Tryd.isAgg25 Tryd.sizeOf25 q0)) <| oe [501, 8, 15] [] (GOk.on_eq hb47 rfl rfl rfl (op_load_w 1 Tryd.isAgg115 Tryd.sizeOf115 q0)) <| oe [502, 501, 500] [505] (GOk.on_eq hb47 rfl rfl rfl (op_call Tryd.call69 (update_Halts_ok hr25) ⟨(opc (ec _)), q0, q1, trivial⟩)) <| oe [504, 501] [] (GOk.on_eq hb47 rfl rfl rfl (op_un (un_not _) q0)) <| ov [505, 500] (op_pick_f hb47 q0 q1) .nil) fun _ a w h => ?_
                      exact ⟨!r25.1, r25.2, hF, h.sub [0, 1, 2, 3, 6, 4, 5] (by rfl)⟩
      · clear h hF
        rintro a w ⟨x26, x27, hF, h⟩
        unfold law10_UpdateBack.j1 at hF
        show Code.wp Tryd.prog _ _ a w
        refine cnd h hF 3 [4] [0, 1, 2, 4, 5, 6] (fun hb28 hF h => ?_) (fun hb28 hF h => ?_)
        · refine regS mixed hn hG h [500, 0] (ov [] (op_assign qb) .nil) fun _ a w h => ?_
          refine wp_ret ?_
          obtain rfl := Option.some.inj hF
          exact ⟨.inl rfl, ret1 h Tryd.results10 (r_tmp 0 rfl) [] [] rfl rfl rfl⟩
        · refine wp_skip ?_
          show Code.wp Tryd.prog _ _ a w
          obtain ⟨r29, hr29, hF⟩ := bind_some hF
          refine regS mixed hn hG h [0, 1, 500, 2, 3, 501, 5] (ov [0] (op_move q0) <| oc [500] [] Tryd.call55 (update_Read_ok hr29) ⟨q0, trivial⟩ <| ov [500] (op_move q0) <| ov [500] (op_extract q0 rfl) <| ov [501] (op_extract q0 rfl) <| ou [1, 501] 4 (op_store_w Tryd.sizeOf37 q0 q1 (cells_agg _)) <| ov [501] (op_assign q0) .nil) fun _ a w h => ?_
          obtain ⟨r30, hr30, hF⟩ := bind_some hF
          refine regS mixed hn hG h [0, 1, 2, 3, 500, 4, 5, 501] (ov [0] (op_move q0) <| oc [500] [] Tryd.call57 (update_ReadStop_ok hr30) ⟨q0, trivial⟩ <| ov [500] (op_move q0) <| ov [500] (op_extract q0 rfl) <| ov [501] (op_extract q0 rfl) <| ou [3, 501] 6 (op_store_w Tryd.sizeOf115 q0 q1 (cells_agg _)) <| ov [501] (op_assign q0) .nil) fun _ a w h => ?_
          refine wp_seq ?_
          obtain ⟨r31, hr31, hF⟩ := bind_some hF
          refine wp_cut (fun a w => ∃ (x35 : Bool), law10_UpdateBack.j2 x35 = some r ∧ SatL c [.slot 12 (boolVP x35), .res (Log_e (.pointer none) x27)] a w) ?_ ?_
          · rcases Bool.eq_false_or_eq_true r31 with hb36 | hb36
            · replace hF := tt_of hb36 hF
              rcases Bool.eq_false_or_eq_true (!decide (r29.2 = (0 : Int))) with hb37 | hb37
              · replace hF := tt_of hb37 hF
                rcases Bool.eq_false_or_eq_true (!decide (r30.2 = (0 : Int))) with hb38 | hb38
                · replace hF := tt_of hb38 hF
                  refine reg mixed hn hG h [500, 5] (oc [] [] Tryd.call53 (law10_awake_ok hr31) trivial <| ov [500] (op_move q0) <| oe [500, 2] [] (GOk.on_eq hb36 rfl rfl rfl (op_move q0)) <| oe [501, 500] [] (GOk.on_eq hb36 rfl rfl rfl (op_bin bin_neq q0 qi)) <| oe [502, 500] [] (GOk.on_eq hb36 rfl rfl rfl (op_move q0)) <| oe [500] [] (GOk.off_v (want := false) hb37 rfl rfl rfl rfl) <| oe [501] [] (GOk.off_v (want := false) hb37 rfl rfl rfl rfl) <| oe [502] [] (GOk.off_v (want := false) hb37 rfl rfl rfl rfl) <| oe [503] [] (GOk.off_v (want := false) hb37 rfl rfl rfl rfl) <| oe [507, 504] [] (GOk.on_eq hb36 rfl rfl rfl (op_pick_t hb37 q0 qb)) <| ov [508, 500] (op_pick_t hb36 q0 q1) <| ov [500] (op_move q0) <| oe [500, 4] [] (GOk.on_eq rfl rfl rfl rfl (op_move q0)) <| oe [501, 500] [] (GOk.on_eq rfl rfl rfl rfl (op_bin bin_neq q0 qi)) <| oe [502, 500] [] (GOk.on_eq rfl rfl rfl rfl (op_move q0)) <| oe [500] [] (GOk.off_v (want := false) hb38 rfl rfl rfl rfl) <| oe [501] [] (GOk.off_v (want := false) hb38 rfl rfl rfl rfl) <| oe [502] [] (GOk.off_v (want := false) hb38 rfl rfl rfl rfl) <| oe [503] [] (GOk.off_v (want := false) hb38 rfl rfl rfl rfl) <| oe [507, 504] [] (GOk.on_eq rfl rfl rfl rfl (op_pick_t hb38 q0 qb)) <| ov [508, 500] (op_pick_t rfl q0 q1) <| ov [500] (op_assign q0) .nil) fun _ a w h => ?_
                  exact ⟨true, hF, h.sub [0, 1] (by rfl)⟩
                · replace hF := ff_of hb38 hF
                  obtain ⟨r32, hr32, hF⟩ := bind_some hF
                  refine reg mixed hn hG h [500, 5] (oc [] [] Tryd.call53 (law10_awake_ok hr31) trivial <| ov [500] (op_move q0) <| oe [500, 2] [] (GOk.on_eq hb36 rfl rfl rfl (op_move q0)) <| oe [501, 500] [] (GOk.on_eq hb36 rfl rfl rfl (op_bin bin_neq q0 qi)) <| oe [502, 500] [] (GOk.on_eq hb36 rfl rfl rfl (op_move q0)) <| oe [500] [] (GOk.off_v (want := false) hb37 rfl rfl rfl rfl) <| oe [501] [] (GOk.off_v (want := false) hb37 rfl rfl rfl rfl) <| oe [502] [] (GOk.off_v (want := false) hb37 rfl rfl rfl rfl) <| oe [503] [] (GOk.off_v (want := false) hb37 rfl rfl rfl rfl) <| oe [507, 504] [] (GOk.on_eq hb36 rfl rfl rfl (op_pick_t hb37 q0 qb)) <| ov [508, 500] (op_pick_t hb36 q0 q1) <| ov [500] (op_move q0) <| oe [500, 4] [] (GOk.on_eq rfl rfl rfl rfl (op_move q0)) <| oe [501, 500] [] (GOk.on_eq rfl rfl rfl rfl (op_bin bin_neq q0 qi)) <| oe [502, 500] [] (GOk.on_eq rfl rfl rfl rfl (op_move q0)) <| oe [500, 3, 7] [] (GOk.on_eq hb38 rfl rfl rfl (op_load_w 1 Tryd.isAgg115 Tryd.sizeOf115 q0)) <| oe [501, 500] [] (GOk.on_eq hb38 rfl rfl rfl (op_call Tryd.call61 (update_StopBytes_ok hr32) ⟨q0, trivial⟩)) <| oe [502, 0] [] (GOk.on_eq hb38 rfl rfl rfl (op_move q0)) <| oe [503, 501, 500] [] (GOk.on_eq hb38 rfl rfl rfl (op_bin bin_seql q0 q1)) <| oe [507, 504, 500] [] (GOk.on_eq rfl rfl rfl rfl (op_pick_f hb38 q0 q1)) <| ov [508, 500] (op_pick_t rfl q0 q1) <| ov [500] (op_assign q0) .nil) fun _ a w h => ?_
                  exact ⟨decide (r32 = a_5), hF, h.sub [0, 1] (by rfl)⟩
              · replace hF := ff_of hb37 hF
                obtain ⟨r33, hr33, hF⟩ := bind_some hF
                rcases Bool.eq_false_or_eq_true (decide (r33 = a_5)) with hb39 | hb39
                · replace hF := tt_of hb39 hF
                  rcases Bool.eq_false_or_eq_true (!decide (r30.2 = (0 : Int))) with hb40 | hb40
                  · replace hF := tt_of hb40 hF
                    refine reg mixed hn hG h [500, 5] (oc [] [] Tryd.call53 (law10_awake_ok hr31) trivial <| ov [500] (op_move q0) <| oe [500, 2] [] (GOk.on_eq hb36 rfl rfl rfl (op_move q0)) <| oe [501, 500] [] (GOk.on_eq hb36 rfl rfl rfl (op_bin bin_neq q0 qi)) <| oe [502, 500] [] (GOk.on_eq hb36 rfl rfl rfl (op_move q0)) <| oe [500, 1, 6] [] (GOk.on_eq hb37 rfl rfl rfl (op_load_w 1 Tryd.isAgg37 Tryd.sizeOf37 q0)) <| oe [501, 500] [] (GOk.on_eq hb37 rfl rfl rfl (op_call Tryd.call59 (update_Bytes_ok hr33) ⟨q0, trivial⟩)) <| oe [502, 0] [] (GOk.on_eq hb37 rfl rfl rfl (op_move q0)) <| oe [503, 501, 500] [] (GOk.on_eq hb37 rfl rfl rfl (op_bin bin_seql q0 q1)) <| oe [507, 504, 500] [] (GOk.on_eq hb36 rfl rfl rfl (op_pick_f hb37 q0 q1)) <| ov [508, 500] (op_pick_t hb36 q0 q1) <| ov [500] (op_move q0) <| oe [500, 4] [] (GOk.on_eq hb39 rfl rfl rfl (op_move q0)) <| oe [501, 500] [] (GOk.on_eq hb39 rfl rfl rfl (op_bin bin_neq q0 qi)) <| oe [502, 500] [] (GOk.on_eq hb39 rfl rfl rfl (op_move q0)) <| oe [500] [] (GOk.off_v (want := false) hb40 rfl rfl rfl rfl) <| oe [501] [] (GOk.off_v (want := false) hb40 rfl rfl rfl rfl) <| oe [502] [] (GOk.off_v (want := false) hb40 rfl rfl rfl rfl) <| oe [503] [] (GOk.off_v (want := false) hb40 rfl rfl rfl rfl) <| oe [507, 504] [] (GOk.on_eq hb39 rfl rfl rfl (op_pick_t hb40 q0 qb)) <| ov [508, 500] (op_pick_t hb39 q0 q1) <| ov [500] (op_assign q0) .nil) fun _ a w h => ?_
                    exact ⟨true, hF, h.sub [0, 1] (by rfl)⟩
                  · replace hF := ff_of hb40 hF
                    obtain ⟨r34, hr34, hF⟩ := bind_some hF
                    refine reg mixed hn hG h [500, 5] (oc [] [] Tryd.call53 (law10_awake_ok hr31) trivial <| ov [500] (op_move q0) <| oe [500, 2] [] (GOk.on_eq hb36 rfl rfl rfl (op_move q0)) <| oe [501, 500] [] (GOk.on_eq hb36 rfl rfl rfl (op_bin bin_neq q0 qi)) <| oe [502, 500] [] (GOk.on_eq hb36 rfl rfl rfl (op_move q0)) <| oe [500, 1, 6] [] (GOk.on_eq hb37 rfl rfl rfl (op_load_w 1 Tryd.isAgg37 Tryd.sizeOf37 q0)) <| oe [501, 500] [] (GOk.on_eq hb37 rfl rfl rfl (op_call Tryd.call59 (update_Bytes_ok hr33) ⟨q0, trivial⟩)) <| oe [502, 0] [] (GOk.on_eq hb37 rfl rfl rfl (op_move q0)) <| oe [503, 501, 500] [] (GOk.on_eq hb37 rfl rfl rfl (op_bin bin_seql q0 q1)) <| oe [507, 504, 500] [] (GOk.on_eq hb36 rfl rfl rfl (op_pick_f hb37 q0 q1)) <| ov [508, 500] (op_pick_t hb36 q0 q1) <| ov [500] (op_move q0) <| oe [500, 4] [] (GOk.on_eq hb39 rfl rfl rfl (op_move q0)) <| oe [501, 500] [] (GOk.on_eq hb39 rfl rfl rfl (op_bin bin_neq q0 qi)) <| oe [502, 500] [] (GOk.on_eq hb39 rfl rfl rfl (op_move q0)) <| oe [500, 3, 7] [] (GOk.on_eq hb40 rfl rfl rfl (op_load_w 1 Tryd.isAgg115 Tryd.sizeOf115 q0)) <| oe [501, 500] [] (GOk.on_eq hb40 rfl rfl rfl (op_call Tryd.call61 (update_StopBytes_ok hr34) ⟨q0, trivial⟩)) <| oe [502, 0] [] (GOk.on_eq hb40 rfl rfl rfl (op_move q0)) <| oe [503, 501, 500] [] (GOk.on_eq hb40 rfl rfl rfl (op_bin bin_seql q0 q1)) <| oe [507, 504, 500] [] (GOk.on_eq hb39 rfl rfl rfl (op_pick_f hb40 q0 q1)) <| ov [508, 500] (op_pick_t hb39 q0 q1) <| ov [500] (op_assign q0) .nil) fun _ a w h => ?_
                    exact ⟨decide (r34 = a_5), hF, h.sub [0, 1] (by rfl)⟩
                · replace hF := ff_of hb39 hF
                  refine reg mixed hn hG h [500, 5] (oc [] [] Tryd.call53 (law10_awake_ok hr31) trivial <| ov [500] (op_move q0) <| oe [500, 2] [] (GOk.on_eq hb36 rfl rfl rfl (op_move q0)) <| oe [501, 500] [] (GOk.on_eq hb36 rfl rfl rfl (op_bin bin_neq q0 qi)) <| oe [502, 500] [] (GOk.on_eq hb36 rfl rfl rfl (op_move q0)) <| oe [500, 1, 6] [] (GOk.on_eq hb37 rfl rfl rfl (op_load_w 1 Tryd.isAgg37 Tryd.sizeOf37 q0)) <| oe [501, 500] [] (GOk.on_eq hb37 rfl rfl rfl (op_call Tryd.call59 (update_Bytes_ok hr33) ⟨q0, trivial⟩)) <| oe [502, 0] [] (GOk.on_eq hb37 rfl rfl rfl (op_move q0)) <| oe [503, 501, 500] [] (GOk.on_eq hb37 rfl rfl rfl (op_bin bin_seql q0 q1)) <| oe [507, 504, 500] [] (GOk.on_eq hb36 rfl rfl rfl (op_pick_f hb37 q0 q1)) <| ov [508, 500] (op_pick_t hb36 q0 q1) <| ov [500] (op_move q0) <| oe [500] [] (GOk.off_v (want := true) hb39 rfl rfl rfl rfl) <| oe [501] [] (GOk.off_v (want := true) hb39 rfl rfl rfl rfl) <| oe [502] [] (GOk.off_v (want := true) hb39 rfl rfl rfl rfl) <| oe [500] [] (GOk.off_u rfl rfl rfl rfl) <| oe [501] [] (GOk.off_u rfl rfl rfl rfl) <| oe [502] [] (GOk.off_u rfl rfl rfl rfl) <| oe [503] [] (GOk.off_u rfl rfl rfl rfl) <| oe [507] [] (GOk.off_v (want := true) hb39 rfl rfl rfl rfl) <| ov [508] (op_pick_f hb39 q0 qb) <| ov [500] (op_assign q0) .nil) fun _ a w h => ?_
                  exact ⟨false, hF, h.sub [0, 1] (by rfl)⟩
            · replace hF := ff_of hb36 hF
              refine reg mixed hn hG h [500, 5] (oc [] [] Tryd.call53 (law10_awake_ok hr31) trivial <| ov [500] (op_move q0) <| oe [500] [] (GOk.off_v (want := true) hb36 rfl rfl rfl rfl) <| oe [501] [] (GOk.off_v (want := true) hb36 rfl rfl rfl rfl) <| oe [502] [] (GOk.off_v (want := true) hb36 rfl rfl rfl rfl) <| oe [500] [] (GOk.off_u rfl rfl rfl rfl) <| oe [501] [] (GOk.off_u rfl rfl rfl rfl) <| oe [502] [] (GOk.off_u rfl rfl rfl rfl) <| oe [503] [] (GOk.off_u rfl rfl rfl rfl) <| oe [507] [] (GOk.off_v (want := true) hb36 rfl rfl rfl rfl) <| ov [508] (op_pick_f hb36 q0 qb) <| ov [500] (op_move q0) <| oe [500] [] (GOk.off_v (want := true) rfl rfl rfl rfl rfl) <| oe [501] [] (GOk.off_v (want := true) rfl rfl rfl rfl rfl) <| oe [502] [] (GOk.off_v (want := true) rfl rfl rfl rfl rfl) <| oe [500] [] (GOk.off_u rfl rfl rfl rfl) <| oe [501] [] (GOk.off_u rfl rfl rfl rfl) <| oe [502] [] (GOk.off_u rfl rfl rfl rfl) <| oe [503] [] (GOk.off_u rfl rfl rfl rfl) <| oe [507] [] (GOk.off_v (want := true) rfl rfl rfl rfl rfl) <| ov [508] (op_pick_f rfl q0 qb) <| ov [500] (op_assign q0) .nil) fun _ a w h => ?_
              exact ⟨false, hF, h.sub [0, 1] (by rfl)⟩
          · clear h hF
            rintro a w ⟨x35, hF, h⟩
            unfold law10_UpdateBack.j2 at hF
            show Code.wp Tryd.prog _ _ a w
            refine wp_ret ?_
            obtain rfl := Option.some.inj hF
            exact ⟨.inl rfl, ret1 h Tryd.results10 (r_tmp 0 rfl) [] [] rfl rfl rfl⟩

def ref03_Reader_Take.j2 (a_1 : Int) (x2 : O_RRdr) : Option ((List UInt8) × O_RRdr) := (if (!decide (x2.f_Bad = (0 : Int))) = true then some ([], x2) else (if (0 : Int) ≤ 0 ∧ (0 : Int) ≤ a_1 ∧ a_1 ≤ x2.f_S.length then (if (0 : Int) ≤ a_1 ∧ a_1 ≤ (x2.f_S.length : Int) ∧ (x2.f_S.length : Int) ≤ x2.f_S.length then some ((x2.f_S.take a_1.toNat).drop (0 : Int).toNat, ⟨(x2.f_S.take (x2.f_S.length : Int).toNat).drop a_1.toNat, x2.f_Bad⟩) else none) else none))
def ref03_Reader_Take.j1 (L_0 : O_RRdr) (a_1 : Int) (x1 : Bool) : Option ((List UInt8) × O_RRdr) := (if x1 = true then ref03_Reader_Take.j2 a_1 ⟨L_0.f_S, 3⟩ else ref03_Reader_Take.j2 a_1 L_0)
def ref03_Reader_Take (L_0 : O_RRdr) (a_1 : Int) : Option ((List UInt8) × O_RRdr) := (if (decide (L_0.f_Bad = (0 : Int))) = true then ref03_Reader_Take.j1 L_0 a_1 (decide ((L_0.f_S.length : Int) < a_1)) else ref03_Reader_Take.j1 L_0 a_1 false)
theorem ref03_Reader_Take_ok {p_0 : Value} {L_0 : O_RRdr} {a_1 : Int} {r : (List UInt8) × O_RRdr} (hF : ref03_Reader_Take L_0 a_1 = some r) : CallOk Tryd.prog KG 174 [(eqVP p_0), (intVP .i64 a_1)] [(RRdr_e p_0 (some L_0))] (fun _ => [RRdr_e p_0 (some r.2)]) (strVP r.1) := by
  refine CallOk.intro 44 Tryd.func174 rfl Tryd.ntmps174 (Nat.le_of_ble_eq_true rfl) ?_
  intro c a w hG hn h
  unfold ref03_Reader_Take at hF
  change SatL c [.slot 0 (eqVP p_0), .slot 1 (intVP .i64 a_1), .res (RRdr_e p_0 (some L_0))] a w at h
  refine regS mixed hn hG h [0, 1, 2] (ov [] (op_assign (opc (sc _ (by decide)))) .nil) fun _ a w h => ?_
  refine wp_seq ?_
  have hp := h.isp 2 rfl (fun Φ f w q => RRdr_lp Φ f w q)
  replace h := h.slotc 0 rfl (V' := lpVP p_0 0) (fun _ _ h => eq_lp h hp)
  replace h := h.sub [0, 1, 2] (by rfl)
  change SatL c [.slot 0 (lpVP p_0 0), .slot 1 (intVP .i64 a_1), .res (lb p_0 205 [one (strVP L_0.f_S), one (intVP .i64 L_0.f_Bad)])] a w at h
  refine wp_seq ?_
  refine wp_cut (fun a w => ∃ (x1 : Bool), ref03_Reader_Take.j1 L_0 a_1 x1 = some r ∧ SatL c [.slot 0 (eqVP p_0), .slot 1 (intVP .i64 a_1), .slot 19 (boolVP x1), .res (RRdr_e p_0 (some L_0))] a w) ?_ ?_
  · rcases Bool.eq_false_or_eq_true (decide (L_0.f_Bad = (0 : Int))) with hb7 | hb7
    · replace hF := tt_of hb7 hF
      refine reg mixed hn hG h [0, 1, 500, 2] (ov [0] (op_move q0) <| ov [500] (op_nilCheck q0 (ptr_lp _ _)) <| ov [500] (op_fieldAddr_lbm (p := p_0) (n := 1) 0 1 Tryd.underlying205 rfl Tryd.sizeOf3 (by decide) q0 rfl) <| ov [500, 2] (op_load_lb1 [one (strVP L_0.f_S)] [] 1 Tryd.isAgg3 q0 rfl rfl) <| ov [500] (op_bin bin_eql q0 qi) <| ov [500] (op_move q0) <| oe [500, 0] [] (GOk.on_eq hb7 rfl rfl rfl (op_move q0)) <| oe [501, 500] [] (GOk.on_eq hb7 rfl rfl rfl (op_nilCheck q0 (ptr_lp _ _))) <| oe [502, 500] [] (GOk.on_eq hb7 rfl rfl rfl (op_fieldAddr_lbm (p := p_0) (n := 1) 0 0 Tryd.underlying205 rfl Tryd.sizeOf9 (by decide) q0 rfl)) <| oe [503, 500, 2] [] (GOk.on_eq hb7 rfl rfl rfl (op_load_lb1 [] [one (intVP .i64 L_0.f_Bad)] 1 Tryd.isAgg9 q0 rfl rfl)) <| oe [504, 500] [] (GOk.on_eq hb7 rfl rfl rfl (op_len_str Tryd.underlying9 q0)) <| oe [505, 1] [] (GOk.on_eq hb7 rfl rfl rfl (op_move q0)) <| oe [506, 501, 500] [] (GOk.on_eq hb7 rfl rfl rfl (op_bin bin_lss q0 q1)) <| ov [507, 500] (op_pick_t hb7 q0 q1) .nil) fun _ a w h => ?_
      replace h := h.conv 3 rfl (R' := RRdr_e p_0 (some L_0)) (RRdr_packo (o := (some L_0)))
      replace h := h.slotc 0 rfl (fun _ _ h => lp_eqv h)
      replace h := h.sub [0, 1, 2, 3] (by rfl)
      change SatL c [.slot 0 (eqVP p_0), .slot 1 (intVP .i64 a_1), .slot 19 (boolVP (decide ((L_0.f_S.length : Int) < a_1))), .res (RRdr_e p_0 (some L_0))] a w at h
      exact ⟨decide ((L_0.f_S.length : Int) < a_1), hF, h.sub [0, 1, 2, 3] (by rfl)⟩
    · replace hF := ff_of hb7 hF
      refine reg mixed hn hG h [0, 1, 500, 2] (ov [0] (op_move q0) <| ov [500] (op_nilCheck q0 (ptr_lp _ _)) <| ov [500] (op_fieldAddr_lbm (p := p_0) (n := 1) 0 1 Tryd.underlying205 rfl Tryd.sizeOf3 (by decide) q0 rfl) <| ov [500, 2] (op_load_lb1 [one (strVP L_0.f_S)] [] 1 Tryd.isAgg3 q0 rfl rfl) <| ov [500] (op_bin bin_eql q0 qi) <| ov [500] (op_move q0) <| oe [500] [] (GOk.off_v (want := true) hb7 rfl rfl rfl rfl) <| oe [501] [] (GOk.off_v (want := true) hb7 rfl rfl rfl rfl) <| oe [502] [] (GOk.off_v (want := true) hb7 rfl rfl rfl rfl) <| oe [503] [] (GOk.off_v (want := true) hb7 rfl rfl rfl rfl) <| oe [504] [] (GOk.off_v (want := true) hb7 rfl rfl rfl rfl) <| oe [505] [] (GOk.off_v (want := true) hb7 rfl rfl rfl rfl) <| oe [506] [] (GOk.off_v (want := true) hb7 rfl rfl rfl rfl) <| ov [507] (op_pick_f hb7 q0 qb) .nil) fun _ a w h => ?_
      replace h := h.conv 3 rfl (R' := RRdr_e p_0 (some L_0)) (RRdr_packo (o := (some L_0)))
      replace h := h.slotc 0 rfl (fun _ _ h => lp_eqv h)
      replace h := h.sub [0, 1, 2, 3] (by rfl)
      change SatL c [.slot 0 (eqVP p_0), .slot 1 (intVP .i64 a_1), .slot 19 (boolVP false), .res (RRdr_e p_0 (some L_0))] a w at h
      exact ⟨false, hF, h.sub [0, 1, 2, 3] (by rfl)⟩
  · clear h hF
    rintro a w ⟨x1, hF, h⟩
    unfold ref03_Reader_Take.j1 at hF
    show Code.wp Tryd.prog _ _ a w
    refine wp_cut (fun a w => ∃ (x2 : O_RRdr), ref03_Reader_Take.j2 a_1 x2 = some r ∧ SatL c [.slot 0 (eqVP p_0), .slot 1 (intVP .i64 a_1), .res (RRdr_e p_0 (some x2))] a w) ?_ ?_
    · refine cnd h hF 2 [0, 1, 3] [0, 1, 3] (fun hb6 hF h => ?_) (fun hb6 hF h => ?_)
      · have hp := h.isp 2 rfl (fun Φ f w q => RRdr_lp Φ f w q)
        replace h := h.slotc 0 rfl (V' := lpVP p_0 0) (fun _ _ h => eq_lp h hp)
        replace h := h.sub [0, 1, 2] (by rfl)
        change SatL c [.slot 0 (lpVP p_0 0), .slot 1 (intVP .i64 a_1), .res (lb p_0 205 [one (strVP L_0.f_S), one (intVP .i64 L_0.f_Bad)])] a w at h
        refine reg mixed hn hG h [0, 1, 500] (ov [0] (op_move q0) <| ov [500] (op_nilCheck q0 (ptr_lp _ _)) <| ov [500] (op_fieldAddr_lbm (p := p_0) (n := 1) 0 1 Tryd.underlying205 rfl Tryd.sizeOf3 (by decide) q0 rfl) <| ou [500] 2 (op_store_lb [one (strVP L_0.f_S)] [one (intVP .i64 L_0.f_Bad)] [] [one (intVP .i64 3)] Tryd.sizeOf3 q0 qi (cells_one (one_int _ _)) rfl rfl rfl) .nil) fun _ a w h => ?_
        replace h := h.conv 2 rfl (R' := RRdr_e p_0 (some ⟨L_0.f_S, 3⟩)) (RRdr_packo (o := (some ⟨L_0.f_S, 3⟩)))
        replace h := h.slotc 0 rfl (fun _ _ h => lp_eqv h)
        replace h := h.sub [0, 1, 2] (by rfl)
        change SatL c [.slot 0 (eqVP p_0), .slot 1 (intVP .i64 a_1), .res (RRdr_e p_0 (some ⟨L_0.f_S, 3⟩))] a w at h
        exact ⟨⟨L_0.f_S, 3⟩, hF, h.sub [0, 1, 2] (by rfl)⟩
      · refine wp_skip ?_
        exact ⟨L_0, hF, h.sub [0, 1, 2] (by rfl)⟩
    · clear h hF
      rintro a w ⟨x2, hF, h⟩
      unfold ref03_Reader_Take.j2 at hF
      show Code.wp Tryd.prog _ _ a w
      refine wp_seq ?_
      have hp := h.isp 2 rfl (fun Φ f w q => RRdr_lp Φ f w q)
      replace h := h.slotc 0 rfl (V' := lpVP p_0 0) (fun _ _ h => eq_lp h hp)
      replace h := h.sub [0, 1, 2] (by rfl)
      change SatL c [.slot 0 (lpVP p_0 0), .slot 1 (intVP .i64 a_1), .res (lb p_0 205 [one (strVP x2.f_S), one (intVP .i64 x2.f_Bad)])] a w at h
      refine wp_seq ?_
      refine reg mixed hn hG h [0, 1, 500, 2] (ov [0] (op_move q0) <| ov [500] (op_nilCheck q0 (ptr_lp _ _)) <| ov [500] (op_fieldAddr_lbm (p := p_0) (n := 1) 0 1 Tryd.underlying205 rfl Tryd.sizeOf3 (by decide) q0 rfl) <| ov [500, 2] (op_load_lb1 [one (strVP x2.f_S)] [] 1 Tryd.isAgg3 q0 rfl rfl) <| ov [500] (op_bin bin_neq q0 qi) .nil) fun _ a w h => ?_
      replace h := h.conv 3 rfl (R' := RRdr_e p_0 (some x2)) (RRdr_packo (o := (some x2)))
      replace h := h.slotc 0 rfl (fun _ _ h => lp_eqv h)
      replace h := h.sub [0, 1, 2, 3] (by rfl)
      change SatL c [.slot 0 (eqVP p_0), .slot 1 (intVP .i64 a_1), .slot 27 (boolVP (!decide (x2.f_Bad = (0 : Int)))), .res (RRdr_e p_0 (some x2))] a w at h
      show Code.wp Tryd.prog _ _ a w
      refine cnd h hF 2 [3] [0, 1, 3] (fun hb3 hF h => ?_) (fun hb3 hF h => ?_)
      · refine regS mixed hn hG h [500, 0] (ov [] (op_assign (opc (sc _ (by decide)))) .nil) fun _ a w h => ?_
        refine wp_ret ?_
        obtain rfl := Option.some.inj hF
        exact ⟨.inl rfl, ret1 h Tryd.results174 (r_tmp 0 rfl) [1] [(RRdr_e p_0 (some x2))] rfl rfl rfl⟩
      · refine wp_skip ?_
        show Code.wp Tryd.prog _ _ a w
        have hp := h.isp 2 rfl (fun Φ f w q => RRdr_lp Φ f w q)
        replace h := h.slotc 0 rfl (V' := lpVP p_0 0) (fun _ _ h => eq_lp h hp)
        replace h := h.sub [0, 1, 2] (by rfl)
        change SatL c [.slot 0 (lpVP p_0 0), .slot 1 (intVP .i64 a_1), .res (lb p_0 205 [one (strVP x2.f_S), one (intVP .i64 x2.f_Bad)])] a w at h
        obtain ⟨hv4, hF⟩ := ite_some hF
        refine wp_seq ?_
        refine reg mixed hn hG h [0, 1, 500, 2] (ov [0] (op_move q0) <| ov [500] (op_nilCheck q0 (ptr_lp _ _)) <| ov [500] (op_fieldAddr_lbm (p := p_0) (n := 1) 0 0 Tryd.underlying205 rfl Tryd.sizeOf9 (by decide) q0 rfl) <| ov [500, 2] (op_load_lb1 [] [one (intVP .i64 x2.f_Bad)] 1 Tryd.isAgg9 q0 rfl rfl) <| ov [1] (op_move q0) <| ov [501, 500] (op_slice_str (a := 0) (b := a_1) Tryd.underlying9 q0 rfl ⟨_, q1⟩ hv4) <| ov [500] (op_assign q0) .nil) fun _ a w h => ?_
        replace h := h.conv 3 rfl (R' := RRdr_e p_0 (some x2)) (RRdr_packo (o := (some x2)))
        replace h := h.slotc 0 rfl (fun _ _ h => lp_eqv h)
        replace h := h.sub [0, 1, 2, 3] (by rfl)
        change SatL c [.slot 0 (eqVP p_0), .slot 1 (intVP .i64 a_1), .slot 5 (strVP ((x2.f_S.take a_1.toNat).drop (0 : Int).toNat)), .res (RRdr_e p_0 (some x2))] a w at h
        show Code.wp Tryd.prog _ _ a w
        have hp := h.isp 3 rfl (fun Φ f w q => RRdr_lp Φ f w q)
        replace h := h.slotc 0 rfl (V' := lpVP p_0 0) (fun _ _ h => eq_lp h hp)
        replace h := h.sub [0, 1, 2, 3] (by rfl)
        change SatL c [.slot 0 (lpVP p_0 0), .slot 1 (intVP .i64 a_1), .slot 5 (strVP ((x2.f_S.take a_1.toNat).drop (0 : Int).toNat)), .res (lb p_0 205 [one (strVP x2.f_S), one (intVP .i64 x2.f_Bad)])] a w at h
        obtain ⟨hv5, hF⟩ := ite_some hF
        refine wp_seq ?_
        refine reg mixed hn hG h [2, 500] (ov [0] (op_move q0) <| ov [0] (op_move q0) <| ov [500] (op_nilCheck q0 (ptr_lp _ _)) <| ov [500] (op_fieldAddr_lbm (p := p_0) (n := 1) 0 0 Tryd.underlying205 rfl Tryd.sizeOf9 (by decide) q0 rfl) <| ov [500, 3] (op_load_lb1 [] [one (intVP .i64 x2.f_Bad)] 1 Tryd.isAgg9 q0 rfl rfl) <| ov [1] (op_move q0) <| ov [501, 500] (op_slice_str (a := a_1) (b := (x2.f_S.length : Int)) Tryd.underlying9 q0 ⟨_, q1⟩ rfl hv5) <| ov [506] (op_nilCheck q0 (ptr_lp _ _)) <| ov [500] (op_fieldAddr_lbm (p := p_0) (n := 1) 0 0 Tryd.underlying205 rfl Tryd.sizeOf9 (by decide) q0 rfl) <| ou [500, 502] 3 (op_store_lb [] [one (strVP x2.f_S)] [one (intVP .i64 x2.f_Bad)] [one (strVP ((x2.f_S.take (x2.f_S.length : Int).toNat).drop a_1.toNat))] Tryd.sizeOf9 q0 q1 (cells_one (one_str _)) rfl rfl rfl) .nil) fun _ a w h => ?_
        replace h := h.conv 1 rfl (R' := RRdr_e p_0 (some ⟨(x2.f_S.take (x2.f_S.length : Int).toNat).drop a_1.toNat, x2.f_Bad⟩)) (RRdr_packo (o := (some ⟨(x2.f_S.take (x2.f_S.length : Int).toNat).drop a_1.toNat, x2.f_Bad⟩)))
        replace h := h.sub [0, 1] (by rfl)
        change SatL c [.slot 5 (strVP ((x2.f_S.take a_1.toNat).drop (0 : Int).toNat)), .res (RRdr_e p_0 (some ⟨(x2.f_S.take (x2.f_S.length : Int).toNat).drop a_1.toNat, x2.f_Bad⟩))] a w at h
        show Code.wp Tryd.prog _ _ a w
        refine regS mixed hn hG h [500, 1] (ov [0] (op_move q0) <| ov [500] (op_assign q0) .nil) fun _ a w h => ?_
        refine wp_ret ?_
        obtain rfl := Option.some.inj hF
        exact ⟨.inl rfl, ret1 h Tryd.results174 (r_tmp 0 rfl) [1] [(RRdr_e p_0 (some ⟨(x2.f_S.take (x2.f_S.length : Int).toNat).drop a_1.toNat, x2.f_Bad⟩))] rfl rfl rfl⟩

def ref03_Reader_Number.b1 (r1 : (List UInt8) × O_RRdr) (x4 : Int) (x5 : Int) : Option (Flow (Int × O_RRdr) (Int × Int)) := (if (decide (x5 < (r1.1.length : Int))) = true then (if (0 : Int) ≤ x5 ∧ x5 < r1.1.length then some (.cont (IntKind.wrap .u64 ((IntKind.wrap .u64 (x4 * 256)) + (IntKind.wrap .u64 ((r1.1.getD x5.toNat 0).toNat))), IntKind.wrap .i64 (x5 + 1))) else none) else some (.brk (x4, x5)))
def ref03_Reader_Number (L_0 : O_RRdr) (a_1 : Int) : Option (Int × O_RRdr) := ((ref03_Reader_Take L_0 a_1).bind fun r1 => ((loopN (fun s : Int × Int => ref03_Reader_Number.b1 r1 s.1 s.2) (((r1.1.length : Int) - 0 : Int).toNat + 2) (0, 0)).bind fun cr => match cr with | .ret r => some r | .next (y16, y17) => some (y16, r1.2)))
theorem ref03_Reader_Number_ok {p_0 : Value} {L_0 : O_RRdr} {a_1 : Int} {r : Int × O_RRdr} (hF : ref03_Reader_Number L_0 a_1 = some r) : CallOk Tryd.prog KG 118 [(eqVP p_0), (intVP .i64 a_1)] [(RRdr_e p_0 (some L_0))] (fun _ => [RRdr_e p_0 (some r.2)]) (intVP .u64 r.1) := by
  refine CallOk.intro 25 Tryd.func118 rfl Tryd.ntmps118 (Nat.le_of_ble_eq_true rfl) ?_
  intro c a w hG hn h
  unfold ref03_Reader_Number at hF
  change SatL c [.slot 0 (eqVP p_0), .slot 1 (intVP .i64 a_1), .res (RRdr_e p_0 (some L_0))] a w at h
  refine regS mixed hn hG h [0, 1, 2] (ov [] (op_assign qi) .nil) fun _ a w h => ?_
  refine regS mixed hn hG h [0, 1, 500, 2] (ov [] (op_assign qi) .nil) fun _ a w h => ?_
  obtain ⟨r1, hr1, hF⟩ := bind_some hF
  refine regS mixed hn hG h [2, 500, 501] (ov [0] (op_move q0) <| ov [1] (op_move q0) <| oc [501, 500] [3] Tryd.call174 (ref03_Reader_Take_ok hr1) ⟨q0, q1, trivial⟩ <| ov [501] (op_assign q0) .nil) fun _ a w h => ?_
  refine wp_seq ?_
  refine regS mixed hn hG h [0, 1, 500, 2] (ov [] (op_assign qi) .nil) fun _ a w h => ?_
  refine wp_block ?_
  obtain ⟨cr12, hl13, hF⟩ := bind_some hF
  refine wp_mono (wp_loopN (R := Int × O_RRdr) (S := Int × Int) (fun s a w => SatL c [.slot 5 (intVP .u64 s.1), .slot 6 (strVP r1.1), .slot 7 (intVP .i64 s.2), .res (RRdr_e p_0 (some r1.2))] a w) (fun res e a w => match res with | .next s => e = .exit 0 ∧ SatL c [.slot 5 (intVP .u64 s.1), .res (RRdr_e p_0 (some r1.2))] a w | .ret r => e = .ret ∧ RetOk Tryd.prog Tryd.f118 c (intVP .u64 r.1) (fun _ => [RRdr_e p_0 (some r.2)]) a w) ?_ _ (0, 0) _ _ _ (h.sub [0, 1, 2, 3] (by rfl)) hl13) ?_
  · clear hl13 hF h
    intro s a w o h hF
    obtain ⟨x4, x5⟩ := s
    change ref03_Reader_Number.b1 r1 x4 x5 = some o at hF
    unfold ref03_Reader_Number.b1 at hF
    change SatL c [.slot 5 (intVP .u64 x4), .slot 6 (strVP r1.1), .slot 7 (intVP .i64 x5), .res (RRdr_e p_0 (some r1.2))] a w at h
    refine wp_seq ?_
    refine regS mixed hn hG h [0, 1, 2, 500, 3] (ov [2] (op_move q0) <| ov [1] (op_move q0) <| ov [500] (op_len_str Tryd.underlying9 q0) <| ov [502, 500] (op_bin bin_lss q0 q1) .nil) fun _ a w h => ?_
    refine cnd h hF 3 [0, 1, 2, 4] [0, 1, 2, 4] (fun hb10 hF h => ?_) (fun hb10 hF h => ?_)
    · refine wp_skip ?_
      show Code.wp Tryd.prog _ _ a w
      refine wp_seq ?_
      refine wp_block ?_
      obtain ⟨hv11, hF⟩ := ite_some hF
      refine reg mixed hn hG h [500, 1, 2, 3] (ov [0] (op_move q0) <| ov [500] (op_bin bin_mul q0 qi) <| ov [1] (op_move q0) <| ov [2] (op_move q0) <| ov [501, 500] (op_index_str Tryd.underlying9 q0 q1 hv11) <| ov [500] (op_convert_int Tryd.underlying5 Tryd.underlying27 q0) <| ov [504, 500] (op_bin bin_add q0 q1) <| od [500] 0 (op_assign q0) .nil) fun _ a w h => ?_
      show Code.wp Tryd.prog _ _ a w
      refine reg mixed hn hG h [0, 1, 500, 3] (ov [2] (op_move q0) <| ov [500] (op_bin bin_add q0 qi) <| od [500] 2 (op_assign q0) .nil) fun _ a w h => ?_
      obtain rfl := Option.some.inj hF
      exact ⟨rfl, h.sub [0, 1, 2, 3] (by rfl)⟩
    · refine wp_exit ?_
      obtain rfl := Option.some.inj hF
      exact ⟨exit_ne _, rfl, h.sub [0, 3] (by rfl)⟩
  · clear hl13
    intro e a w hq
    cases cr12 with
    | ret r14 =>
      obtain ⟨rfl, hq⟩ := hq
      obtain rfl := Option.some.inj hF
      exact ⟨.inl rfl, hq⟩
    | next s15 =>
      obtain ⟨y16, y17⟩ := s15
      obtain ⟨rfl, h⟩ := hq
      change SatL c [.slot 5 (intVP .u64 y16), .res (RRdr_e p_0 (some r1.2))] a w at h
      refine inBlock_at ?_
      show Code.wp Tryd.prog _ _ a w
      refine regS mixed hn hG h [500, 1] (ov [0] (op_move q0) <| ov [500] (op_assign q0) .nil) fun _ a w h => ?_
      refine wp_ret ?_
      obtain rfl := Option.some.inj hF
      exact ⟨.inl rfl, ret1 h Tryd.results118 (r_tmp 0 rfl) [1] [(RRdr_e p_0 (some r1.2))] rfl rfl rfl⟩

def ref03_Reader_Digest.b1 (r3 : (List UInt8) × O_RRdr) (x6 : Int) (x7 : List UInt8) : Option (Flow ((List UInt8) × O_RRdr) (Int × (List UInt8))) := (if (decide (x6 < (r3.1.length : Int))) = true then (if (0 : Int) ≤ x6 ∧ x6 < r3.1.length then (if (0 : Int) ≤ x6 ∧ x6 < 32 then some (.cont (IntKind.wrap .i64 (x6 + 1), x7.set x6.toNat (u8of ((r3.1.getD x6.toNat 0).toNat)))) else none) else none) else some (.brk (x6, x7)))
def ref03_Reader_Digest (L_0 : O_RRdr) : Option ((List UInt8) × O_RRdr) := ((ref03_Reader_Take L_0 32).bind fun r3 => ((loopN (fun s : Int × (List UInt8) => ref03_Reader_Digest.b1 r3 s.1 s.2) (((r3.1.length : Int) - 0 : Int).toNat + 2) (0, (List.replicate 32 0))).bind fun cr => match cr with | .ret r => some r | .next (y20, y21) => some (y21, r3.2)))
theorem ref03_Reader_Digest_ok {p_0 : Value} {L_0 : O_RRdr} {r : (List UInt8) × O_RRdr} (hF : ref03_Reader_Digest L_0 = some r) : CallOk Tryd.prog KG 119 [(eqVP p_0)] [(RRdr_e p_0 (some L_0))] (fun _ => [RRdr_e p_0 (some r.2)]) (aggVP [bytesCk 32 r.1]) := by
  refine CallOk.intro 20 Tryd.func119 rfl Tryd.ntmps119 (Nat.le_of_ble_eq_true rfl) ?_
  intro c a w hG hn h
  unfold ref03_Reader_Digest at hF
  change SatL c [.slot 0 (eqVP p_0), .res (RRdr_e p_0 (some L_0))] a w at h
  refine regS mixed hn hG h [0, 501, 1, 500] (ob [] (op_alloc Tryd.zeroValue25 z25) .nil) fun b1 a w h => ?_
  refine regS mixed hn hG h [0, 1, 501, 2, 3, 500] (ob [] (op_alloc Tryd.zeroValue25 z25) .nil) fun b2 a w h => ?_
  obtain ⟨r3, hr3, hF⟩ := bind_some hF
  refine regS mixed hn hG h [1, 2, 500, 4, 5, 501] (ov [0] (op_move q0) <| oc [500] [3] Tryd.call174 (ref03_Reader_Take_ok hr3) ⟨q0, qi, trivial⟩ <| ov [501] (op_assign q0) .nil) fun _ a w h => ?_
  refine wp_seq ?_
  refine regS mixed hn hG h [0, 1, 2, 500, 3, 4, 5] (ov [] (op_assign qi) .nil) fun _ a w h => ?_
  refine wp_block ?_
  obtain ⟨cr16, hl17, hF⟩ := bind_some hF
  refine wp_mono (wp_loopN (R := (List UInt8) × O_RRdr) (S := Int × (List UInt8)) (fun s a w => SatL c [.slot 2 (lpVP (b1 0) 0), .slot 3 (lpVP (b2 0) 0), .slot 4 (strVP r3.1), .slot 5 (intVP .i64 s.1), .res (lb (b1 0) 25 [bytesCk 32 (List.replicate 32 0)]), .res (lb (b2 0) 25 [bytesCk 32 s.2]), .res (RRdr_e p_0 (some r3.2))] a w) (fun res e a w => match res with | .next s => e = .exit 0 ∧ SatL c [.slot 2 (lpVP (b1 0) 0), .slot 3 (lpVP (b2 0) 0), .res (lb (b1 0) 25 [bytesCk 32 (List.replicate 32 0)]), .res (lb (b2 0) 25 [bytesCk 32 s.2]), .res (RRdr_e p_0 (some r3.2))] a w | .ret r => e = .ret ∧ RetOk Tryd.prog Tryd.f119 c (aggVP [bytesCk 32 r.1]) (fun _ => [RRdr_e p_0 (some r.2)]) a w) ?_ _ (0, (List.replicate 32 0)) _ _ _ (h.sub [0, 1, 2, 3, 4, 5, 6] (by rfl)) hl17) ?_
  · clear hl17 hF h
    intro s a w o h hF
    obtain ⟨x6, x7⟩ := s
    change ref03_Reader_Digest.b1 r3 x6 x7 = some o at hF
    unfold ref03_Reader_Digest.b1 at hF
    change SatL c [.slot 2 (lpVP (b1 0) 0), .slot 3 (lpVP (b2 0) 0), .slot 4 (strVP r3.1), .slot 5 (intVP .i64 x6), .res (lb (b1 0) 25 [bytesCk 32 (List.replicate 32 0)]), .res (lb (b2 0) 25 [bytesCk 32 x7]), .res (RRdr_e p_0 (some r3.2))] a w at h
    refine wp_seq ?_
    refine regS mixed hn hG h [0, 1, 2, 3, 500, 4, 5, 6] (ov [3] (op_move q0) <| ov [2] (op_move q0) <| ov [500] (op_len_str Tryd.underlying9 q0) <| ov [502, 500] (op_bin bin_lss q0 q1) .nil) fun _ a w h => ?_
    refine cnd h hF 4 [0, 1, 2, 3, 5, 6, 7] [0, 1, 2, 3, 5, 6, 7] (fun hb13 hF h => ?_) (fun hb13 hF h => ?_)
    · refine wp_skip ?_
      show Code.wp Tryd.prog _ _ a w
      refine wp_seq ?_
      refine wp_block ?_
      obtain ⟨hv14, hF⟩ := ite_some hF
      obtain ⟨hv15, hF⟩ := ite_some hF
      refine reg mixed hn hG h [0, 1, 2, 3, 4, 500, 6] (ov [3] (op_move q0) <| ov [2] (op_move q0) <| ov [3] (op_move q0) <| ov [501, 500] (op_index_str Tryd.underlying9 q0 q1 hv14) <| ov [1, 503] (op_indexAddr_lb Tryd.underlying25 Tryd.sizeOf5 q0 q1 hv15) <| ou [500, 501] 5 (op_store_lbB (i := x6) [] [] Tryd.sizeOf5 q0 q1 rfl hv15) .nil) fun _ a w h => ?_
      show Code.wp Tryd.prog _ _ a w
      refine reg mixed hn hG h [0, 1, 2, 500, 4, 5, 6] (ov [3] (op_move q0) <| ov [500] (op_bin bin_add q0 qi) <| od [500] 3 (op_assign q0) .nil) fun _ a w h => ?_
      obtain rfl := Option.some.inj hF
      exact ⟨rfl, h.sub [0, 1, 2, 3, 4, 5, 6] (by rfl)⟩
    · refine wp_exit ?_
      obtain rfl := Option.some.inj hF
      exact ⟨exit_ne _, rfl, h.sub [0, 1, 4, 5, 6] (by rfl)⟩
  · clear hl17
    intro e a w hq
    cases cr16 with
    | ret r18 =>
      obtain ⟨rfl, hq⟩ := hq
      obtain rfl := Option.some.inj hF
      exact ⟨.inl rfl, hq⟩
    | next s19 =>
      obtain ⟨y20, y21⟩ := s19
      obtain ⟨rfl, h⟩ := hq
      change SatL c [.slot 2 (lpVP (b1 0) 0), .slot 3 (lpVP (b2 0) 0), .res (lb (b1 0) 25 [bytesCk 32 (List.replicate 32 0)]), .res (lb (b2 0) 25 [bytesCk 32 y21]), .res (RRdr_e p_0 (some r3.2))] a w at h
      refine inBlock_at ?_
      show Code.wp Tryd.prog _ _ a w
      refine regS mixed hn hG h [0, 500, 4] (ov [1, 3] (op_load_w 1 Tryd.isAgg25 Tryd.sizeOf25 q0) <| ou [0, 500] 2 (op_store_w Tryd.sizeOf25 q0 q1 (cells_agg _)) .nil) fun _ a w h => ?_
      refine wp_ret ?_
      obtain rfl := Option.some.inj hF
      exact ⟨.inl rfl, ret1 h Tryd.results119 (r_cell 0 1 rfl rfl Tryd.isAgg25 Tryd.sizeOf25 rfl) [2] [(RRdr_e p_0 (some r3.2))] rfl rfl rfl⟩

def ref03_Reader_Fail.j1 (x1 : O_RRdr) : Option O_RRdr := some x1
def ref03_Reader_Fail (L_0 : O_RRdr) (a_1 : Int) : Option O_RRdr := (if (decide (L_0.f_Bad = (0 : Int))) = true then ref03_Reader_Fail.j1 ⟨L_0.f_S, a_1⟩ else ref03_Reader_Fail.j1 L_0)
theorem ref03_Reader_Fail_ok {p_0 : Value} {L_0 : O_RRdr} {a_1 : Int} {r : O_RRdr} (hF : ref03_Reader_Fail L_0 a_1 = some r) : CallOk Tryd.prog KG 175 [(eqVP p_0), (intVP .i64 a_1)] [(RRdr_e p_0 (some L_0))] (fun _ => [RRdr_e p_0 (some r)]) (tupVP []) := by
  refine CallOk.intro 13 Tryd.func175 rfl Tryd.ntmps175 (Nat.le_of_ble_eq_true rfl) ?_
  intro c a w hG hn h
  unfold ref03_Reader_Fail at hF
  change SatL c [.slot 0 (eqVP p_0), .slot 1 (intVP .i64 a_1), .res (RRdr_e p_0 (some L_0))] a w at h
  have hp := h.isp 2 rfl (fun Φ f w q => RRdr_lp Φ f w q)
  replace h := h.slotc 0 rfl (V' := lpVP p_0 0) (fun _ _ h => eq_lp h hp)
  replace h := h.sub [0, 1, 2] (by rfl)
  change SatL c [.slot 0 (lpVP p_0 0), .slot 1 (intVP .i64 a_1), .res (lb p_0 205 [one (strVP L_0.f_S), one (intVP .i64 L_0.f_Bad)])] a w at h
  refine wp_seq ?_
  refine reg mixed hn hG h [0, 1, 500, 2] (ov [0] (op_move q0) <| ov [500] (op_nilCheck q0 (ptr_lp _ _)) <| ov [500] (op_fieldAddr_lbm (p := p_0) (n := 1) 0 1 Tryd.underlying205 rfl Tryd.sizeOf3 (by decide) q0 rfl) <| ov [500, 2] (op_load_lb1 [one (strVP L_0.f_S)] [] 1 Tryd.isAgg3 q0 rfl rfl) <| ov [500] (op_bin bin_eql q0 qi) .nil) fun _ a w h => ?_
  replace h := h.conv 3 rfl (R' := RRdr_e p_0 (some L_0)) (RRdr_packo (o := (some L_0)))
  replace h := h.slotc 0 rfl (fun _ _ h => lp_eqv h)
  replace h := h.sub [0, 1, 2, 3] (by rfl)
  change SatL c [.slot 0 (eqVP p_0), .slot 1 (intVP .i64 a_1), .slot 8 (boolVP (decide (L_0.f_Bad = (0 : Int)))), .res (RRdr_e p_0 (some L_0))] a w at h
  show Code.wp Tryd.prog _ _ a w
  refine wp_cut (fun a w => ∃ (x1 : O_RRdr), ref03_Reader_Fail.j1 x1 = some r ∧ SatL c [.res (RRdr_e p_0 (some x1))] a w) ?_ ?_
  · refine cnd h hF 2 [0, 1, 3] [3] (fun hb2 hF h => ?_) (fun hb2 hF h => ?_)
    · have hp := h.isp 2 rfl (fun Φ f w q => RRdr_lp Φ f w q)
      replace h := h.slotc 0 rfl (V' := lpVP p_0 0) (fun _ _ h => eq_lp h hp)
      replace h := h.sub [0, 1, 2] (by rfl)
      change SatL c [.slot 0 (lpVP p_0 0), .slot 1 (intVP .i64 a_1), .res (lb p_0 205 [one (strVP L_0.f_S), one (intVP .i64 L_0.f_Bad)])] a w at h
      refine reg mixed hn hG h [500] (ov [0] (op_move q0) <| ov [1] (op_move q0) <| ov [501] (op_nilCheck q0 (ptr_lp _ _)) <| ov [500] (op_fieldAddr_lbm (p := p_0) (n := 1) 0 1 Tryd.underlying205 rfl Tryd.sizeOf3 (by decide) q0 rfl) <| ou [500, 502] 2 (op_store_lb [one (strVP L_0.f_S)] [one (intVP .i64 L_0.f_Bad)] [] [one (intVP .i64 a_1)] Tryd.sizeOf3 q0 q1 (cells_one (one_int _ _)) rfl rfl rfl) .nil) fun _ a w h => ?_
      replace h := h.conv 0 rfl (R' := RRdr_e p_0 (some ⟨L_0.f_S, a_1⟩)) (RRdr_packo (o := (some ⟨L_0.f_S, a_1⟩)))
      replace h := h.sub [0] (by rfl)
      change SatL c [.res (RRdr_e p_0 (some ⟨L_0.f_S, a_1⟩))] a w at h
      exact ⟨⟨L_0.f_S, a_1⟩, hF, h.sub [0] (by rfl)⟩
    · refine wp_skip ?_
      exact ⟨L_0, hF, h.sub [0] (by rfl)⟩
  · clear h hF
    rintro a w ⟨x1, hF, h⟩
    unfold ref03_Reader_Fail.j1 at hF
    obtain rfl := Option.some.inj hF
    exact ⟨.inr rfl, retn h (rs := []) (Vs := []) Tryd.results175 (by decide) trivial [0] [(RRdr_e p_0 (some x1))] rfl rfl rfl⟩

def ref03_Reader_many.j1 (r1 : Int × O_RRdr) (x2 : Bool) : Option (Int × O_RRdr) := (if x2 = true then ((ref03_Reader_Fail r1.2 5).bind fun r4 => some (0, r4)) else some (IntKind.wrap .i64 r1.1, r1.2))
def ref03_Reader_many (L_0 : O_RRdr) (a_1 : Int) : Option (Int × O_RRdr) := ((ref03_Reader_Number L_0 4).bind fun r1 => (if (decide (a_1 < (0 : Int))) = true then (if (decide ((0 : Int) < r1.1)) = true then ref03_Reader_many.j1 r1 true else (if (decide ((0 : Int) ≤ a_1)) = true then ref03_Reader_many.j1 r1 (decide ((IntKind.wrap .u64 a_1) < r1.1)) else ref03_Reader_many.j1 r1 false)) else (if (decide ((0 : Int) ≤ a_1)) = true then ref03_Reader_many.j1 r1 (decide ((IntKind.wrap .u64 a_1) < r1.1)) else ref03_Reader_many.j1 r1 false)))
theorem ref03_Reader_many_ok {p_0 : Value} {L_0 : O_RRdr} {a_1 : Int} {r : Int × O_RRdr} (hF : ref03_Reader_many L_0 a_1 = some r) : CallOk Tryd.prog KG 211 [(eqVP p_0), (intVP .i64 a_1)] [(RRdr_e p_0 (some L_0))] (fun _ => [RRdr_e p_0 (some r.2)]) (intVP .i64 r.1) := by
  refine CallOk.intro 28 Tryd.func211 rfl Tryd.ntmps211 (Nat.le_of_ble_eq_true rfl) ?_
  intro c a w hG hn h
  unfold ref03_Reader_many at hF
  change SatL c [.slot 0 (eqVP p_0), .slot 1 (intVP .i64 a_1), .res (RRdr_e p_0 (some L_0))] a w at h
  refine regS mixed hn hG h [0, 1, 2] (ov [] (op_assign qi) .nil) fun _ a w h => ?_
  obtain ⟨r1, hr1, hF⟩ := bind_some hF
  refine regS mixed hn hG h [0, 1, 500, 501] (ov [0] (op_move q0) <| oc [500] [2] Tryd.call118 (ref03_Reader_Number_ok hr1) ⟨q0, qi, trivial⟩ <| ov [501] (op_assign q0) .nil) fun _ a w h => ?_
  refine wp_seq ?_
  refine wp_seq ?_
  refine wp_cut (fun a w => ∃ (x2 : Bool), ref03_Reader_many.j1 r1 x2 = some r ∧ SatL c [.slot 0 (eqVP p_0), .slot 5 (intVP .u64 r1.1), .slot 23 (boolVP x2), .res (RRdr_e p_0 (some r1.2))] a w) ?_ ?_
  · rcases Bool.eq_false_or_eq_true (decide (a_1 < (0 : Int))) with hb5 | hb5
    · replace hF := tt_of hb5 hF
      rcases Bool.eq_false_or_eq_true (decide ((0 : Int) < r1.1)) with hb6 | hb6
      · replace hF := tt_of hb6 hF
        refine reg mixed hn hG h [0, 2, 500, 3] (ov [1] (op_move q0) <| ov [500] (op_bin bin_lss q0 qi) <| ov [500] (op_move q0) <| oe [500, 2] [] (GOk.on_eq hb5 rfl rfl rfl (op_move q0)) <| oe [501, 500] [] (GOk.on_eq hb5 rfl rfl rfl (op_bin bin_gtr q0 qi)) <| ov [502, 500] (op_pick_t hb5 q0 q1) <| ov [500] (op_move q0) <| oe [500] [] (GOk.off_v (want := false) hb6 rfl rfl rfl rfl) <| oe [501] [] (GOk.off_v (want := false) hb6 rfl rfl rfl rfl) <| oe [502] [] (GOk.off_v (want := false) hb6 rfl rfl rfl rfl) <| oe [500] [] (GOk.off_u rfl rfl rfl rfl) <| oe [501] [] (GOk.off_u rfl rfl rfl rfl) <| oe [502] [] (GOk.off_u rfl rfl rfl rfl) <| oe [503] [] (GOk.off_u rfl rfl rfl rfl) <| oe [507] [] (GOk.off_v (want := false) hb6 rfl rfl rfl rfl) <| ov [508] (op_pick_t hb6 q0 qb) .nil) fun _ a w h => ?_
        exact ⟨true, hF, h.sub [0, 1, 2, 3] (by rfl)⟩
      · replace hF := ff_of hb6 hF
        rcases Bool.eq_false_or_eq_true (decide ((0 : Int) ≤ a_1)) with hb7 | hb7
        · replace hF := tt_of hb7 hF
          refine reg mixed hn hG h [0, 2, 500, 3] (ov [1] (op_move q0) <| ov [500] (op_bin bin_lss q0 qi) <| ov [500] (op_move q0) <| oe [500, 2] [] (GOk.on_eq hb5 rfl rfl rfl (op_move q0)) <| oe [501, 500] [] (GOk.on_eq hb5 rfl rfl rfl (op_bin bin_gtr q0 qi)) <| ov [502, 500] (op_pick_t hb5 q0 q1) <| ov [500] (op_move q0) <| oe [500, 1] [] (GOk.on_eq hb6 rfl rfl rfl (op_move q0)) <| oe [501, 500] [] (GOk.on_eq hb6 rfl rfl rfl (op_bin bin_geq q0 qi)) <| oe [502, 500] [] (GOk.on_eq hb6 rfl rfl rfl (op_move q0)) <| oe [500, 2] [] (GOk.on_eq hb7 rfl rfl rfl (op_move q0)) <| oe [501, 1] [] (GOk.on_eq hb7 rfl rfl rfl (op_move q0)) <| oe [502, 500] [] (GOk.on_eq hb7 rfl rfl rfl (op_convert_int Tryd.underlying3 Tryd.underlying27 q0)) <| oe [503, 502, 500] [] (GOk.on_eq hb7 rfl rfl rfl (op_bin bin_gtr q0 q1)) <| oe [507, 504, 500] [] (GOk.on_eq hb6 rfl rfl rfl (op_pick_t hb7 q0 q1)) <| ov [508, 500] (op_pick_f hb6 q0 q1) .nil) fun _ a w h => ?_
          exact ⟨decide ((IntKind.wrap .u64 a_1) < r1.1), hF, h.sub [0, 1, 2, 3] (by rfl)⟩
        · replace hF := ff_of hb7 hF
          refine reg mixed hn hG h [0, 2, 500, 3] (ov [1] (op_move q0) <| ov [500] (op_bin bin_lss q0 qi) <| ov [500] (op_move q0) <| oe [500, 2] [] (GOk.on_eq hb5 rfl rfl rfl (op_move q0)) <| oe [501, 500] [] (GOk.on_eq hb5 rfl rfl rfl (op_bin bin_gtr q0 qi)) <| ov [502, 500] (op_pick_t hb5 q0 q1) <| ov [500] (op_move q0) <| oe [500, 1] [] (GOk.on_eq hb6 rfl rfl rfl (op_move q0)) <| oe [501, 500] [] (GOk.on_eq hb6 rfl rfl rfl (op_bin bin_geq q0 qi)) <| oe [502, 500] [] (GOk.on_eq hb6 rfl rfl rfl (op_move q0)) <| oe [500] [] (GOk.off_v (want := true) hb7 rfl rfl rfl rfl) <| oe [501] [] (GOk.off_v (want := true) hb7 rfl rfl rfl rfl) <| oe [502] [] (GOk.off_v (want := true) hb7 rfl rfl rfl rfl) <| oe [503] [] (GOk.off_v (want := true) hb7 rfl rfl rfl rfl) <| oe [507, 504] [] (GOk.on_eq hb6 rfl rfl rfl (op_pick_f hb7 q0 qb)) <| ov [508, 500] (op_pick_f hb6 q0 q1) .nil) fun _ a w h => ?_
          exact ⟨false, hF, h.sub [0, 1, 2, 3] (by rfl)⟩
    · replace hF := ff_of hb5 hF
      rcases Bool.eq_false_or_eq_true (decide ((0 : Int) ≤ a_1)) with hb8 | hb8
      · replace hF := tt_of hb8 hF
        refine reg mixed hn hG h [0, 2, 500, 3] (ov [1] (op_move q0) <| ov [500] (op_bin bin_lss q0 qi) <| ov [500] (op_move q0) <| oe [500] [] (GOk.off_v (want := true) hb5 rfl rfl rfl rfl) <| oe [501] [] (GOk.off_v (want := true) hb5 rfl rfl rfl rfl) <| ov [502] (op_pick_f hb5 q0 qb) <| ov [500] (op_move q0) <| oe [500, 1] [] (GOk.on_eq rfl rfl rfl rfl (op_move q0)) <| oe [501, 500] [] (GOk.on_eq rfl rfl rfl rfl (op_bin bin_geq q0 qi)) <| oe [502, 500] [] (GOk.on_eq rfl rfl rfl rfl (op_move q0)) <| oe [500, 2] [] (GOk.on_eq hb8 rfl rfl rfl (op_move q0)) <| oe [501, 1] [] (GOk.on_eq hb8 rfl rfl rfl (op_move q0)) <| oe [502, 500] [] (GOk.on_eq hb8 rfl rfl rfl (op_convert_int Tryd.underlying3 Tryd.underlying27 q0)) <| oe [503, 502, 500] [] (GOk.on_eq hb8 rfl rfl rfl (op_bin bin_gtr q0 q1)) <| oe [507, 504, 500] [] (GOk.on_eq rfl rfl rfl rfl (op_pick_t hb8 q0 q1)) <| ov [508, 500] (op_pick_f rfl q0 q1) .nil) fun _ a w h => ?_
        exact ⟨decide ((IntKind.wrap .u64 a_1) < r1.1), hF, h.sub [0, 1, 2, 3] (by rfl)⟩
      · replace hF := ff_of hb8 hF
        refine reg mixed hn hG h [0, 2, 500, 3] (ov [1] (op_move q0) <| ov [500] (op_bin bin_lss q0 qi) <| ov [500] (op_move q0) <| oe [500] [] (GOk.off_v (want := true) hb5 rfl rfl rfl rfl) <| oe [501] [] (GOk.off_v (want := true) hb5 rfl rfl rfl rfl) <| ov [502] (op_pick_f hb5 q0 qb) <| ov [500] (op_move q0) <| oe [500, 1] [] (GOk.on_eq rfl rfl rfl rfl (op_move q0)) <| oe [501, 500] [] (GOk.on_eq rfl rfl rfl rfl (op_bin bin_geq q0 qi)) <| oe [502, 500] [] (GOk.on_eq rfl rfl rfl rfl (op_move q0)) <| oe [500] [] (GOk.off_v (want := true) hb8 rfl rfl rfl rfl) <| oe [501] [] (GOk.off_v (want := true) hb8 rfl rfl rfl rfl) <| oe [502] [] (GOk.off_v (want := true) hb8 rfl rfl rfl rfl) <| oe [503] [] (GOk.off_v (want := true) hb8 rfl rfl rfl rfl) <| oe [507, 504] [] (GOk.on_eq rfl rfl rfl rfl (op_pick_f hb8 q0 qb)) <| ov [508, 500] (op_pick_f rfl q0 q1) .nil) fun _ a w h => ?_
        exact ⟨false, hF, h.sub [0, 1, 2, 3] (by rfl)⟩
  · clear h hF
    rintro a w ⟨x2, hF, h⟩
    unfold ref03_Reader_many.j1 at hF
    show Code.wp Tryd.prog _ _ a w
    refine cnd h hF 2 [0, 3] [1, 3] (fun hb3 hF h => ?_) (fun hb3 hF h => ?_)
    · obtain ⟨r4, hr4, hF⟩ := bind_some hF
      refine regS mixed hn hG h [500] (ov [0] (op_move q0) <| oc [500] [1] Tryd.call175 (ref03_Reader_Fail_ok hr4) ⟨q0, qi, trivial⟩ .nil) fun _ a w h => ?_
      refine regS mixed hn hG h [500, 0] (ov [] (op_assign qi) .nil) fun _ a w h => ?_
      refine wp_ret ?_
      obtain rfl := Option.some.inj hF
      exact ⟨.inl rfl, ret1 h Tryd.results211 (r_tmp 0 rfl) [1] [(RRdr_e p_0 (some r4))] rfl rfl rfl⟩
    · refine wp_skip ?_
      show Code.wp Tryd.prog _ _ a w
      refine regS mixed hn hG h [500, 1] (ov [0] (op_move q0) <| ov [500] (op_convert_int Tryd.underlying27 Tryd.underlying3 q0) <| ov [500] (op_assign q0) .nil) fun _ a w h => ?_
      refine wp_ret ?_
      obtain rfl := Option.some.inj hF
      exact ⟨.inl rfl, ret1 h Tryd.results211 (r_tmp 0 rfl) [1] [(RRdr_e p_0 (some r1.2))] rfl rfl rfl⟩

def ref03_Reader_Digests.j3 (x16 : Int) (x17 : O_RRdr) (x18 : List (List UInt8)) (x29 : Bool) : Option (Flow ((List (List UInt8)) × O_RRdr) (Int × O_RRdr × (List (List UInt8)))) := (if x29 = true then ((ref03_Reader_Digest x17).bind fun r31 => (if x18.length + [r31.1].length ≤ mxl ∧ (x18.length + [r31.1].length) * 32 ≤ 140737488355328 then some (.cont (IntKind.wrap .i64 (x16 + 1), r31.2, x18 ++ [r31.1])) else none)) else some (.brk (x16, x17, x18)))
def ref03_Reader_Digests.b1 (r1 : Int × O_RRdr) (x16 : Int) (x17 : O_RRdr) (x18 : List (List UInt8)) : Option (Flow ((List (List UInt8)) × O_RRdr) (Int × O_RRdr × (List (List UInt8)))) := (if (decide (x16 < r1.1)) = true then ref03_Reader_Digests.j3 x16 x17 x18 (decide (x17.f_Bad = (0 : Int))) else ref03_Reader_Digests.j3 x16 x17 x18 false)
def ref03_Reader_Digests.j2 (r1 : Int × O_RRdr) (x3 : O_RRdr) : Option ((List (List UInt8)) × O_RRdr) := ((loopN (fun s : Int × O_RRdr × (List (List UInt8)) => ref03_Reader_Digests.b1 r1 s.1 s.2.1 s.2.2) 100000 (0, x3, [])).bind fun cr => match cr with | .ret r => some r | .next (y39, y40, y41) => some (y41, y40))
def ref03_Reader_Digests.j1 (r1 : Int × O_RRdr) (x2 : Bool) : Option ((List (List UInt8)) × O_RRdr) := (if x2 = true then ref03_Reader_Digests.j2 r1 ⟨r1.2.f_S, 3⟩ else ref03_Reader_Digests.j2 r1 r1.2)
def ref03_Reader_Digests (L_0 : O_RRdr) (a_1 : Int) : Option ((List (List UInt8)) × O_RRdr) := ((ref03_Reader_many L_0 a_1).bind fun r1 => (if (decide (r1.2.f_Bad = (0 : Int))) = true then ref03_Reader_Digests.j1 r1 (decide ((IntKind.wrap .i64 ((r1.2.f_S.length : Int).tdiv 32)) < r1.1)) else ref03_Reader_Digests.j1 r1 false))
theorem ref03_Reader_Digests_ok {p_0 : Value} {L_0 : O_RRdr} {a_1 : Int} {r : (List (List UInt8)) × O_RRdr} (hF : ref03_Reader_Digests L_0 a_1 = some r) : CallOk Tryd.prog KG 176 [(eqVP p_0), (intVP .i64 a_1)] [(RRdr_e p_0 (some L_0))] (fun _ => [RRdr_e p_0 (some r.2)]) (slVP (dC 32) r.1) := by
  refine CallOk.intro 47 Tryd.func176 rfl Tryd.ntmps176 (Nat.le_of_ble_eq_true rfl) ?_
  intro c a w hG hn h
  unfold ref03_Reader_Digests at hF
  change SatL c [.slot 0 (eqVP p_0), .slot 1 (intVP .i64 a_1), .res (RRdr_e p_0 (some L_0))] a w at h
  refine regS mixed hn hG h [0, 1, 2] (ov [] (op_assign (opc (ec _))) .nil) fun _ a w h => ?_
  obtain ⟨r1, hr1, hF⟩ := bind_some hF
  refine regS mixed hn hG h [0, 500, 501] (ov [0] (op_move q0) <| ov [1] (op_move q0) <| oc [501, 500] [2] Tryd.call211 (ref03_Reader_many_ok hr1) ⟨q0, q1, trivial⟩ <| ov [501] (op_assign q0) .nil) fun _ a w h => ?_
  refine wp_seq ?_
  have hp := h.isp 2 rfl (fun Φ f w q => RRdr_lp Φ f w q)
  replace h := h.slotc 0 rfl (V' := lpVP p_0 0) (fun _ _ h => eq_lp h hp)
  replace h := h.sub [0, 1, 2] (by rfl)
  change SatL c [.slot 0 (lpVP p_0 0), .slot 5 (intVP .i64 r1.1), .res (lb p_0 205 [one (strVP r1.2.f_S), one (intVP .i64 r1.2.f_Bad)])] a w at h
  refine wp_seq ?_
  refine wp_cut (fun a w => ∃ (x2 : Bool), ref03_Reader_Digests.j1 r1 x2 = some r ∧ SatL c [.slot 0 (eqVP p_0), .slot 5 (intVP .i64 r1.1), .slot 25 (boolVP x2), .res (RRdr_e p_0 (some r1.2))] a w) ?_ ?_
  · rcases Bool.eq_false_or_eq_true (decide (r1.2.f_Bad = (0 : Int))) with hb43 | hb43
    · replace hF := tt_of hb43 hF
      refine reg mixed hn hG h [0, 1, 500, 2] (ov [0] (op_move q0) <| ov [500] (op_nilCheck q0 (ptr_lp _ _)) <| ov [500] (op_fieldAddr_lbm (p := p_0) (n := 1) 0 1 Tryd.underlying205 rfl Tryd.sizeOf3 (by decide) q0 rfl) <| ov [500, 2] (op_load_lb1 [one (strVP r1.2.f_S)] [] 1 Tryd.isAgg3 q0 rfl rfl) <| ov [500] (op_bin bin_eql q0 qi) <| ov [500] (op_move q0) <| oe [500, 0] [] (GOk.on_eq hb43 rfl rfl rfl (op_move q0)) <| oe [501, 500] [] (GOk.on_eq hb43 rfl rfl rfl (op_nilCheck q0 (ptr_lp _ _))) <| oe [502, 500] [] (GOk.on_eq hb43 rfl rfl rfl (op_fieldAddr_lbm (p := p_0) (n := 1) 0 0 Tryd.underlying205 rfl Tryd.sizeOf9 (by decide) q0 rfl)) <| oe [503, 500, 2] [] (GOk.on_eq hb43 rfl rfl rfl (op_load_lb1 [] [one (intVP .i64 r1.2.f_Bad)] 1 Tryd.isAgg9 q0 rfl rfl)) <| oe [504, 500] [] (GOk.on_eq hb43 rfl rfl rfl (op_len_str Tryd.underlying9 q0)) <| oe [505, 500] [] (GOk.on_eq hb43 rfl rfl rfl (op_bin (bin_quo (by decide)) q0 qi)) <| oe [506, 1] [] (GOk.on_eq hb43 rfl rfl rfl (op_move q0)) <| oe [507, 501, 500] [] (GOk.on_eq hb43 rfl rfl rfl (op_bin bin_lss q0 q1)) <| ov [508, 500] (op_pick_t hb43 q0 q1) .nil) fun _ a w h => ?_
      replace h := h.conv 3 rfl (R' := RRdr_e p_0 (some r1.2)) (RRdr_packo (o := (some r1.2)))
      replace h := h.slotc 0 rfl (fun _ _ h => lp_eqv h)
      replace h := h.sub [0, 1, 2, 3] (by rfl)
      change SatL c [.slot 0 (eqVP p_0), .slot 5 (intVP .i64 r1.1), .slot 25 (boolVP (decide ((IntKind.wrap .i64 ((r1.2.f_S.length : Int).tdiv 32)) < r1.1))), .res (RRdr_e p_0 (some r1.2))] a w at h
      exact ⟨decide ((IntKind.wrap .i64 ((r1.2.f_S.length : Int).tdiv 32)) < r1.1), hF, h.sub [0, 1, 2, 3] (by rfl)⟩
    · replace hF := ff_of hb43 hF
      refine reg mixed hn hG h [0, 1, 500, 2] (ov [0] (op_move q0) <| ov [500] (op_nilCheck q0 (ptr_lp _ _)) <| ov [500] (op_fieldAddr_lbm (p := p_0) (n := 1) 0 1 Tryd.underlying205 rfl Tryd.sizeOf3 (by decide) q0 rfl) <| ov [500, 2] (op_load_lb1 [one (strVP r1.2.f_S)] [] 1 Tryd.isAgg3 q0 rfl rfl) <| ov [500] (op_bin bin_eql q0 qi) <| ov [500] (op_move q0) <| oe [500] [] (GOk.off_v (want := true) hb43 rfl rfl rfl rfl) <| oe [501] [] (GOk.off_v (want := true) hb43 rfl rfl rfl rfl) <| oe [502] [] (GOk.off_v (want := true) hb43 rfl rfl rfl rfl) <| oe [503] [] (GOk.off_v (want := true) hb43 rfl rfl rfl rfl) <| oe [504] [] (GOk.off_v (want := true) hb43 rfl rfl rfl rfl) <| oe [505] [] (GOk.off_v (want := true) hb43 rfl rfl rfl rfl) <| oe [506] [] (GOk.off_v (want := true) hb43 rfl rfl rfl rfl) <| oe [507] [] (GOk.off_v (want := true) hb43 rfl rfl rfl rfl) <| ov [508] (op_pick_f hb43 q0 qb) .nil) fun _ a w h => ?_
      replace h := h.conv 3 rfl (R' := RRdr_e p_0 (some r1.2)) (RRdr_packo (o := (some r1.2)))
      replace h := h.slotc 0 rfl (fun _ _ h => lp_eqv h)
      replace h := h.sub [0, 1, 2, 3] (by rfl)
      change SatL c [.slot 0 (eqVP p_0), .slot 5 (intVP .i64 r1.1), .slot 25 (boolVP false), .res (RRdr_e p_0 (some r1.2))] a w at h
      exact ⟨false, hF, h.sub [0, 1, 2, 3] (by rfl)⟩
  · clear h hF
    rintro a w ⟨x2, hF, h⟩
    unfold ref03_Reader_Digests.j1 at hF
    show Code.wp Tryd.prog _ _ a w
    refine wp_cut (fun a w => ∃ (x3 : O_RRdr), ref03_Reader_Digests.j2 r1 x3 = some r ∧ SatL c [.slot 0 (eqVP p_0), .slot 5 (intVP .i64 r1.1), .res (RRdr_e p_0 (some x3))] a w) ?_ ?_
    · refine cnd h hF 2 [0, 1, 3] [0, 1, 3] (fun hb42 hF h => ?_) (fun hb42 hF h => ?_)
      · have hp := h.isp 2 rfl (fun Φ f w q => RRdr_lp Φ f w q)
        replace h := h.slotc 0 rfl (V' := lpVP p_0 0) (fun _ _ h => eq_lp h hp)
        replace h := h.sub [0, 1, 2] (by rfl)
        change SatL c [.slot 0 (lpVP p_0 0), .slot 5 (intVP .i64 r1.1), .res (lb p_0 205 [one (strVP r1.2.f_S), one (intVP .i64 r1.2.f_Bad)])] a w at h
        refine reg mixed hn hG h [0, 1, 500] (ov [0] (op_move q0) <| ov [500] (op_nilCheck q0 (ptr_lp _ _)) <| ov [500] (op_fieldAddr_lbm (p := p_0) (n := 1) 0 1 Tryd.underlying205 rfl Tryd.sizeOf3 (by decide) q0 rfl) <| ou [500] 2 (op_store_lb [one (strVP r1.2.f_S)] [one (intVP .i64 r1.2.f_Bad)] [] [one (intVP .i64 3)] Tryd.sizeOf3 q0 qi (cells_one (one_int _ _)) rfl rfl rfl) .nil) fun _ a w h => ?_
        replace h := h.conv 2 rfl (R' := RRdr_e p_0 (some ⟨r1.2.f_S, 3⟩)) (RRdr_packo (o := (some ⟨r1.2.f_S, 3⟩)))
        replace h := h.slotc 0 rfl (fun _ _ h => lp_eqv h)
        replace h := h.sub [0, 1, 2] (by rfl)
        change SatL c [.slot 0 (eqVP p_0), .slot 5 (intVP .i64 r1.1), .res (RRdr_e p_0 (some ⟨r1.2.f_S, 3⟩))] a w at h
        exact ⟨⟨r1.2.f_S, 3⟩, hF, h.sub [0, 1, 2] (by rfl)⟩
      · refine wp_skip ?_
        exact ⟨r1.2, hF, h.sub [0, 1, 2] (by rfl)⟩
    · clear h hF
      rintro a w ⟨x3, hF, h⟩
      unfold ref03_Reader_Digests.j2 at hF
      show Code.wp Tryd.prog _ _ a w
      refine regS mixed hn hG h [0, 1, 500, 2] (ov [] (op_assign (opc (ec _))) .nil) fun _ a w h => ?_
      refine wp_seq ?_
      refine regS mixed hn hG h [0, 1, 2, 500, 3] (ov [] (op_assign qi) .nil) fun _ a w h => ?_
      refine wp_block ?_
      obtain ⟨q10, h⟩ : ∃ q10 : Value, SatL c [.slot 0 (eqVP p_0), .slot 5 (intVP .i64 r1.1), .slot 6 (eqVP q10), .slot 7 (intVP .i64 0), .res (RRdr_e p_0 (some x3)), .res (acc q10 25 32 (dC 32) [])] a w := ⟨.slice none 0 0, (h.nilacc 25 32 (dC 32)).sub [0, 1, 2, 3, 4, 5] (by rfl)⟩
      obtain ⟨cr35, hl36, hF⟩ := bind_some hF
      refine wp_mono (wp_loopN (R := (List (List UInt8)) × O_RRdr) (S := Int × O_RRdr × (List (List UInt8))) (fun s a w => ∃ q19 : Value, SatL c [.slot 0 (eqVP p_0), .slot 5 (intVP .i64 r1.1), .slot 6 (eqVP q19), .slot 7 (intVP .i64 s.1), .res (RRdr_e p_0 (some s.2.1)), .res (acc q19 25 32 (dC 32) s.2.2)] a w) (fun res e a w => match res with | .next s => e = .exit 0 ∧ ∃ q19 : Value, SatL c [.slot 6 (eqVP q19), .res (RRdr_e p_0 (some s.2.1)), .res (acc q19 25 32 (dC 32) s.2.2)] a w | .ret r => e = .ret ∧ RetOk Tryd.prog Tryd.f176 c (slVP (dC 32) r.1) (fun _ => [RRdr_e p_0 (some r.2)]) a w) ?_ _ (0, x3, []) _ _ _ ⟨q10, (h.sub [0, 1, 2, 3, 4, 5] (by rfl))⟩ hl36) ?_
      · clear hl36 hF h
        intro s a w o h hF
        obtain ⟨x16, x17, x18⟩ := s
        obtain ⟨q19, h⟩ := h
        change ref03_Reader_Digests.b1 r1 x16 x17 x18 = some o at hF
        unfold ref03_Reader_Digests.b1 at hF
        change SatL c [.slot 0 (eqVP p_0), .slot 5 (intVP .i64 r1.1), .slot 6 (eqVP q19), .slot 7 (intVP .i64 x16), .res (RRdr_e p_0 (some x17)), .res (acc q19 25 32 (dC 32) x18)] a w at h
        refine wp_seq ?_
        have hp := h.isp 4 rfl (fun Φ f w q => RRdr_lp Φ f w q)
        replace h := h.slotc 0 rfl (V' := lpVP p_0 0) (fun _ _ h => eq_lp h hp)
        replace h := h.sub [0, 1, 2, 3, 4, 5] (by rfl)
        change SatL c [.slot 0 (lpVP p_0 0), .slot 5 (intVP .i64 r1.1), .slot 6 (eqVP q19), .slot 7 (intVP .i64 x16), .res (lb p_0 205 [one (strVP x17.f_S), one (intVP .i64 x17.f_Bad)]), .res (acc q19 25 32 (dC 32) x18)] a w at h
        refine wp_seq ?_
        refine wp_cut (fun a w => ∃ (x29 : Bool), ref03_Reader_Digests.j3 x16 x17 x18 x29 = some o ∧ SatL c [.slot 0 (eqVP p_0), .slot 5 (intVP .i64 r1.1), .slot 6 (eqVP q19), .slot 7 (intVP .i64 x16), .slot 38 (boolVP x29), .res (acc q19 25 32 (dC 32) x18), .res (RRdr_e p_0 (some x17))] a w) ?_ ?_
        · rcases Bool.eq_false_or_eq_true (decide (x16 < r1.1)) with hb34 | hb34
          · replace hF := tt_of hb34 hF
            refine reg mixed hn hG h [0, 1, 2, 3, 500, 4, 5] (ov [3] (op_move q0) <| ov [1] (op_move q0) <| ov [501, 500] (op_bin bin_lss q0 q1) <| ov [500] (op_move q0) <| oe [500, 0] [] (GOk.on_eq hb34 rfl rfl rfl (op_move q0)) <| oe [501, 500] [] (GOk.on_eq hb34 rfl rfl rfl (op_nilCheck q0 (ptr_lp _ _))) <| oe [502, 500] [] (GOk.on_eq hb34 rfl rfl rfl (op_fieldAddr_lbm (p := p_0) (n := 1) 0 1 Tryd.underlying205 rfl Tryd.sizeOf3 (by decide) q0 rfl)) <| oe [503, 500, 4] [] (GOk.on_eq hb34 rfl rfl rfl (op_load_lb1 [one (strVP x17.f_S)] [] 1 Tryd.isAgg3 q0 rfl rfl)) <| oe [504, 500] [] (GOk.on_eq hb34 rfl rfl rfl (op_bin bin_eql q0 qi)) <| ov [505, 500] (op_pick_t hb34 q0 q1) .nil) fun _ a w h => ?_
            replace h := h.conv 5 rfl (R' := RRdr_e p_0 (some x17)) (RRdr_packo (o := (some x17)))
            replace h := h.slotc 0 rfl (fun _ _ h => lp_eqv h)
            replace h := h.sub [0, 1, 2, 3, 4, 6, 5] (by rfl)
            change SatL c [.slot 0 (eqVP p_0), .slot 5 (intVP .i64 r1.1), .slot 6 (eqVP q19), .slot 7 (intVP .i64 x16), .slot 38 (boolVP (decide (x17.f_Bad = (0 : Int)))), .res (acc q19 25 32 (dC 32) x18), .res (RRdr_e p_0 (some x17))] a w at h
            exact ⟨decide (x17.f_Bad = (0 : Int)), hF, h.sub [0, 1, 2, 3, 4, 5, 6] (by rfl)⟩
          · replace hF := ff_of hb34 hF
            refine reg mixed hn hG h [0, 1, 2, 3, 500, 4, 5] (ov [3] (op_move q0) <| ov [1] (op_move q0) <| ov [501, 500] (op_bin bin_lss q0 q1) <| ov [500] (op_move q0) <| oe [500] [] (GOk.off_v (want := true) hb34 rfl rfl rfl rfl) <| oe [501] [] (GOk.off_v (want := true) hb34 rfl rfl rfl rfl) <| oe [502] [] (GOk.off_v (want := true) hb34 rfl rfl rfl rfl) <| oe [503] [] (GOk.off_v (want := true) hb34 rfl rfl rfl rfl) <| oe [504] [] (GOk.off_v (want := true) hb34 rfl rfl rfl rfl) <| ov [505] (op_pick_f hb34 q0 qb) .nil) fun _ a w h => ?_
            replace h := h.conv 5 rfl (R' := RRdr_e p_0 (some x17)) (RRdr_packo (o := (some x17)))
            replace h := h.slotc 0 rfl (fun _ _ h => lp_eqv h)
            replace h := h.sub [0, 1, 2, 3, 4, 6, 5] (by rfl)
            change SatL c [.slot 0 (eqVP p_0), .slot 5 (intVP .i64 r1.1), .slot 6 (eqVP q19), .slot 7 (intVP .i64 x16), .slot 38 (boolVP false), .res (acc q19 25 32 (dC 32) x18), .res (RRdr_e p_0 (some x17))] a w at h
            exact ⟨false, hF, h.sub [0, 1, 2, 3, 4, 5, 6] (by rfl)⟩
        · clear h hF
          rintro a w ⟨x29, hF, h⟩
          unfold ref03_Reader_Digests.j3 at hF
          show Code.wp Tryd.prog _ _ a w
          refine cnd h hF 4 [0, 1, 2, 3, 5, 6] [0, 1, 2, 3, 5, 6] (fun hb30 hF h => ?_) (fun hb30 hF h => ?_)
          · refine wp_skip ?_
            show Code.wp Tryd.prog _ _ a w
            refine wp_seq ?_
            refine wp_block ?_
            obtain ⟨r31, hr31, hF⟩ := bind_some hF
            obtain ⟨hv32, hF⟩ := ite_some hF
            refine reg mixed hn hG h [0, 1, 500, 3, 504, 501] (ov [2] (op_move q0) <| ov [0] (op_move q0) <| oc [500] [5] Tryd.call119 (ref03_Reader_Digest_ok hr31) ⟨q0, trivial⟩ <| ov [501] (op_lit (xs := [.tmp 43]) (ys := [r31.1]) _ rfl Tryd.underlying26 Tryd.sizeOf25 Tryd.zeroValue25 rfl rfl (by decide) (by decide) ⟨⟨_, q0, (cells_agg _)⟩, trivial⟩ (lens_dC 32)) <| og [504, 500] [4] [.slot 45 4 100000 (fun v1_ _ => (eqVP v1_)), .res 4 100000 (fun v1_ _ => (acc (v1_) 25 32 (dC 32) (x18 ++ [r31.1])))] (GOk.plain (op_append (i := Tryd.t25) Tryd.underlying26 Tryd.type25 rfl (lens_dC 32) (by decide) rfl q0 q1 hv32) rfl) <| og [501] [2] [.slot 6 4 100000 (fun v1_ _ => (eqVP v1_))] (fun {β} => (GOk.drop _ (GOk.plain (op_assign (V := (eqVP (β 4))) q0) rfl))) .nil) fun b33 a w h => ?_
            show Code.wp Tryd.prog _ _ a w
            refine reg mixed hn hG h [0, 1, 2, 500, 4, 5] (ov [3] (op_move q0) <| ov [500] (op_bin bin_add q0 qi) <| od [500] 3 (op_assign q0) .nil) fun _ a w h => ?_
            obtain rfl := Option.some.inj hF
            exact ⟨rfl, (b33 4), h.sub [0, 1, 2, 3, 4, 5] (by rfl)⟩
          · refine wp_exit ?_
            obtain rfl := Option.some.inj hF
            exact ⟨exit_ne _, rfl, q19, h.sub [2, 5, 4] (by rfl)⟩
      · clear hl36
        intro e a w hq
        cases cr35 with
        | ret r37 =>
          obtain ⟨rfl, hq⟩ := hq
          obtain rfl := Option.some.inj hF
          exact ⟨.inl rfl, hq⟩
        | next s38 =>
          obtain ⟨y39, y40, y41⟩ := s38
          obtain ⟨rfl, q19, h⟩ := hq
          change SatL c [.slot 6 (eqVP q19), .res (RRdr_e p_0 (some y40)), .res (acc q19 25 32 (dC 32) y41)] a w at h
          refine inBlock_at ?_
          show Code.wp Tryd.prog _ _ a w
          refine regS mixed hn hG h [500, 1, 2] (ov [0] (op_move q0) <| ov [500] (op_assign q0) .nil) fun _ a w h => ?_
          refine wp_ret ?_
          obtain rfl := Option.some.inj hF
          exact ⟨.inl rfl, ret1 h Tryd.results176 (r_acc 0 2 rfl rfl) [1] [(RRdr_e p_0 (some y40))] rfl rfl rfl⟩

def ref03_Reader_Sig.j1 (r3 : Int × O_RRdr) (x5 : O_RRdr) : Option (S_api_Sig × O_RRdr) := ((ref03_Reader_Digests x5 32).bind fun r6 => ((ref03_Reader_Digests r6.2 32).bind fun r7 => ((ref03_Reader_Digests r7.2 32).bind fun r8 => (if (!decide (r8.2.f_Bad = (0 : Int))) = true then some ((S_api_Sig.mk (0 : Int) [] [] []), r8.2) else some ((S_api_Sig.mk (IntKind.wrap .i64 r3.1) r6.1 r7.1 r8.1), r8.2)))))
def ref03_Reader_Sig (L_0 : O_RRdr) : Option (S_api_Sig × O_RRdr) := ((ref03_Reader_Number L_0 4).bind fun r3 => (if (decide ((2147483648 : Int) ≤ r3.1)) = true then ((ref03_Reader_Fail r3.2 8).bind fun r11 => ref03_Reader_Sig.j1 r3 r11) else ref03_Reader_Sig.j1 r3 r3.2))
theorem ref03_Reader_Sig_ok {p_0 : Value} {L_0 : O_RRdr} {r : S_api_Sig × O_RRdr} (hF : ref03_Reader_Sig L_0 = some r) : CallOk Tryd.prog KG 120 [(eqVP p_0)] [(RRdr_e p_0 (some L_0))] (fun _ => [RRdr_e p_0 (some r.2)]) (aggVP [one (intVP .i64 r.1.f_Index), one (slVP (dC 32) r.1.f_Parts), one (slVP (dC 32) r.1.f_Others), one (slVP (dC 32) r.1.f_Path)]) := by
  refine CallOk.intro 30 Tryd.func120 rfl Tryd.ntmps120 (Nat.le_of_ble_eq_true rfl) ?_
  intro c a w hG hn h
  unfold ref03_Reader_Sig at hF
  change SatL c [.slot 0 (eqVP p_0), .res (RRdr_e p_0 (some L_0))] a w at h
  refine regS mixed hn hG h [0, 501, 1, 500] (ob [] (op_alloc Tryd.zeroValue35 z35) .nil) fun b1 a w h => ?_
  refine regS mixed hn hG h [0, 1, 501, 2, 3, 500] (ob [] (op_alloc Tryd.zeroValue35 z35) .nil) fun b2 a w h => ?_
  obtain ⟨r3, hr3, hF⟩ := bind_some hF
  refine regS mixed hn hG h [0, 1, 2, 500, 4, 5, 501] (ov [0] (op_move q0) <| oc [500] [3] Tryd.call118 (ref03_Reader_Number_ok hr3) ⟨q0, qi, trivial⟩ <| ov [501] (op_assign q0) .nil) fun _ a w h => ?_
  refine wp_seq ?_
  refine regS mixed hn hG h [0, 1, 2, 3, 500, 4, 5, 6] (ov [3] (op_move q0) <| ov [500] (op_bin bin_geq q0 qi) .nil) fun _ a w h => ?_
  refine wp_cut (fun a w => ∃ (x5 : O_RRdr), ref03_Reader_Sig.j1 r3 x5 = some r ∧ SatL c [.slot 0 (eqVP p_0), .slot 2 (lpVP (b1 0) 0), .slot 3 (lpVP (b2 0) 0), .slot 4 (intVP .u64 r3.1), .res (lb (b1 0) 35 [one (intVP .i64 ((S_api_Sig.mk (0 : Int) [] [] []).f_Index)), one (slVP (dC 32) ((S_api_Sig.mk (0 : Int) [] [] []).f_Parts)), one (slVP (dC 32) ((S_api_Sig.mk (0 : Int) [] [] []).f_Others)), one (slVP (dC 32) ((S_api_Sig.mk (0 : Int) [] [] []).f_Path))]), .res (lb (b2 0) 35 [one (intVP .i64 ((S_api_Sig.mk (0 : Int) [] [] []).f_Index)), one (slVP (dC 32) ((S_api_Sig.mk (0 : Int) [] [] []).f_Parts)), one (slVP (dC 32) ((S_api_Sig.mk (0 : Int) [] [] []).f_Others)), one (slVP (dC 32) ((S_api_Sig.mk (0 : Int) [] [] []).f_Path))]), .res (RRdr_e p_0 (some x5))] a w) ?_ ?_
  · refine cnd h hF 4 [0, 1, 2, 3, 5, 6, 7] [0, 1, 2, 3, 5, 6, 7] (fun hb10 hF h => ?_) (fun hb10 hF h => ?_)
    · obtain ⟨r11, hr11, hF⟩ := bind_some hF
      refine reg mixed hn hG h [0, 1, 2, 3, 4, 5, 500] (ov [0] (op_move q0) <| oc [500] [6] Tryd.call175 (ref03_Reader_Fail_ok hr11) ⟨q0, qi, trivial⟩ .nil) fun _ a w h => ?_
      exact ⟨r11, hF, h.sub [0, 1, 2, 3, 4, 5, 6] (by rfl)⟩
    · refine wp_skip ?_
      exact ⟨r3.2, hF, h.sub [0, 1, 2, 3, 4, 5, 6] (by rfl)⟩
  · clear h hF
    rintro a w ⟨x5, hF, h⟩
    unfold ref03_Reader_Sig.j1 at hF
    show Code.wp Tryd.prog _ _ a w
    refine regS mixed hn hG h [0, 1, 2, 4, 500, 6] (ov [3] (op_move q0) <| ov [500] (op_convert_int Tryd.underlying27 Tryd.underlying3 q0) <| ov [2] (op_fieldAddr_lbm (p := (b2 0)) (n := 1) 0 0 Tryd.underlying35 rfl Tryd.sizeOf3 (by decide) q0 rfl) <| ou [500, 501] 5 (op_store_lb [] [one (intVP .i64 ((S_api_Sig.mk (0 : Int) [] [] []).f_Index))] [one (slVP (dC 32) ((S_api_Sig.mk (0 : Int) [] [] []).f_Parts)), one (slVP (dC 32) ((S_api_Sig.mk (0 : Int) [] [] []).f_Others)), one (slVP (dC 32) ((S_api_Sig.mk (0 : Int) [] [] []).f_Path))] [one (intVP .i64 (IntKind.wrap .i64 r3.1))] Tryd.sizeOf3 q0 q1 (cells_one (one_int _ _)) rfl rfl rfl) .nil) fun _ a w h => ?_
    obtain ⟨r6, hr6, hF⟩ := bind_some hF
    refine regS mixed hn hG h [0, 1, 2, 3, 500, 502] (ov [0] (op_move q0) <| oc [500] [5] Tryd.call176 (ref03_Reader_Digests_ok hr6) ⟨q0, qi, trivial⟩ <| ov [2] (op_fieldAddr_lbm (p := (b2 0)) (n := 1) 0 1 Tryd.underlying35 rfl Tryd.sizeOf26 (by decide) q0 rfl) <| ou [500, 502] 4 (op_store_lb [one (intVP .i64 (IntKind.wrap .i64 r3.1))] [one (slVP (dC 32) ((S_api_Sig.mk (0 : Int) [] [] []).f_Parts))] [one (slVP (dC 32) ((S_api_Sig.mk (0 : Int) [] [] []).f_Others)), one (slVP (dC 32) ((S_api_Sig.mk (0 : Int) [] [] []).f_Path))] [one (slVP (dC 32) r6.1)] Tryd.sizeOf26 q0 q1 (cells_one (one_sl _ _)) rfl rfl rfl) .nil) fun _ a w h => ?_
    obtain ⟨r7, hr7, hF⟩ := bind_some hF
    refine regS mixed hn hG h [0, 1, 2, 3, 500, 502] (ov [0] (op_move q0) <| oc [500] [5] Tryd.call176 (ref03_Reader_Digests_ok hr7) ⟨q0, qi, trivial⟩ <| ov [2] (op_fieldAddr_lbm (p := (b2 0)) (n := 1) 0 2 Tryd.underlying35 rfl Tryd.sizeOf26 (by decide) q0 rfl) <| ou [500, 502] 4 (op_store_lb [one (intVP .i64 (IntKind.wrap .i64 r3.1)), one (slVP (dC 32) r6.1)] [one (slVP (dC 32) ((S_api_Sig.mk (0 : Int) [] [] []).f_Others))] [one (slVP (dC 32) ((S_api_Sig.mk (0 : Int) [] [] []).f_Path))] [one (slVP (dC 32) r7.1)] Tryd.sizeOf26 q0 q1 (cells_one (one_sl _ _)) rfl rfl rfl) .nil) fun _ a w h => ?_
    obtain ⟨r8, hr8, hF⟩ := bind_some hF
    refine regS mixed hn hG h [0, 1, 2, 3, 500, 502] (ov [0] (op_move q0) <| oc [500] [5] Tryd.call176 (ref03_Reader_Digests_ok hr8) ⟨q0, qi, trivial⟩ <| ov [2] (op_fieldAddr_lbm (p := (b2 0)) (n := 1) 0 3 Tryd.underlying35 rfl Tryd.sizeOf26 (by decide) q0 rfl) <| ou [500, 502] 4 (op_store_lb [one (intVP .i64 (IntKind.wrap .i64 r3.1)), one (slVP (dC 32) r6.1), one (slVP (dC 32) r7.1)] [one (slVP (dC 32) ((S_api_Sig.mk (0 : Int) [] [] []).f_Path))] [] [one (slVP (dC 32) r8.1)] Tryd.sizeOf26 q0 q1 (cells_one (one_sl _ _)) rfl rfl rfl) .nil) fun _ a w h => ?_
    refine wp_seq ?_
    have hp := h.isp 5 rfl (fun Φ f w q => RRdr_lp Φ f w q)
    replace h := h.slotc 0 rfl (V' := lpVP p_0 0) (fun _ _ h => eq_lp h hp)
    replace h := h.sub [0, 1, 2, 3, 4, 5] (by rfl)
    change SatL c [.slot 0 (lpVP p_0 0), .slot 2 (lpVP (b1 0) 0), .slot 3 (lpVP (b2 0) 0), .res (lb (b1 0) 35 [one (intVP .i64 ((S_api_Sig.mk (0 : Int) [] [] []).f_Index)), one (slVP (dC 32) ((S_api_Sig.mk (0 : Int) [] [] []).f_Parts)), one (slVP (dC 32) ((S_api_Sig.mk (0 : Int) [] [] []).f_Others)), one (slVP (dC 32) ((S_api_Sig.mk (0 : Int) [] [] []).f_Path))]), .res (lb (b2 0) 35 [one (intVP .i64 (IntKind.wrap .i64 r3.1)), one (slVP (dC 32) r6.1), one (slVP (dC 32) r7.1), one (slVP (dC 32) r8.1)]), .res (lb p_0 205 [one (strVP r8.2.f_S), one (intVP .i64 r8.2.f_Bad)])] a w at h
    refine wp_seq ?_
    refine reg mixed hn hG h [1, 2, 500, 3, 4, 5] (ov [0] (op_move q0) <| ov [500] (op_nilCheck q0 (ptr_lp _ _)) <| ov [500] (op_fieldAddr_lbm (p := p_0) (n := 1) 0 1 Tryd.underlying205 rfl Tryd.sizeOf3 (by decide) q0 rfl) <| ov [500, 5] (op_load_lb1 [one (strVP r8.2.f_S)] [] 1 Tryd.isAgg3 q0 rfl rfl) <| ov [500] (op_bin bin_neq q0 qi) .nil) fun _ a w h => ?_
    replace h := h.conv 5 rfl (R' := RRdr_e p_0 (some r8.2)) (RRdr_packo (o := (some r8.2)))
    replace h := h.sub [0, 1, 2, 3, 4, 5] (by rfl)
    change SatL c [.slot 2 (lpVP (b1 0) 0), .slot 3 (lpVP (b2 0) 0), .slot 27 (boolVP (!decide (r8.2.f_Bad = (0 : Int)))), .res (lb (b1 0) 35 [one (intVP .i64 ((S_api_Sig.mk (0 : Int) [] [] []).f_Index)), one (slVP (dC 32) ((S_api_Sig.mk (0 : Int) [] [] []).f_Parts)), one (slVP (dC 32) ((S_api_Sig.mk (0 : Int) [] [] []).f_Others)), one (slVP (dC 32) ((S_api_Sig.mk (0 : Int) [] [] []).f_Path))]), .res (lb (b2 0) 35 [one (intVP .i64 (IntKind.wrap .i64 r3.1)), one (slVP (dC 32) r6.1), one (slVP (dC 32) r7.1), one (slVP (dC 32) r8.1)]), .res (RRdr_e p_0 (some r8.2))] a w at h
    show Code.wp Tryd.prog _ _ a w
    refine cnd h hF 2 [0, 3, 5] [0, 1, 3, 4, 5] (fun hb9 hF h => ?_) (fun hb9 hF h => ?_)
    · refine regS mixed hn hG h [0, 500, 2] (ov [] (op_build [] rfl bu35 z35 rfl) <| ou [0, 500] 1 (op_store_w Tryd.sizeOf35 q0 q1 (cells_agg _)) .nil) fun _ a w h => ?_
      refine wp_ret ?_
      obtain rfl := Option.some.inj hF
      exact ⟨.inl rfl, ret1 h Tryd.results120 (r_cell 0 1 rfl rfl Tryd.isAgg35 Tryd.sizeOf35 rfl) [2] [(RRdr_e p_0 (some r8.2))] rfl rfl rfl⟩
    · refine wp_skip ?_
      show Code.wp Tryd.prog _ _ a w
      refine regS mixed hn hG h [0, 500, 4] (ov [1, 3] (op_load_w 1 Tryd.isAgg35 Tryd.sizeOf35 q0) <| ou [0, 500] 2 (op_store_w Tryd.sizeOf35 q0 q1 (cells_agg _)) .nil) fun _ a w h => ?_
      refine wp_ret ?_
      obtain rfl := Option.some.inj hF
      exact ⟨.inl rfl, ret1 h Tryd.results120 (r_cell 0 1 rfl rfl Tryd.isAgg35 Tryd.sizeOf35 rfl) [2] [(RRdr_e p_0 (some r8.2))] rfl rfl rfl⟩

def ref03_Reader_End.j1 (L_0 : O_RRdr) (x1 : Bool) : Option (Int × O_RRdr) := (if x1 = true then some (4, L_0) else some (L_0.f_Bad, L_0))
def ref03_Reader_End (L_0 : O_RRdr) : Option (Int × O_RRdr) := (if (decide (L_0.f_Bad = (0 : Int))) = true then ref03_Reader_End.j1 L_0 (decide ((0 : Int) < (L_0.f_S.length : Int))) else ref03_Reader_End.j1 L_0 false)
theorem ref03_Reader_End_ok {p_0 : Value} {L_0 : O_RRdr} {r : Int × O_RRdr} (hF : ref03_Reader_End L_0 = some r) : CallOk Tryd.prog KG 121 [(eqVP p_0)] [(RRdr_e p_0 (some L_0))] (fun _ => [RRdr_e p_0 (some r.2)]) (intVP .i64 r.1) := by
  refine CallOk.intro 20 Tryd.func121 rfl Tryd.ntmps121 (Nat.le_of_ble_eq_true rfl) ?_
  intro c a w hG hn h
  unfold ref03_Reader_End at hF
  change SatL c [.slot 0 (eqVP p_0), .res (RRdr_e p_0 (some L_0))] a w at h
  refine regS mixed hn hG h [0, 1] (ov [] (op_assign qi) .nil) fun _ a w h => ?_
  refine wp_seq ?_
  have hp := h.isp 1 rfl (fun Φ f w q => RRdr_lp Φ f w q)
  replace h := h.slotc 0 rfl (V' := lpVP p_0 0) (fun _ _ h => eq_lp h hp)
  replace h := h.sub [0, 1] (by rfl)
  change SatL c [.slot 0 (lpVP p_0 0), .res (lb p_0 205 [one (strVP L_0.f_S), one (intVP .i64 L_0.f_Bad)])] a w at h
  refine wp_seq ?_
  refine wp_cut (fun a w => ∃ (x1 : Bool), ref03_Reader_End.j1 L_0 x1 = some r ∧ SatL c [.slot 0 (eqVP p_0), .slot 15 (boolVP x1), .res (RRdr_e p_0 (some L_0))] a w) ?_ ?_
  · rcases Bool.eq_false_or_eq_true (decide (L_0.f_Bad = (0 : Int))) with hb3 | hb3
    · replace hF := tt_of hb3 hF
      refine reg mixed hn hG h [0, 500, 1] (ov [0] (op_move q0) <| ov [500] (op_nilCheck q0 (ptr_lp _ _)) <| ov [500] (op_fieldAddr_lbm (p := p_0) (n := 1) 0 1 Tryd.underlying205 rfl Tryd.sizeOf3 (by decide) q0 rfl) <| ov [500, 1] (op_load_lb1 [one (strVP L_0.f_S)] [] 1 Tryd.isAgg3 q0 rfl rfl) <| ov [500] (op_bin bin_eql q0 qi) <| ov [500] (op_move q0) <| oe [500, 0] [] (GOk.on_eq hb3 rfl rfl rfl (op_move q0)) <| oe [501, 500] [] (GOk.on_eq hb3 rfl rfl rfl (op_nilCheck q0 (ptr_lp _ _))) <| oe [502, 500] [] (GOk.on_eq hb3 rfl rfl rfl (op_fieldAddr_lbm (p := p_0) (n := 1) 0 0 Tryd.underlying205 rfl Tryd.sizeOf9 (by decide) q0 rfl)) <| oe [503, 500, 1] [] (GOk.on_eq hb3 rfl rfl rfl (op_load_lb1 [] [one (intVP .i64 L_0.f_Bad)] 1 Tryd.isAgg9 q0 rfl rfl)) <| oe [504, 500] [] (GOk.on_eq hb3 rfl rfl rfl (op_len_str Tryd.underlying9 q0)) <| oe [505, 500] [] (GOk.on_eq hb3 rfl rfl rfl (op_bin bin_gtr q0 qi)) <| ov [506, 500] (op_pick_t hb3 q0 q1) .nil) fun _ a w h => ?_
      replace h := h.conv 2 rfl (R' := RRdr_e p_0 (some L_0)) (RRdr_packo (o := (some L_0)))
      replace h := h.slotc 0 rfl (fun _ _ h => lp_eqv h)
      replace h := h.sub [0, 1, 2] (by rfl)
      change SatL c [.slot 0 (eqVP p_0), .slot 15 (boolVP (decide ((0 : Int) < (L_0.f_S.length : Int)))), .res (RRdr_e p_0 (some L_0))] a w at h
      exact ⟨decide ((0 : Int) < (L_0.f_S.length : Int)), hF, h.sub [0, 1, 2] (by rfl)⟩
    · replace hF := ff_of hb3 hF
      refine reg mixed hn hG h [0, 500, 1] (ov [0] (op_move q0) <| ov [500] (op_nilCheck q0 (ptr_lp _ _)) <| ov [500] (op_fieldAddr_lbm (p := p_0) (n := 1) 0 1 Tryd.underlying205 rfl Tryd.sizeOf3 (by decide) q0 rfl) <| ov [500, 1] (op_load_lb1 [one (strVP L_0.f_S)] [] 1 Tryd.isAgg3 q0 rfl rfl) <| ov [500] (op_bin bin_eql q0 qi) <| ov [500] (op_move q0) <| oe [500] [] (GOk.off_v (want := true) hb3 rfl rfl rfl rfl) <| oe [501] [] (GOk.off_v (want := true) hb3 rfl rfl rfl rfl) <| oe [502] [] (GOk.off_v (want := true) hb3 rfl rfl rfl rfl) <| oe [503] [] (GOk.off_v (want := true) hb3 rfl rfl rfl rfl) <| oe [504] [] (GOk.off_v (want := true) hb3 rfl rfl rfl rfl) <| oe [505] [] (GOk.off_v (want := true) hb3 rfl rfl rfl rfl) <| ov [506] (op_pick_f hb3 q0 qb) .nil) fun _ a w h => ?_
      replace h := h.conv 2 rfl (R' := RRdr_e p_0 (some L_0)) (RRdr_packo (o := (some L_0)))
      replace h := h.slotc 0 rfl (fun _ _ h => lp_eqv h)
      replace h := h.sub [0, 1, 2] (by rfl)
      change SatL c [.slot 0 (eqVP p_0), .slot 15 (boolVP false), .res (RRdr_e p_0 (some L_0))] a w at h
      exact ⟨false, hF, h.sub [0, 1, 2] (by rfl)⟩
  · clear h hF
    rintro a w ⟨x1, hF, h⟩
    unfold ref03_Reader_End.j1 at hF
    show Code.wp Tryd.prog _ _ a w
    refine cnd h hF 1 [2] [0, 2] (fun hb2 hF h => ?_) (fun hb2 hF h => ?_)
    · refine regS mixed hn hG h [500, 0] (ov [] (op_assign qi) .nil) fun _ a w h => ?_
      refine wp_ret ?_
      obtain rfl := Option.some.inj hF
      exact ⟨.inl rfl, ret1 h Tryd.results121 (r_tmp 0 rfl) [1] [(RRdr_e p_0 (some L_0))] rfl rfl rfl⟩
    · refine wp_skip ?_
      show Code.wp Tryd.prog _ _ a w
      have hp := h.isp 1 rfl (fun Φ f w q => RRdr_lp Φ f w q)
      replace h := h.slotc 0 rfl (V' := lpVP p_0 0) (fun _ _ h => eq_lp h hp)
      replace h := h.sub [0, 1] (by rfl)
      change SatL c [.slot 0 (lpVP p_0 0), .res (lb p_0 205 [one (strVP L_0.f_S), one (intVP .i64 L_0.f_Bad)])] a w at h
      refine wp_seq ?_
      refine reg mixed hn hG h [500, 1] (ov [0] (op_move q0) <| ov [500] (op_nilCheck q0 (ptr_lp _ _)) <| ov [500] (op_fieldAddr_lbm (p := p_0) (n := 1) 0 1 Tryd.underlying205 rfl Tryd.sizeOf3 (by decide) q0 rfl) <| ov [500, 1] (op_load_lb1 [one (strVP L_0.f_S)] [] 1 Tryd.isAgg3 q0 rfl rfl) <| ov [500] (op_assign q0) .nil) fun _ a w h => ?_
      replace h := h.conv 1 rfl (R' := RRdr_e p_0 (some L_0)) (RRdr_packo (o := (some L_0)))
      replace h := h.sub [0, 1] (by rfl)
      change SatL c [.slot 2 (intVP .i64 L_0.f_Bad), .res (RRdr_e p_0 (some L_0))] a w at h
      show Code.wp Tryd.prog _ _ a w
      refine wp_ret ?_
      obtain rfl := Option.some.inj hF
      exact ⟨.inl rfl, ret1 h Tryd.results121 (r_tmp 0 rfl) [1] [(RRdr_e p_0 (some L_0))] rfl rfl rfl⟩
end Go.Proofs.YtnjkofmmpfehcaaDoorR
