/- The functions' Lean twins and contracts, printed by this session's own program: part 2. -/
import Derived.Test.YtnjkofmmpfehcaaDoorRG1
namespace Go.Proofs.YtnjkofmmpfehcaaDoorR
open Go Go.RowKit Go.Proofs
set_option maxRecDepth 100000
set_option maxHeartbeats 4000000
set_option linter.unusedVariables false
def slices_Clone_api_Digest (a_0 : List (List UInt8)) : Option (List (List UInt8)) := (if a_0.length * 32 ≤ 140737488355328 then some a_0 else none)
theorem slices_Clone_api_Digest_ok {a_0 r : List (List UInt8)} (hF : slices_Clone_api_Digest a_0 = some r) : CallOk Tryd.prog KG 71 [(slVP (dC 32) a_0)] [] (fun _ => []) (slVP (dC 32) r) := by
  unfold slices_Clone_api_Digest at hF
  obtain ⟨hv1, hF⟩ := ite_some hF
  obtain rfl := Option.some.inj hF
  refine CallOk.intro 8 Tryd.func71 rfl Tryd.ntmps71 (Nat.le_of_ble_eq_true rfl) ?_
  intro c a w hG hn h
  change SatL c [.slot 0 (slVP (dC 32) a_0)] a w at h
  refine wp_seq ?_
  refine region_do (n := 8) [.slot 2 100000 100000 (fun _ _ => (eqVP (.slice none 0 0)))] [0] [⟨[], [], [1], [], some 2⟩] [0] mixed hn hG h (by kernel_rfl) ?_ ?_
  · exact ⟨⟨rfl, fun β => (GOk.plain (op_assign (opc (ec _))) rfl)⟩, trivial⟩
  clear h
  intro β a w h
  change SatL c [.slot 0 (slVP (dC 32) a_0)] a w at h
  clear β
  show Code.wp Tryd.prog _ _ a w
  refine wp_seq ?_
  refine wp_seq ?_
  refine region_do (n := 8) [.slot 3 100000 100000 (fun _ _ => (slVP (dC 32) a_0)), .slot 4 100000 100000 (fun _ _ => (nilqVP a_0))] [0, 1] [⟨[0], [], [1], [], some 3⟩, ⟨[1], [], [2], [0], some 4⟩] [0, 2] mixed hn hG h (by kernel_rfl) ?_ ?_
  · exact ⟨⟨rfl, fun β => (GOk.plain (op_move (opt 0 rfl)) rfl)⟩, ⟨rfl, fun β => (GOk.plain (op_bin (bin_slnil Tryd.underlying26) (opt 0 rfl) (opc (ec _))) rfl)⟩, trivial⟩
  clear h
  intro β a w h
  change SatL c [.slot 0 (slVP (dC 32) a_0), .slot 4 (nilqVP a_0)] a w at h
  clear β
  show Code.wp Tryd.prog _ _ a w
  obtain ⟨b0, hb0, h⟩ := h.nilq 1 rfl
  change SatL c [.slot 0 (slVP (dC 32) a_0), .slot 4 (boolVP b0)] a w at h
  refine cond_L h 1 rfl (fun hb => ?_) (fun hb => ?_)
  · obtain rfl := hb0 hb
    replace h := h.sub [] (by rfl)
    change SatL c [] a w at h
    refine wp_seq ?_
    refine region_do (n := 8) [.slot 2 100000 100000 (fun _ _ => (eqVP (.slice none 0 0)))] [0] [⟨[], [], [0], [], some 2⟩] [0] mixed hn hG h (by kernel_rfl) ?_ ?_
    · exact ⟨⟨rfl, fun β => (GOk.plain (op_assign (opc (ec _))) rfl)⟩, trivial⟩
    clear h
    intro β a w h
    change SatL c [.slot 2 (eqVP (.slice none 0 0))] a w at h
    clear β
    show Code.wp Tryd.prog _ _ a w
    refine wp_ret ?_
    exact ⟨.inl rfl, ret1 h Tryd.results71 (r_nil 0 rfl) [] [] rfl rfl rfl⟩
  · replace h := h.sub [0] (by rfl)
    change SatL c [.slot 0 (slVP (dC 32) a_0)] a w at h
    refine wp_skip ?_
    show Code.wp Tryd.prog _ _ a w
    refine wp_seq ?_
    refine region_do (n := 8) [.slot 5 100000 100000 (fun _ _ => empVP), .slot 6 100000 100000 (fun _ _ => (slVP (dC 32) a_0)), .slot 7 100000 100000 (fun _ _ => (slVP (dC 32) a_0)), .slot 2 100000 100000 (fun _ _ => (slVP (dC 32) a_0))] [0, 1, 2, 3] [⟨[], [], [1], [], some 5⟩, ⟨[0], [], [2], [0], some 6⟩, ⟨[1, 2], [], [3], [0, 1], some 7⟩, ⟨[3], [], [4], [0, 1, 2], some 2⟩] [4] mixed hn hG h (by kernel_rfl) ?_ ?_
    · exact ⟨⟨rfl, fun β => (GOk.plain (op_lit0 Tryd.underlying26 Tryd.sizeOf25 Tryd.zeroValue25) rfl)⟩, ⟨rfl, fun β => (GOk.plain (op_move (opt 0 rfl)) rfl)⟩, ⟨rfl, fun β => (GOk.plain (op_append_emp (i := Tryd.t25) Tryd.underlying26 Tryd.type25 rfl (lens_dC 32) (by decide) rfl (opt 0 rfl) (opt 1 rfl) hv1) rfl)⟩, ⟨rfl, fun β => (GOk.plain (op_assign (opt 0 rfl)) rfl)⟩, trivial⟩
    clear h
    intro β a w h
    change SatL c [.slot 2 (slVP (dC 32) a_0)] a w at h
    clear β
    show Code.wp Tryd.prog _ _ a w
    refine wp_ret ?_
    exact ⟨.inl rfl, ret1 h Tryd.results71 (r_tmp 0 rfl) [] [] rfl rfl rfl⟩
theorem slices_Clone_api_Digest_own {a_0 r : List (List UInt8)} (hF : slices_Clone_api_Digest a_0 = some r) : CallOk Tryd.prog KG 71 [(slVP (dC 32) a_0)] [] (fun v => [own v 25 32 (dC 32) r]) anyVP := by
  unfold slices_Clone_api_Digest at hF
  obtain ⟨hv1, hF⟩ := ite_some hF
  obtain rfl := Option.some.inj hF
  refine CallOk.intro 8 Tryd.func71 rfl Tryd.ntmps71 (Nat.le_of_ble_eq_true rfl) ?_
  intro c a w hG hn h
  change SatL c [.slot 0 (slVP (dC 32) a_0)] a w at h
  have hm : a_0.length ≤ mxl := h.slotp 0 rfl (fun _ _ q => q.1)
  refine wp_seq ?_
  refine region_do (n := 8) [.slot 2 100000 100000 (fun _ _ => (eqVP (.slice none 0 0)))] [0] [⟨[], [], [1], [], some 2⟩] [0] mixed hn hG h (by kernel_rfl) ?_ ?_
  · exact ⟨⟨rfl, fun β => (GOk.plain (op_assign (opc (ec _))) rfl)⟩, trivial⟩
  clear h
  intro β a w h
  change SatL c [.slot 0 (slVP (dC 32) a_0)] a w at h
  clear β
  show Code.wp Tryd.prog _ _ a w
  refine wp_seq ?_
  refine wp_seq ?_
  refine region_do (n := 8) [.slot 3 100000 100000 (fun _ _ => (slVP (dC 32) a_0)), .slot 4 100000 100000 (fun _ _ => (nilqVP a_0))] [0, 1] [⟨[0], [], [1], [], some 3⟩, ⟨[1], [], [2], [0], some 4⟩] [0, 2] mixed hn hG h (by kernel_rfl) ?_ ?_
  · exact ⟨⟨rfl, fun β => (GOk.plain (op_move (opt 0 rfl)) rfl)⟩, ⟨rfl, fun β => (GOk.plain (op_bin (bin_slnil Tryd.underlying26) (opt 0 rfl) (opc (ec _))) rfl)⟩, trivial⟩
  clear h
  intro β a w h
  change SatL c [.slot 0 (slVP (dC 32) a_0), .slot 4 (nilqVP a_0)] a w at h
  clear β
  show Code.wp Tryd.prog _ _ a w
  obtain ⟨b0, hb0, h⟩ := h.nilq 1 rfl
  change SatL c [.slot 0 (slVP (dC 32) a_0), .slot 4 (boolVP b0)] a w at h
  refine cond_L h 1 rfl (fun hb => ?_) (fun hb => ?_)
  · obtain rfl := hb0 hb
    replace h := h.sub [] (by rfl)
    change SatL c [] a w at h
    refine wp_seq ?_
    refine region_do (n := 8) [.slot 2 100000 100000 (fun _ _ => (eqVP (.slice none 0 0)))] [0] [⟨[], [], [0], [], some 2⟩] [0] mixed hn hG h (by kernel_rfl) ?_ ?_
    · exact ⟨⟨rfl, fun β => (GOk.plain (op_assign (opc (ec _))) rfl)⟩, trivial⟩
    clear h
    intro β a w h
    change SatL c [.slot 2 (eqVP (.slice none 0 0))] a w at h
    clear β
    replace h := h.nilown 25 32 (dC 32)
    show Code.wp Tryd.prog _ _ a w
    refine wp_ret ?_
    exact ⟨.inl rfl, ret1v (p := .slice none 0 0) h Tryd.results71 (r_tmp 0 rfl) [1] _ rfl rfl rfl⟩
  · replace h := h.sub [0] (by rfl)
    change SatL c [.slot 0 (slVP (dC 32) a_0)] a w at h
    refine wp_skip ?_
    show Code.wp Tryd.prog _ _ a w
    refine wp_seq ?_
    refine region_do (n := 8) [.slot 5 0 100000 (fun v _ => (eqVP v)), .res 0 100000 (fun v _ => (own v 25 32 (dC 32) ([] : List (List UInt8)))), .slot 6 100000 100000 (fun _ _ => (slVP (dC 32) a_0)), .slot 7 2 100000 (fun v _ => (eqVP v)), .res 2 100000 (fun v _ => (own v 25 32 (dC 32) (([] : List (List UInt8)) ++ a_0))), .slot 2 2 100000 (fun v _ => (eqVP v))] [0, 0, 1, 2, 2, 3] [⟨[], [], [1, 2], [], some 5⟩, ⟨[0], [], [3], [0], some 6⟩, ⟨[1, 3], [2], [4, 5], [0, 1], some 7⟩, ⟨[4], [], [6], [0, 1, 2], some 2⟩] [6, 5] mixed hn hG h (by kernel_rfl) ?_ ?_
    · exact ⟨⟨rfl, fun β => (GOk.plain (op_lit0O Tryd.underlying26 Tryd.sizeOf25 Tryd.zeroValue25) rfl)⟩, ⟨rfl, fun β => (GOk.plain (op_move (opt 0 rfl)) rfl)⟩, ⟨rfl, fun β => (GOk.plain (op_ownAppend (i := Tryd.t25) Tryd.underlying26 Tryd.type25 rfl (lens_dC 32) (by decide) rfl (opt 0 rfl) (opt 1 rfl) ⟨by simpa using hm, by rw [List.length_nil, Nat.zero_add]; exact hv1⟩) rfl)⟩, ⟨rfl, fun β => (GOk.plain (op_assign (V := eqVP (β 2)) (opt 0 rfl)) rfl)⟩, trivial⟩
    clear h
    intro β a w h
    change SatL c [.slot 2 (eqVP (β 2)), .res (own (β 2) 25 32 (dC 32) a_0)] a w at h
    generalize β 2 = p at h
    clear β
    show Code.wp Tryd.prog _ _ a w
    refine wp_ret ?_
    exact ⟨.inl rfl, ret1v (p := p) h Tryd.results71 (r_tmp 0 rfl) [1] _ rfl rfl rfl⟩

def replica_New (a_0 : Int) (a_1 : Int) (a_2 : List UInt8) (a_3 : List (List UInt8)) (a_4 : Int) (a_5 : List UInt8) : Option S_api_Replica := ((slices_Clone_api_Digest a_3).bind fun r4 => some (S_api_Replica.mk a_0 a_1 a_2 r4 a_4 a_5 [] [] false false))
theorem replica_New_ok {a_0 : Int} {a_1 : Int} {a_2 : List UInt8} {a_3 : List (List UInt8)} {a_4 : Int} {a_5 : List UInt8} {r : S_api_Replica} (hF : replica_New a_0 a_1 a_2 a_3 a_4 a_5 = some r) : CallOk Tryd.prog KG 24 [(intVP .u32 a_0), (intVP .u32 a_1), (aggVP [bytesCk 32 a_2]), (slVP (dC 32) a_3), (intVP .u64 a_4), (aggVP [bytesCk 32 a_5])] [] (fun _ => []) (aggVP [one (intVP .u32 r.f_Chain), one (intVP .u32 r.f_Here), bytesCk 32 r.f_Updater, one (slVP (dC 32) r.f_Watchers), one (intVP .u64 r.f_Window), bytesCk 32 r.f_Committed, one (slVP S_api_Timed.ck r.f_Roots), one (slVP S_api_State.ck r.f_States), one (boolVP r.f_Failed), one (boolVP r.f_Cut)]) := by
  refine CallOk.intro 21 Tryd.func24 rfl Tryd.ntmps24 (Nat.le_of_ble_eq_true rfl) ?_
  intro c a w hG hn h
  unfold replica_New at hF
  change SatL c [.slot 0 (intVP .u32 a_0), .slot 1 (intVP .u32 a_1), .slot 2 (aggVP [bytesCk 32 a_2]), .slot 3 (slVP (dC 32) a_3), .slot 4 (intVP .u64 a_4), .slot 5 (aggVP [bytesCk 32 a_5])] a w at h
  refine regS mixed hn hG h [0, 1, 3, 4, 505, 503, 501, 504, 502, 500] (ob [2] (op_box q0 (cells_agg _)) <| ob [5] (op_box q0 (cells_agg _)) <| ob [] (op_alloc Tryd.zeroValue31 z31) .nil) fun b1 a w h => ?_
  obtain ⟨r4, hr4, hF⟩ := bind_some hF
  refine regS mixed hn hG h [6, 500] (ov [0] (op_move q0) <| ov [1] (op_move q0) <| ov [4, 7] (op_load_w 1 Tryd.isAgg25 Tryd.sizeOf25 q0) <| ov [2] (op_move q0) <| oc [500] [] Tryd.call71 (slices_Clone_api_Digest_ok hr4) ⟨q0, trivial⟩ <| ov [3] (op_move q0) <| ov [5, 8] (op_load_w 1 Tryd.isAgg25 Tryd.sizeOf25 q0) <| ov [506, 505, 504, 502, 501, 500] (op_build [(0, .tmp 13), (1, .tmp 14), (2, .tmp 15), (3, .tmp 17), (4, .tmp 18), (5, .tmp 19)] rfl bu31 z31 ⟨[], [one (intVP .u32 (0 : Int))], [one (intVP .u32 (0 : Int)), bytesCk 32 (List.replicate 32 0), one (slVP (dC 32) []), one (intVP .u64 (0 : Int)), bytesCk 32 (List.replicate 32 0), one (slVP S_api_Timed.ck []), one (slVP S_api_State.ck []), one (boolVP false), one (boolVP false)], [one (intVP .u32 a_0)], _, rfl, rfl, rfl, q0, (cells_one (one_int _ _)), ⟨[one (intVP .u32 a_0)], [one (intVP .u32 (0 : Int))], [bytesCk 32 (List.replicate 32 0), one (slVP (dC 32) []), one (intVP .u64 (0 : Int)), bytesCk 32 (List.replicate 32 0), one (slVP S_api_Timed.ck []), one (slVP S_api_State.ck []), one (boolVP false), one (boolVP false)], [one (intVP .u32 a_1)], _, rfl, rfl, rfl, q1, (cells_one (one_int _ _)), ⟨[one (intVP .u32 a_0), one (intVP .u32 a_1)], [bytesCk 32 (List.replicate 32 0)], [one (slVP (dC 32) []), one (intVP .u64 (0 : Int)), bytesCk 32 (List.replicate 32 0), one (slVP S_api_Timed.ck []), one (slVP S_api_State.ck []), one (boolVP false), one (boolVP false)], [bytesCk 32 a_2], _, rfl, rfl, rfl, q2, (cells_agg _), ⟨[one (intVP .u32 a_0), one (intVP .u32 a_1), bytesCk 32 a_2], [one (slVP (dC 32) [])], [one (intVP .u64 (0 : Int)), bytesCk 32 (List.replicate 32 0), one (slVP S_api_Timed.ck []), one (slVP S_api_State.ck []), one (boolVP false), one (boolVP false)], [one (slVP (dC 32) r4)], _, rfl, rfl, rfl, q3, (cells_one (one_sl _ _)), ⟨[one (intVP .u32 a_0), one (intVP .u32 a_1), bytesCk 32 a_2, one (slVP (dC 32) r4)], [one (intVP .u64 (0 : Int))], [bytesCk 32 (List.replicate 32 0), one (slVP S_api_Timed.ck []), one (slVP S_api_State.ck []), one (boolVP false), one (boolVP false)], [one (intVP .u64 a_4)], _, rfl, rfl, rfl, (opt 4 rfl), (cells_one (one_int _ _)), ⟨[one (intVP .u32 a_0), one (intVP .u32 a_1), bytesCk 32 a_2, one (slVP (dC 32) r4), one (intVP .u64 a_4)], [bytesCk 32 (List.replicate 32 0)], [one (slVP S_api_Timed.ck []), one (slVP S_api_State.ck []), one (boolVP false), one (boolVP false)], [bytesCk 32 a_5], _, rfl, rfl, rfl, (opt 5 rfl), (cells_agg _), rfl⟩⟩⟩⟩⟩⟩) <| ou [6, 500] 9 (op_store_w Tryd.sizeOf31 q0 q1 (cells_agg _)) .nil) fun _ a w h => ?_
  refine wp_ret ?_
  obtain rfl := Option.some.inj hF
  exact ⟨.inl rfl, ret1 h Tryd.results24 (r_cell 0 1 rfl rfl Tryd.isAgg31 Tryd.sizeOf31 rfl) [] [] rfl rfl rfl⟩
theorem replica_New_nilr {a_0 : Int} {a_1 : Int} {a_2 : List UInt8} {a_3 : List (List UInt8)} {a_4 : Int} {a_5 : List UInt8} {r : S_api_Replica} (hF : replica_New a_0 a_1 a_2 a_3 a_4 a_5 = some r) : CallOk Tryd.prog KG 24 [(intVP .u32 a_0), (intVP .u32 a_1), (aggVP [bytesCk 32 a_2]), (slVP (dC 32) a_3), (intVP .u64 a_4), (aggVP [bytesCk 32 a_5])] [] (fun _ => []) (aggVP [one (intVP .u32 r.f_Chain), one (intVP .u32 r.f_Here), bytesCk 32 r.f_Updater, one (slVP (dC 32) r.f_Watchers), one (intVP .u64 r.f_Window), bytesCk 32 r.f_Committed, one (eqVP (.slice none 0 0)), one (slVP S_api_State.ck r.f_States), one (boolVP r.f_Failed), one (boolVP r.f_Cut)]) := by
  refine CallOk.intro 21 Tryd.func24 rfl Tryd.ntmps24 (Nat.le_of_ble_eq_true rfl) ?_
  intro c a w hG hn h
  unfold replica_New at hF
  change SatL c [.slot 0 (intVP .u32 a_0), .slot 1 (intVP .u32 a_1), .slot 2 (aggVP [bytesCk 32 a_2]), .slot 3 (slVP (dC 32) a_3), .slot 4 (intVP .u64 a_4), .slot 5 (aggVP [bytesCk 32 a_5])] a w at h
  refine regS mixed hn hG h [0, 1, 3, 4, 505, 503, 501, 504, 502, 500] (ob [2] (op_box q0 (cells_agg _)) <| ob [5] (op_box q0 (cells_agg _)) <| ob [] (op_alloc Tryd.zeroValue31 zo31) .nil) fun b1 a w h => ?_
  obtain ⟨r4, hr4, hF⟩ := bind_some hF
  refine regS mixed hn hG h [6, 500] (ov [0] (op_move q0) <| ov [1] (op_move q0) <| ov [4, 7] (op_load_w 1 Tryd.isAgg25 Tryd.sizeOf25 q0) <| ov [2] (op_move q0) <| oc [500] [] Tryd.call71 (slices_Clone_api_Digest_ok hr4) ⟨q0, trivial⟩ <| ov [3] (op_move q0) <| ov [5, 8] (op_load_w 1 Tryd.isAgg25 Tryd.sizeOf25 q0) <| ov [506, 505, 504, 502, 501, 500] (op_build [(0, .tmp 13), (1, .tmp 14), (2, .tmp 15), (3, .tmp 17), (4, .tmp 18), (5, .tmp 19)] rfl bu31 zo31 ⟨[], [one (intVP .u32 (0 : Int))], [one (intVP .u32 (0 : Int)), bytesCk 32 (List.replicate 32 0), one (slVP (dC 32) []), one (intVP .u64 (0 : Int)), bytesCk 32 (List.replicate 32 0), one (eqVP (.slice none 0 0)), one (slVP S_api_State.ck []), one (boolVP false), one (boolVP false)], [one (intVP .u32 a_0)], _, rfl, rfl, rfl, q0, (cells_one (one_int _ _)), ⟨[one (intVP .u32 a_0)], [one (intVP .u32 (0 : Int))], [bytesCk 32 (List.replicate 32 0), one (slVP (dC 32) []), one (intVP .u64 (0 : Int)), bytesCk 32 (List.replicate 32 0), one (eqVP (.slice none 0 0)), one (slVP S_api_State.ck []), one (boolVP false), one (boolVP false)], [one (intVP .u32 a_1)], _, rfl, rfl, rfl, q1, (cells_one (one_int _ _)), ⟨[one (intVP .u32 a_0), one (intVP .u32 a_1)], [bytesCk 32 (List.replicate 32 0)], [one (slVP (dC 32) []), one (intVP .u64 (0 : Int)), bytesCk 32 (List.replicate 32 0), one (eqVP (.slice none 0 0)), one (slVP S_api_State.ck []), one (boolVP false), one (boolVP false)], [bytesCk 32 a_2], _, rfl, rfl, rfl, q2, (cells_agg _), ⟨[one (intVP .u32 a_0), one (intVP .u32 a_1), bytesCk 32 a_2], [one (slVP (dC 32) [])], [one (intVP .u64 (0 : Int)), bytesCk 32 (List.replicate 32 0), one (eqVP (.slice none 0 0)), one (slVP S_api_State.ck []), one (boolVP false), one (boolVP false)], [one (slVP (dC 32) r4)], _, rfl, rfl, rfl, q3, (cells_one (one_sl _ _)), ⟨[one (intVP .u32 a_0), one (intVP .u32 a_1), bytesCk 32 a_2, one (slVP (dC 32) r4)], [one (intVP .u64 (0 : Int))], [bytesCk 32 (List.replicate 32 0), one (eqVP (.slice none 0 0)), one (slVP S_api_State.ck []), one (boolVP false), one (boolVP false)], [one (intVP .u64 a_4)], _, rfl, rfl, rfl, (opt 4 rfl), (cells_one (one_int _ _)), ⟨[one (intVP .u32 a_0), one (intVP .u32 a_1), bytesCk 32 a_2, one (slVP (dC 32) r4), one (intVP .u64 a_4)], [bytesCk 32 (List.replicate 32 0)], [one (eqVP (.slice none 0 0)), one (slVP S_api_State.ck []), one (boolVP false), one (boolVP false)], [bytesCk 32 a_5], _, rfl, rfl, rfl, (opt 5 rfl), (cells_agg _), rfl⟩⟩⟩⟩⟩⟩) <| ou [6, 500] 9 (op_store_w Tryd.sizeOf31 q0 q1 (cells_agg _)) .nil) fun _ a w h => ?_
  refine wp_ret ?_
  obtain rfl := Option.some.inj hF
  exact ⟨.inl rfl, ret1 h Tryd.results24 (r_cell 0 1 rfl rfl Tryd.isAgg31 Tryd.sizeOf31 rfl) [] [] rfl rfl rfl⟩

def replica_open (a_0 : S_api_Replica) : Option Int := (if a_0.f_Failed = true then some 30 else (if a_0.f_Cut = true then some 34 else some 0))
theorem replica_open_ok {a_0 : S_api_Replica} {r : Int} (hF : replica_open a_0 = some r) : CallOk Tryd.prog KG 81 [(aggVP [one (intVP .u32 a_0.f_Chain), one (intVP .u32 a_0.f_Here), bytesCk 32 a_0.f_Updater, one (slVP (dC 32) a_0.f_Watchers), one (intVP .u64 a_0.f_Window), bytesCk 32 a_0.f_Committed, one (slVP S_api_Timed.ck a_0.f_Roots), one (slVP S_api_State.ck a_0.f_States), one (boolVP a_0.f_Failed), one (boolVP a_0.f_Cut)])] [] (fun _ => []) (intVP .i64 r) := by
  refine CallOk.intro 9 Tryd.func81 rfl Tryd.ntmps81 (Nat.le_of_ble_eq_true rfl) ?_
  intro c a w hG hn h
  unfold replica_open at hF
  change SatL c [.slot 0 (aggVP [one (intVP .u32 a_0.f_Chain), one (intVP .u32 a_0.f_Here), bytesCk 32 a_0.f_Updater, one (slVP (dC 32) a_0.f_Watchers), one (intVP .u64 a_0.f_Window), bytesCk 32 a_0.f_Committed, one (slVP S_api_Timed.ck a_0.f_Roots), one (slVP S_api_State.ck a_0.f_States), one (boolVP a_0.f_Failed), one (boolVP a_0.f_Cut)])] a w at h
  refine regS mixed hn hG h [502, 501] (ob [0] (op_box q0 (cells_agg _)) <| ov [] (op_assign qi) .nil) fun b1 a w h => ?_
  refine wp_seq ?_
  refine wp_block ?_
  refine regS mixed hn hG h [0, 500, 1] (ov [0] (op_fieldAddr_lbm (p := (b1 0)) (n := 1) 0 70 Tryd.underlying31 rfl Tryd.sizeOf4 (by decide) q0 rfl) <| ov [500, 1] (op_load_lb1 [one (intVP .u32 a_0.f_Chain), one (intVP .u32 a_0.f_Here), bytesCk 32 a_0.f_Updater, one (slVP (dC 32) a_0.f_Watchers), one (intVP .u64 a_0.f_Window), bytesCk 32 a_0.f_Committed, one (slVP S_api_Timed.ck a_0.f_Roots), one (slVP S_api_State.ck a_0.f_States)] [one (boolVP a_0.f_Cut)] 1 Tryd.isAgg4 q0 rfl rfl) <| ov [500] (op_assign q0) .nil) fun _ a w h => ?_
  refine cnd h hF 1 [] [0, 2] (fun hb2 hF h => ?_) (fun hb2 hF h => ?_)
  · refine regS mixed hn hG h [500] (ov [] (op_assign qi) .nil) fun _ a w h => ?_
    refine wp_ret ?_
    obtain rfl := Option.some.inj hF
    exact ⟨.inl rfl, ret1 h Tryd.results81 (r_tmp 0 rfl) [] [] rfl rfl rfl⟩
  · refine regS mixed hn hG h [500] (ov [0] (op_fieldAddr_lbm (p := (b1 0)) (n := 1) 0 71 Tryd.underlying31 rfl Tryd.sizeOf4 (by decide) q0 rfl) <| ov [500, 1] (op_load_lb1 [one (intVP .u32 a_0.f_Chain), one (intVP .u32 a_0.f_Here), bytesCk 32 a_0.f_Updater, one (slVP (dC 32) a_0.f_Watchers), one (intVP .u64 a_0.f_Window), bytesCk 32 a_0.f_Committed, one (slVP S_api_Timed.ck a_0.f_Roots), one (slVP S_api_State.ck a_0.f_States), one (boolVP a_0.f_Failed)] [] 1 Tryd.isAgg4 q0 rfl rfl) <| ov [500] (op_assign q0) .nil) fun _ a w h => ?_
    refine cnd h hF 0 [] [] (fun hb3 hF h => ?_) (fun hb3 hF h => ?_)
    · refine regS mixed hn hG h [500] (ov [] (op_assign qi) .nil) fun _ a w h => ?_
      refine wp_ret ?_
      obtain rfl := Option.some.inj hF
      exact ⟨.inl rfl, ret1 h Tryd.results81 (r_tmp 0 rfl) [] [] rfl rfl rfl⟩
    · refine wp_skip ?_
      show Code.wp Tryd.prog _ _ a w
      refine regS mixed hn hG h [500] (ov [] (op_assign qi) .nil) fun _ a w h => ?_
      refine wp_ret ?_
      obtain rfl := Option.some.inj hF
      exact ⟨.inl rfl, ret1 h Tryd.results81 (r_tmp 0 rfl) [] [] rfl rfl rfl⟩

def slices_IndexFunc_api_Timed.b1 (a_0 : List (S_api_Timed)) (a_1 : ((S_api_Timed)) → Option (Bool)) (x5 : Int) : Option (Flow Int Int) := (if (decide (x5 < (a_0.length : Int))) = true then (if (0 : Int) ≤ x5 ∧ x5 < a_0.length then ((a_1 (a_0.getD x5.toNat default)).bind fun r13 => (if r13 = true then some (.ret x5) else some (.cont (IntKind.wrap .i64 (x5 + 1))))) else none) else some (.brk x5))
def slices_IndexFunc_api_Timed (a_0 : List (S_api_Timed)) (a_1 : ((S_api_Timed)) → Option (Bool)) : Option Int := ((loopN (fun s : Int => slices_IndexFunc_api_Timed.b1 a_0 a_1 s) (((a_0.length : Int) - 0 : Int).toNat + 2) 0).bind fun cr => match cr with | .ret r => some r | .next y19 => some (-1 : Int))
theorem slices_IndexFunc_api_Timed_ok {a_0 : List (S_api_Timed)} {a_1 : ((S_api_Timed)) → Option (Bool)} {r : Int} (hF : slices_IndexFunc_api_Timed a_0 a_1 = some r) : CallOk Tryd.prog KG 192 [(slVP S_api_Timed.ck a_0), (fnVP Tryd.prog KG (fun x : S_api_Timed => [(aggVP [bytesCk 32 x.f_Root, one (intVP .u64 x.f_At)])]) (fun r : Bool => (boolVP r)) a_1)] [] (fun _ => []) (intVP .i64 r) := by
  refine CallOk.intro 19 Tryd.func192 rfl Tryd.ntmps192 (Nat.le_of_ble_eq_true rfl) ?_
  intro c a w hG hn h
  unfold slices_IndexFunc_api_Timed at hF
  change SatL c [.slot 0 (slVP S_api_Timed.ck a_0), .slot 1 (fnVP Tryd.prog KG (fun x : S_api_Timed => [(aggVP [bytesCk 32 x.f_Root, one (intVP .u64 x.f_At)])]) (fun r : Bool => (boolVP r)) a_1)] a w at h
  refine regS mixed hn hG h [0, 1] (ov [] (op_assign qi) .nil) fun _ a w h => ?_
  refine wp_seq ?_
  refine regS mixed hn hG h [0, 1, 501, 500] (ov [0] (op_move q0) <| ov [500] (op_len_sl Tryd.underlying28 q0) <| ov [] (op_move qi) .nil) fun _ a w h => ?_
  refine wp_block ?_
  obtain ⟨cr15, hl16, hF⟩ := bind_some hF
  refine wp_mono (wp_loopN (R := Int) (S := Int) (fun s a w => SatL c [.slot 0 (slVP S_api_Timed.ck a_0), .slot 1 (fnVP Tryd.prog KG (fun x : S_api_Timed => [(aggVP [bytesCk 32 x.f_Root, one (intVP .u64 x.f_At)])]) (fun r : Bool => (boolVP r)) a_1), .slot 7 (intVP .i64 (a_0.length : Int)), .slot 8 (intVP .i64 s)] a w) (fun res e a w => match res with | .next s => e = .exit 0 ∧ SatL c [] a w | .ret r => e = .ret ∧ RetOk Tryd.prog Tryd.f192 c (intVP .i64 r) (fun _ => []) a w) ?_ _ 0 _ _ _ (h.sub [0, 1, 2, 3] (by rfl)) hl16) ?_
  · clear hl16 hF h
    intro x5 a w o h hF
    change slices_IndexFunc_api_Timed.b1 a_0 a_1 x5 = some o at hF
    unfold slices_IndexFunc_api_Timed.b1 at hF
    change SatL c [.slot 0 (slVP S_api_Timed.ck a_0), .slot 1 (fnVP Tryd.prog KG (fun x : S_api_Timed => [(aggVP [bytesCk 32 x.f_Root, one (intVP .u64 x.f_At)])]) (fun r : Bool => (boolVP r)) a_1), .slot 7 (intVP .i64 (a_0.length : Int)), .slot 8 (intVP .i64 x5)] a w at h
    refine regS mixed hn hG h [0, 1, 2, 3, 500] (ov [3, 2] (op_bin bin_lss q0 q1) .nil) fun _ a w h => ?_
    refine wp_seq ?_
    refine cnd h hF 4 [0, 1, 2, 3] [0, 1, 2, 3] (fun hb11 hF h => ?_) (fun hb11 hF h => ?_)
    · refine wp_skip ?_
      show Code.wp Tryd.prog _ _ a w
      refine wp_seq ?_
      refine wp_block ?_
      refine regS mixed hn hG h [0, 1, 500, 2, 3] (ov [3] (op_move q0) <| ov [500] (op_assign q0) .nil) fun _ a w h => ?_
      obtain ⟨hv12, hF⟩ := ite_some hF
      obtain ⟨r13, hr13, hF⟩ := bind_some hF
      refine regS mixed hn hG h [0, 1, 2, 3, 4, 500] (ov [1] (op_move q0) <| ov [0] (op_move q0) <| ov [2] (op_move q0) <| ov [501, 500] (op_indexAddr_sl Tryd.underlying28 Tryd.sizeOf60 S_api_Timed.lens q0 q1 hv12) <| ov [500] (op_load_pp [bytesCk 32 ((a_0.getD x5.toNat default).f_Root), one (intVP .u64 ((a_0.getD x5.toNat default).f_At))] [] Tryd.isAgg60 Tryd.sizeOf60 q0 rfl) <| ov [504, 500] (op_callfn (A := (fun x : S_api_Timed => [(aggVP [bytesCk 32 x.f_Root, one (intVP .u64 x.f_At)])])) (B := (fun r : Bool => (boolVP r))) (g := a_1) (x := (a_0.getD x5.toNat default)) q0 ⟨q1, trivial⟩ hr13) .nil) fun _ a w h => ?_
      refine cnd h hF 5 [2] [0, 1, 3, 4] (fun hb14 hF h => ?_) (fun hb14 hF h => ?_)
      · refine regS mixed hn hG h [500] (ov [0] (op_move q0) <| ov [500] (op_assign q0) .nil) fun _ a w h => ?_
        refine wp_ret ?_
        obtain rfl := Option.some.inj hF
        exact ⟨ret_ne, rfl, ret1 h Tryd.results192 (r_tmp 0 rfl) [] [] rfl rfl rfl⟩
      · refine wp_skip ?_
        show Code.wp Tryd.prog _ _ a w
        refine reg mixed hn hG h [0, 1, 2, 500] (ov [3] (op_bin bin_add q0 qi) <| od [500] 3 (op_move q0) .nil) fun _ a w h => ?_
        obtain rfl := Option.some.inj hF
        exact ⟨rfl, h.sub [0, 1, 2, 3] (by rfl)⟩
    · refine wp_exit ?_
      obtain rfl := Option.some.inj hF
      exact ⟨exit_ne _, rfl, h.sub [] (by rfl)⟩
  · clear hl16
    intro e a w hq
    cases cr15 with
    | ret r17 =>
      obtain ⟨rfl, hq⟩ := hq
      obtain rfl := Option.some.inj hF
      exact ⟨.inl rfl, hq⟩
    | next y19 =>
      obtain ⟨rfl, h⟩ := hq
      change SatL c [] a w at h
      refine inBlock_at ?_
      show Code.wp Tryd.prog _ _ a w
      refine regS mixed hn hG h [500] (ov [] (op_assign qi) .nil) fun _ a w h => ?_
      refine wp_ret ?_
      obtain rfl := Option.some.inj hF
      exact ⟨.inl rfl, ret1 h Tryd.results192 (r_tmp 0 rfl) [] [] rfl rfl rfl⟩

def replica_root_1 (a_0 : S_api_Timed) (c_1 : List UInt8) : Option Bool := some (decide (a_0.f_Root = c_1))
theorem replica_root_1_ok {a_0 : S_api_Timed} {c_1 : List UInt8} {r : Bool} (hF : replica_root_1 a_0 c_1 = some r) : CallOk Tryd.prog KG 193 [(aggVP [bytesCk 32 a_0.f_Root, one (intVP .u64 a_0.f_At)]), (ppVP [bytesCk 32 c_1])] [] (fun _ => []) (boolVP r) := by
  refine CallOk.intro 8 Tryd.func193 rfl Tryd.ntmps193 (Nat.le_of_ble_eq_true rfl) ?_
  intro c a w hG hn h
  unfold replica_root_1 at hF
  change SatL c [.slot 0 (aggVP [bytesCk 32 a_0.f_Root, one (intVP .u64 a_0.f_At)]), .slot 1 (ppVP [bytesCk 32 c_1])] a w at h
  refine regS mixed hn hG h [1, 502, 501] (ob [0] (op_box q0 (cells_agg _)) <| ov [] (op_assign qb) .nil) fun b1 a w h => ?_
  refine regS mixed hn hG h [500] (ov [1] (op_fieldAddr_lbm (p := (b1 0)) (n := 32) 0 0 Tryd.underlying60 rfl Tryd.sizeOf25 (by decide) q0 rfl) <| ov [500, 2] (op_load_lb [] [bytesCk 32 a_0.f_Root] [one (intVP .u64 a_0.f_At)] 1 Tryd.isAgg25 Tryd.sizeOf25 q0 rfl rfl rfl) <| ov [0] (op_load_pp [bytesCk 32 c_1] [] Tryd.isAgg25 Tryd.sizeOf25 q0 rfl) <| ov [501, 500] (op_bin (bin_aeql Tryd.underlying25 Tryd.underlying5 Tryd.type5 Tryd.sizeOf5 Tryd.isAgg5 Tryd.eqGuardType25) q0 q1) <| ov [500] (op_assign q0) .nil) fun _ a w h => ?_
  refine wp_ret ?_
  obtain rfl := Option.some.inj hF
  exact ⟨.inl rfl, ret1 h Tryd.results193 (r_tmp 0 rfl) [] [] rfl rfl rfl⟩

def replica_root (a_0 : S_api_Replica) (a_1 : List UInt8) : Option Int := ((slices_IndexFunc_api_Timed a_0.f_Roots (fun x : S_api_Timed => replica_root_1 x a_1)).bind fun r3 => some r3)
theorem replica_root_ok {a_0 : S_api_Replica} {a_1 : List UInt8} {r : Int} (hF : replica_root a_0 a_1 = some r) : CallOk Tryd.prog KG 141 [(aggVP [one (intVP .u32 a_0.f_Chain), one (intVP .u32 a_0.f_Here), bytesCk 32 a_0.f_Updater, one (slVP (dC 32) a_0.f_Watchers), one (intVP .u64 a_0.f_Window), bytesCk 32 a_0.f_Committed, one (slVP S_api_Timed.ck a_0.f_Roots), one (slVP S_api_State.ck a_0.f_States), one (boolVP a_0.f_Failed), one (boolVP a_0.f_Cut)]), (aggVP [bytesCk 32 a_1])] [] (fun _ => []) (intVP .i64 r) := by
  refine CallOk.intro 9 Tryd.func141 rfl Tryd.ntmps141 (Nat.le_of_ble_eq_true rfl) ?_
  intro c a w hG hn h
  unfold replica_root at hF
  change SatL c [.slot 0 (aggVP [one (intVP .u32 a_0.f_Chain), one (intVP .u32 a_0.f_Here), bytesCk 32 a_0.f_Updater, one (slVP (dC 32) a_0.f_Watchers), one (intVP .u64 a_0.f_Window), bytesCk 32 a_0.f_Committed, one (slVP S_api_Timed.ck a_0.f_Roots), one (slVP S_api_State.ck a_0.f_States), one (boolVP a_0.f_Failed), one (boolVP a_0.f_Cut)]), .slot 1 (aggVP [bytesCk 32 a_1])] a w at h
  refine regS mixed hn hG h [504, 502, 503, 501] (ob [0] (op_box q0 (cells_agg _)) <| ob [1] (op_box q0 (cells_agg _)) <| ov [] (op_assign qi) .nil) fun b1 a w h => ?_
  obtain ⟨r3, hr3, hF⟩ := bind_some hF
  refine regS mixed hn hG h [500] (ov [0] (op_fieldAddr_lbm (p := (b1 0)) (n := 1) 0 68 Tryd.underlying31 rfl Tryd.sizeOf28 (by decide) q0 rfl) <| ov [500, 2] (op_load_lb1 [one (intVP .u32 a_0.f_Chain), one (intVP .u32 a_0.f_Here), bytesCk 32 a_0.f_Updater, one (slVP (dC 32) a_0.f_Watchers), one (intVP .u64 a_0.f_Window), bytesCk 32 a_0.f_Committed] [one (slVP S_api_State.ck a_0.f_States), one (boolVP a_0.f_Failed), one (boolVP a_0.f_Cut)] 1 Tryd.isAgg28 q0 rfl rfl) <| oe [1] [3] (GOk.plain (op_makeFunc (A := (fun x : S_api_Timed => [(aggVP [bytesCk 32 x.f_Root, one (intVP .u64 x.f_At)])])) (B := (fun r : Bool => (boolVP r))) (g := (fun x : S_api_Timed => replica_root_1 x a_1)) [((b1 1), 25, [bytesCk 32 a_1])] Tryd.call193 (fun x r h => replica_root_1_ok h) ⟨q0, trivial⟩) rfl) <| oc [501, 500] [] Tryd.call192 (slices_IndexFunc_api_Timed_ok hr3) ⟨q0, q1, trivial⟩ <| ov [500] (op_assign q0) .nil) fun _ a w h => ?_
  refine wp_ret ?_
  obtain rfl := Option.some.inj hF
  exact ⟨.inl rfl, ret1 h Tryd.results141 (r_tmp 0 rfl) [] [] rfl rfl rfl⟩

def replica_Counts (a_0 : S_api_Replica) (a_1 : List UInt8) (a_2 : Int) : Option Int := ((replica_root a_0 a_1).bind fun r3 => (if (decide (r3 < (0 : Int))) = true then some 31 else (if (0 : Int) ≤ r3 ∧ r3 < a_0.f_Roots.length then (if (decide (a_2 < ((a_0.f_Roots.getD r3.toNat default).f_At))) = true then some 36 else some 0) else none)))
theorem replica_Counts_ok {a_0 : S_api_Replica} {a_1 : List UInt8} {a_2 : Int} {r : Int} (hF : replica_Counts a_0 a_1 a_2 = some r) : CallOk Tryd.prog KG 83 [(aggVP [one (intVP .u32 a_0.f_Chain), one (intVP .u32 a_0.f_Here), bytesCk 32 a_0.f_Updater, one (slVP (dC 32) a_0.f_Watchers), one (intVP .u64 a_0.f_Window), bytesCk 32 a_0.f_Committed, one (slVP S_api_Timed.ck a_0.f_Roots), one (slVP S_api_State.ck a_0.f_States), one (boolVP a_0.f_Failed), one (boolVP a_0.f_Cut)]), (aggVP [bytesCk 32 a_1]), (intVP .u64 a_2)] [] (fun _ => []) (intVP .i64 r) := by
  refine CallOk.intro 23 Tryd.func83 rfl Tryd.ntmps83 (Nat.le_of_ble_eq_true rfl) ?_
  intro c a w hG hn h
  unfold replica_Counts at hF
  change SatL c [.slot 0 (aggVP [one (intVP .u32 a_0.f_Chain), one (intVP .u32 a_0.f_Here), bytesCk 32 a_0.f_Updater, one (slVP (dC 32) a_0.f_Watchers), one (intVP .u64 a_0.f_Window), bytesCk 32 a_0.f_Committed, one (slVP S_api_Timed.ck a_0.f_Roots), one (slVP S_api_State.ck a_0.f_States), one (boolVP a_0.f_Failed), one (boolVP a_0.f_Cut)]), .slot 1 (aggVP [bytesCk 32 a_1]), .slot 2 (intVP .u64 a_2)] a w at h
  refine regS mixed hn hG h [2, 504, 502, 503, 501] (ob [0] (op_box q0 (cells_agg _)) <| ob [1] (op_box q0 (cells_agg _)) <| ov [] (op_assign qi) .nil) fun b1 a w h => ?_
  obtain ⟨r3, hr3, hF⟩ := bind_some hF
  refine regS mixed hn hG h [0, 1, 500, 3] (ov [1, 3] (op_load_w 1 Tryd.isAgg31 Tryd.sizeOf31 q0) <| ov [2, 4] (op_load_w 1 Tryd.isAgg25 Tryd.sizeOf25 q0) <| oc [501, 500] [] Tryd.call141 (replica_root_ok hr3) ⟨q0, q1, trivial⟩ <| ov [500] (op_assign q0) .nil) fun _ a w h => ?_
  refine wp_seq ?_
  refine wp_block ?_
  refine regS mixed hn hG h [0, 1, 2, 500, 3] (ov [2] (op_move q0) <| ov [500] (op_bin bin_lss q0 qi) <| ov [500] (op_assign q0) .nil) fun _ a w h => ?_
  refine cnd h hF 3 [] [0, 1, 2, 4] (fun hb4 hF h => ?_) (fun hb4 hF h => ?_)
  · refine regS mixed hn hG h [500] (ov [] (op_assign qi) .nil) fun _ a w h => ?_
    refine wp_ret ?_
    obtain rfl := Option.some.inj hF
    exact ⟨.inl rfl, ret1 h Tryd.results83 (r_tmp 0 rfl) [] [] rfl rfl rfl⟩
  · obtain ⟨hv5, hF⟩ := ite_some hF
    refine regS mixed hn hG h [500] (ov [1] (op_fieldAddr_lbm (p := (b1 0)) (n := 1) 0 68 Tryd.underlying31 rfl Tryd.sizeOf28 (by decide) q0 rfl) <| ov [500, 3] (op_load_lb1 [one (intVP .u32 a_0.f_Chain), one (intVP .u32 a_0.f_Here), bytesCk 32 a_0.f_Updater, one (slVP (dC 32) a_0.f_Watchers), one (intVP .u64 a_0.f_Window), bytesCk 32 a_0.f_Committed] [one (slVP S_api_State.ck a_0.f_States), one (boolVP a_0.f_Failed), one (boolVP a_0.f_Cut)] 1 Tryd.isAgg28 q0 rfl rfl) <| ov [2] (op_move q0) <| ov [501, 500] (op_indexAddr_sl Tryd.underlying28 Tryd.sizeOf60 S_api_Timed.lens q0 q1 hv5) <| ov [500] (op_fieldAddr_pp (n := 1) [bytesCk 32 ((a_0.f_Roots.getD r3.toNat default).f_Root)] _ Tryd.underlying60 rfl Tryd.sizeOf27 (by decide) q0 rfl) <| ov [500] (op_load_pp1 [] Tryd.isAgg27 q0) <| ov [0] (op_move q0) <| ov [501, 500] (op_bin bin_gtr q0 q1) <| ov [500] (op_assign q0) .nil) fun _ a w h => ?_
    refine cnd h hF 0 [] [] (fun hb6 hF h => ?_) (fun hb6 hF h => ?_)
    · refine regS mixed hn hG h [500] (ov [] (op_assign qi) .nil) fun _ a w h => ?_
      refine wp_ret ?_
      obtain rfl := Option.some.inj hF
      exact ⟨.inl rfl, ret1 h Tryd.results83 (r_tmp 0 rfl) [] [] rfl rfl rfl⟩
    · refine wp_skip ?_
      show Code.wp Tryd.prog _ _ a w
      refine regS mixed hn hG h [500] (ov [] (op_assign qi) .nil) fun _ a w h => ?_
      refine wp_ret ?_
      obtain rfl := Option.some.inj hF
      exact ⟨.inl rfl, ret1 h Tryd.results83 (r_tmp 0 rfl) [] [] rfl rfl rfl⟩

def slices_IndexFunc_api_State.b1 (a_0 : List (S_api_State)) (a_1 : ((S_api_State)) → Option (Bool)) (x5 : Int) : Option (Flow Int Int) := (if (decide (x5 < (a_0.length : Int))) = true then (if (0 : Int) ≤ x5 ∧ x5 < a_0.length then ((a_1 (a_0.getD x5.toNat default)).bind fun r13 => (if r13 = true then some (.ret x5) else some (.cont (IntKind.wrap .i64 (x5 + 1))))) else none) else some (.brk x5))
def slices_IndexFunc_api_State (a_0 : List (S_api_State)) (a_1 : ((S_api_State)) → Option (Bool)) : Option Int := ((loopN (fun s : Int => slices_IndexFunc_api_State.b1 a_0 a_1 s) (((a_0.length : Int) - 0 : Int).toNat + 2) 0).bind fun cr => match cr with | .ret r => some r | .next y19 => some (-1 : Int))
theorem slices_IndexFunc_api_State_ok {a_0 : List (S_api_State)} {a_1 : ((S_api_State)) → Option (Bool)} {r : Int} (hF : slices_IndexFunc_api_State a_0 a_1 = some r) : CallOk Tryd.prog KG 142 [(slVP S_api_State.ck a_0), (fnVP Tryd.prog KG (fun x : S_api_State => [(aggVP [bytesCk 32 x.f_Leaf, one (intVP .i64 x.f_Status), bytesCk 32 x.f_Root])]) (fun r : Bool => (boolVP r)) a_1)] [] (fun _ => []) (intVP .i64 r) := by
  refine CallOk.intro 19 Tryd.func142 rfl Tryd.ntmps142 (Nat.le_of_ble_eq_true rfl) ?_
  intro c a w hG hn h
  unfold slices_IndexFunc_api_State at hF
  change SatL c [.slot 0 (slVP S_api_State.ck a_0), .slot 1 (fnVP Tryd.prog KG (fun x : S_api_State => [(aggVP [bytesCk 32 x.f_Leaf, one (intVP .i64 x.f_Status), bytesCk 32 x.f_Root])]) (fun r : Bool => (boolVP r)) a_1)] a w at h
  refine regS mixed hn hG h [0, 1] (ov [] (op_assign qi) .nil) fun _ a w h => ?_
  refine wp_seq ?_
  refine regS mixed hn hG h [0, 1, 501, 500] (ov [0] (op_move q0) <| ov [500] (op_len_sl Tryd.underlying29 q0) <| ov [] (op_move qi) .nil) fun _ a w h => ?_
  refine wp_block ?_
  obtain ⟨cr15, hl16, hF⟩ := bind_some hF
  refine wp_mono (wp_loopN (R := Int) (S := Int) (fun s a w => SatL c [.slot 0 (slVP S_api_State.ck a_0), .slot 1 (fnVP Tryd.prog KG (fun x : S_api_State => [(aggVP [bytesCk 32 x.f_Leaf, one (intVP .i64 x.f_Status), bytesCk 32 x.f_Root])]) (fun r : Bool => (boolVP r)) a_1), .slot 7 (intVP .i64 (a_0.length : Int)), .slot 8 (intVP .i64 s)] a w) (fun res e a w => match res with | .next s => e = .exit 0 ∧ SatL c [] a w | .ret r => e = .ret ∧ RetOk Tryd.prog Tryd.f142 c (intVP .i64 r) (fun _ => []) a w) ?_ _ 0 _ _ _ (h.sub [0, 1, 2, 3] (by rfl)) hl16) ?_
  · clear hl16 hF h
    intro x5 a w o h hF
    change slices_IndexFunc_api_State.b1 a_0 a_1 x5 = some o at hF
    unfold slices_IndexFunc_api_State.b1 at hF
    change SatL c [.slot 0 (slVP S_api_State.ck a_0), .slot 1 (fnVP Tryd.prog KG (fun x : S_api_State => [(aggVP [bytesCk 32 x.f_Leaf, one (intVP .i64 x.f_Status), bytesCk 32 x.f_Root])]) (fun r : Bool => (boolVP r)) a_1), .slot 7 (intVP .i64 (a_0.length : Int)), .slot 8 (intVP .i64 x5)] a w at h
    refine regS mixed hn hG h [0, 1, 2, 3, 500] (ov [3, 2] (op_bin bin_lss q0 q1) .nil) fun _ a w h => ?_
    refine wp_seq ?_
    refine cnd h hF 4 [0, 1, 2, 3] [0, 1, 2, 3] (fun hb11 hF h => ?_) (fun hb11 hF h => ?_)
    · refine wp_skip ?_
      show Code.wp Tryd.prog _ _ a w
      refine wp_seq ?_
      refine wp_block ?_
      refine regS mixed hn hG h [0, 1, 500, 2, 3] (ov [3] (op_move q0) <| ov [500] (op_assign q0) .nil) fun _ a w h => ?_
      obtain ⟨hv12, hF⟩ := ite_some hF
      obtain ⟨r13, hr13, hF⟩ := bind_some hF
      refine regS mixed hn hG h [0, 1, 2, 3, 4, 500] (ov [1] (op_move q0) <| ov [0] (op_move q0) <| ov [2] (op_move q0) <| ov [501, 500] (op_indexAddr_sl Tryd.underlying29 Tryd.sizeOf71 S_api_State.lens q0 q1 hv12) <| ov [500] (op_load_pp [bytesCk 32 ((a_0.getD x5.toNat default).f_Leaf), one (intVP .i64 ((a_0.getD x5.toNat default).f_Status)), bytesCk 32 ((a_0.getD x5.toNat default).f_Root)] [] Tryd.isAgg71 Tryd.sizeOf71 q0 rfl) <| ov [504, 500] (op_callfn (A := (fun x : S_api_State => [(aggVP [bytesCk 32 x.f_Leaf, one (intVP .i64 x.f_Status), bytesCk 32 x.f_Root])])) (B := (fun r : Bool => (boolVP r))) (g := a_1) (x := (a_0.getD x5.toNat default)) q0 ⟨q1, trivial⟩ hr13) .nil) fun _ a w h => ?_
      refine cnd h hF 5 [2] [0, 1, 3, 4] (fun hb14 hF h => ?_) (fun hb14 hF h => ?_)
      · refine regS mixed hn hG h [500] (ov [0] (op_move q0) <| ov [500] (op_assign q0) .nil) fun _ a w h => ?_
        refine wp_ret ?_
        obtain rfl := Option.some.inj hF
        exact ⟨ret_ne, rfl, ret1 h Tryd.results142 (r_tmp 0 rfl) [] [] rfl rfl rfl⟩
      · refine wp_skip ?_
        show Code.wp Tryd.prog _ _ a w
        refine reg mixed hn hG h [0, 1, 2, 500] (ov [3] (op_bin bin_add q0 qi) <| od [500] 3 (op_move q0) .nil) fun _ a w h => ?_
        obtain rfl := Option.some.inj hF
        exact ⟨rfl, h.sub [0, 1, 2, 3] (by rfl)⟩
    · refine wp_exit ?_
      obtain rfl := Option.some.inj hF
      exact ⟨exit_ne _, rfl, h.sub [] (by rfl)⟩
  · clear hl16
    intro e a w hq
    cases cr15 with
    | ret r17 =>
      obtain ⟨rfl, hq⟩ := hq
      obtain rfl := Option.some.inj hF
      exact ⟨.inl rfl, hq⟩
    | next y19 =>
      obtain ⟨rfl, h⟩ := hq
      change SatL c [] a w at h
      refine inBlock_at ?_
      show Code.wp Tryd.prog _ _ a w
      refine regS mixed hn hG h [500] (ov [] (op_assign qi) .nil) fun _ a w h => ?_
      refine wp_ret ?_
      obtain rfl := Option.some.inj hF
      exact ⟨.inl rfl, ret1 h Tryd.results142 (r_tmp 0 rfl) [] [] rfl rfl rfl⟩

def replica_state_1 (a_0 : S_api_State) (c_1 : List UInt8) : Option Bool := some (decide (a_0.f_Leaf = c_1))
theorem replica_state_1_ok {a_0 : S_api_State} {c_1 : List UInt8} {r : Bool} (hF : replica_state_1 a_0 c_1 = some r) : CallOk Tryd.prog KG 143 [(aggVP [bytesCk 32 a_0.f_Leaf, one (intVP .i64 a_0.f_Status), bytesCk 32 a_0.f_Root]), (ppVP [bytesCk 32 c_1])] [] (fun _ => []) (boolVP r) := by
  refine CallOk.intro 8 Tryd.func143 rfl Tryd.ntmps143 (Nat.le_of_ble_eq_true rfl) ?_
  intro c a w hG hn h
  unfold replica_state_1 at hF
  change SatL c [.slot 0 (aggVP [bytesCk 32 a_0.f_Leaf, one (intVP .i64 a_0.f_Status), bytesCk 32 a_0.f_Root]), .slot 1 (ppVP [bytesCk 32 c_1])] a w at h
  refine regS mixed hn hG h [1, 502, 501] (ob [0] (op_box q0 (cells_agg _)) <| ov [] (op_assign qb) .nil) fun b1 a w h => ?_
  refine regS mixed hn hG h [500] (ov [1] (op_fieldAddr_lbm (p := (b1 0)) (n := 32) 0 0 Tryd.underlying71 rfl Tryd.sizeOf25 (by decide) q0 rfl) <| ov [500, 2] (op_load_lb [] [bytesCk 32 a_0.f_Leaf] [one (intVP .i64 a_0.f_Status), bytesCk 32 a_0.f_Root] 1 Tryd.isAgg25 Tryd.sizeOf25 q0 rfl rfl rfl) <| ov [0] (op_load_pp [bytesCk 32 c_1] [] Tryd.isAgg25 Tryd.sizeOf25 q0 rfl) <| ov [501, 500] (op_bin (bin_aeql Tryd.underlying25 Tryd.underlying5 Tryd.type5 Tryd.sizeOf5 Tryd.isAgg5 Tryd.eqGuardType25) q0 q1) <| ov [500] (op_assign q0) .nil) fun _ a w h => ?_
  refine wp_ret ?_
  obtain rfl := Option.some.inj hF
  exact ⟨.inl rfl, ret1 h Tryd.results143 (r_tmp 0 rfl) [] [] rfl rfl rfl⟩

def replica_state (a_0 : S_api_Replica) (a_1 : List UInt8) : Option Int := ((slices_IndexFunc_api_State a_0.f_States (fun x : S_api_State => replica_state_1 x a_1)).bind fun r3 => some r3)
theorem replica_state_ok {a_0 : S_api_Replica} {a_1 : List UInt8} {r : Int} (hF : replica_state a_0 a_1 = some r) : CallOk Tryd.prog KG 84 [(aggVP [one (intVP .u32 a_0.f_Chain), one (intVP .u32 a_0.f_Here), bytesCk 32 a_0.f_Updater, one (slVP (dC 32) a_0.f_Watchers), one (intVP .u64 a_0.f_Window), bytesCk 32 a_0.f_Committed, one (slVP S_api_Timed.ck a_0.f_Roots), one (slVP S_api_State.ck a_0.f_States), one (boolVP a_0.f_Failed), one (boolVP a_0.f_Cut)]), (aggVP [bytesCk 32 a_1])] [] (fun _ => []) (intVP .i64 r) := by
  refine CallOk.intro 9 Tryd.func84 rfl Tryd.ntmps84 (Nat.le_of_ble_eq_true rfl) ?_
  intro c a w hG hn h
  unfold replica_state at hF
  change SatL c [.slot 0 (aggVP [one (intVP .u32 a_0.f_Chain), one (intVP .u32 a_0.f_Here), bytesCk 32 a_0.f_Updater, one (slVP (dC 32) a_0.f_Watchers), one (intVP .u64 a_0.f_Window), bytesCk 32 a_0.f_Committed, one (slVP S_api_Timed.ck a_0.f_Roots), one (slVP S_api_State.ck a_0.f_States), one (boolVP a_0.f_Failed), one (boolVP a_0.f_Cut)]), .slot 1 (aggVP [bytesCk 32 a_1])] a w at h
  refine regS mixed hn hG h [504, 502, 503, 501] (ob [0] (op_box q0 (cells_agg _)) <| ob [1] (op_box q0 (cells_agg _)) <| ov [] (op_assign qi) .nil) fun b1 a w h => ?_
  obtain ⟨r3, hr3, hF⟩ := bind_some hF
  refine regS mixed hn hG h [500] (ov [0] (op_fieldAddr_lbm (p := (b1 0)) (n := 1) 0 69 Tryd.underlying31 rfl Tryd.sizeOf29 (by decide) q0 rfl) <| ov [500, 2] (op_load_lb1 [one (intVP .u32 a_0.f_Chain), one (intVP .u32 a_0.f_Here), bytesCk 32 a_0.f_Updater, one (slVP (dC 32) a_0.f_Watchers), one (intVP .u64 a_0.f_Window), bytesCk 32 a_0.f_Committed, one (slVP S_api_Timed.ck a_0.f_Roots)] [one (boolVP a_0.f_Failed), one (boolVP a_0.f_Cut)] 1 Tryd.isAgg29 q0 rfl rfl) <| oe [1] [3] (GOk.plain (op_makeFunc (A := (fun x : S_api_State => [(aggVP [bytesCk 32 x.f_Leaf, one (intVP .i64 x.f_Status), bytesCk 32 x.f_Root])])) (B := (fun r : Bool => (boolVP r))) (g := (fun x : S_api_State => replica_state_1 x a_1)) [((b1 1), 25, [bytesCk 32 a_1])] Tryd.call143 (fun x r h => replica_state_1_ok h) ⟨q0, trivial⟩) rfl) <| oc [501, 500] [] Tryd.call142 (slices_IndexFunc_api_State_ok hr3) ⟨q0, q1, trivial⟩ <| ov [500] (op_assign q0) .nil) fun _ a w h => ?_
  refine wp_ret ?_
  obtain rfl := Option.some.inj hF
  exact ⟨.inl rfl, ret1 h Tryd.results84 (r_tmp 0 rfl) [] [] rfl rfl rfl⟩

def slices_Clone_api_State (a_0 : List (S_api_State)) : Option (List (S_api_State)) := (if a_0.length * 72 ≤ 140737488355328 then some a_0 else none)
theorem slices_Clone_api_State_ok {a_0 r : List (S_api_State)} (hF : slices_Clone_api_State a_0 = some r) : CallOk Tryd.prog KG 85 [(slVP S_api_State.ck a_0)] [] (fun _ => []) (slVP S_api_State.ck r) := by
  unfold slices_Clone_api_State at hF
  obtain ⟨hv1, hF⟩ := ite_some hF
  obtain rfl := Option.some.inj hF
  refine CallOk.intro 8 Tryd.func85 rfl Tryd.ntmps85 (Nat.le_of_ble_eq_true rfl) ?_
  intro c a w hG hn h
  change SatL c [.slot 0 (slVP S_api_State.ck a_0)] a w at h
  refine wp_seq ?_
  refine region_do (n := 8) [.slot 2 100000 100000 (fun _ _ => (eqVP (.slice none 0 0)))] [0] [⟨[], [], [1], [], some 2⟩] [0] mixed hn hG h (by kernel_rfl) ?_ ?_
  · exact ⟨⟨rfl, fun β => (GOk.plain (op_assign (opc (ec _))) rfl)⟩, trivial⟩
  clear h
  intro β a w h
  change SatL c [.slot 0 (slVP S_api_State.ck a_0)] a w at h
  clear β
  show Code.wp Tryd.prog _ _ a w
  refine wp_seq ?_
  refine wp_seq ?_
  refine region_do (n := 8) [.slot 3 100000 100000 (fun _ _ => (slVP S_api_State.ck a_0)), .slot 4 100000 100000 (fun _ _ => (nilqVP a_0))] [0, 1] [⟨[0], [], [1], [], some 3⟩, ⟨[1], [], [2], [0], some 4⟩] [0, 2] mixed hn hG h (by kernel_rfl) ?_ ?_
  · exact ⟨⟨rfl, fun β => (GOk.plain (op_move (opt 0 rfl)) rfl)⟩, ⟨rfl, fun β => (GOk.plain (op_bin (bin_slnil Tryd.underlying29) (opt 0 rfl) (opc (ec _))) rfl)⟩, trivial⟩
  clear h
  intro β a w h
  change SatL c [.slot 0 (slVP S_api_State.ck a_0), .slot 4 (nilqVP a_0)] a w at h
  clear β
  show Code.wp Tryd.prog _ _ a w
  obtain ⟨b0, hb0, h⟩ := h.nilq 1 rfl
  change SatL c [.slot 0 (slVP S_api_State.ck a_0), .slot 4 (boolVP b0)] a w at h
  refine cond_L h 1 rfl (fun hb => ?_) (fun hb => ?_)
  · obtain rfl := hb0 hb
    replace h := h.sub [] (by rfl)
    change SatL c [] a w at h
    refine wp_seq ?_
    refine region_do (n := 8) [.slot 2 100000 100000 (fun _ _ => (eqVP (.slice none 0 0)))] [0] [⟨[], [], [0], [], some 2⟩] [0] mixed hn hG h (by kernel_rfl) ?_ ?_
    · exact ⟨⟨rfl, fun β => (GOk.plain (op_assign (opc (ec _))) rfl)⟩, trivial⟩
    clear h
    intro β a w h
    change SatL c [.slot 2 (eqVP (.slice none 0 0))] a w at h
    clear β
    show Code.wp Tryd.prog _ _ a w
    refine wp_ret ?_
    exact ⟨.inl rfl, ret1 h Tryd.results85 (r_nil 0 rfl) [] [] rfl rfl rfl⟩
  · replace h := h.sub [0] (by rfl)
    change SatL c [.slot 0 (slVP S_api_State.ck a_0)] a w at h
    refine wp_skip ?_
    show Code.wp Tryd.prog _ _ a w
    refine wp_seq ?_
    refine region_do (n := 8) [.slot 5 100000 100000 (fun _ _ => empVP), .slot 6 100000 100000 (fun _ _ => (slVP S_api_State.ck a_0)), .slot 7 100000 100000 (fun _ _ => (slVP S_api_State.ck a_0)), .slot 2 100000 100000 (fun _ _ => (slVP S_api_State.ck a_0))] [0, 1, 2, 3] [⟨[], [], [1], [], some 5⟩, ⟨[0], [], [2], [0], some 6⟩, ⟨[1, 2], [], [3], [0, 1], some 7⟩, ⟨[3], [], [4], [0, 1, 2], some 2⟩] [4] mixed hn hG h (by kernel_rfl) ?_ ?_
    · exact ⟨⟨rfl, fun β => (GOk.plain (op_lit0 Tryd.underlying29 Tryd.sizeOf71 Tryd.zeroValue71) rfl)⟩, ⟨rfl, fun β => (GOk.plain (op_move (opt 0 rfl)) rfl)⟩, ⟨rfl, fun β => (GOk.plain (op_append_emp (i := Tryd.t71) Tryd.underlying29 Tryd.type71 rfl S_api_State.lens (by decide) rfl (opt 0 rfl) (opt 1 rfl) hv1) rfl)⟩, ⟨rfl, fun β => (GOk.plain (op_assign (opt 0 rfl)) rfl)⟩, trivial⟩
    clear h
    intro β a w h
    change SatL c [.slot 2 (slVP S_api_State.ck a_0)] a w at h
    clear β
    show Code.wp Tryd.prog _ _ a w
    refine wp_ret ?_
    exact ⟨.inl rfl, ret1 h Tryd.results85 (r_tmp 0 rfl) [] [] rfl rfl rfl⟩
theorem slices_Clone_api_State_own {a_0 r : List (S_api_State)} (hF : slices_Clone_api_State a_0 = some r) : CallOk Tryd.prog KG 85 [(slVP S_api_State.ck a_0)] [] (fun v => [own v 71 65 S_api_State.ck r]) anyVP := by
  unfold slices_Clone_api_State at hF
  obtain ⟨hv1, hF⟩ := ite_some hF
  obtain rfl := Option.some.inj hF
  refine CallOk.intro 8 Tryd.func85 rfl Tryd.ntmps85 (Nat.le_of_ble_eq_true rfl) ?_
  intro c a w hG hn h
  change SatL c [.slot 0 (slVP S_api_State.ck a_0)] a w at h
  have hm : a_0.length ≤ mxl := h.slotp 0 rfl (fun _ _ q => q.1)
  refine wp_seq ?_
  refine region_do (n := 8) [.slot 2 100000 100000 (fun _ _ => (eqVP (.slice none 0 0)))] [0] [⟨[], [], [1], [], some 2⟩] [0] mixed hn hG h (by kernel_rfl) ?_ ?_
  · exact ⟨⟨rfl, fun β => (GOk.plain (op_assign (opc (ec _))) rfl)⟩, trivial⟩
  clear h
  intro β a w h
  change SatL c [.slot 0 (slVP S_api_State.ck a_0)] a w at h
  clear β
  show Code.wp Tryd.prog _ _ a w
  refine wp_seq ?_
  refine wp_seq ?_
  refine region_do (n := 8) [.slot 3 100000 100000 (fun _ _ => (slVP S_api_State.ck a_0)), .slot 4 100000 100000 (fun _ _ => (nilqVP a_0))] [0, 1] [⟨[0], [], [1], [], some 3⟩, ⟨[1], [], [2], [0], some 4⟩] [0, 2] mixed hn hG h (by kernel_rfl) ?_ ?_
  · exact ⟨⟨rfl, fun β => (GOk.plain (op_move (opt 0 rfl)) rfl)⟩, ⟨rfl, fun β => (GOk.plain (op_bin (bin_slnil Tryd.underlying29) (opt 0 rfl) (opc (ec _))) rfl)⟩, trivial⟩
  clear h
  intro β a w h
  change SatL c [.slot 0 (slVP S_api_State.ck a_0), .slot 4 (nilqVP a_0)] a w at h
  clear β
  show Code.wp Tryd.prog _ _ a w
  obtain ⟨b0, hb0, h⟩ := h.nilq 1 rfl
  change SatL c [.slot 0 (slVP S_api_State.ck a_0), .slot 4 (boolVP b0)] a w at h
  refine cond_L h 1 rfl (fun hb => ?_) (fun hb => ?_)
  · obtain rfl := hb0 hb
    replace h := h.sub [] (by rfl)
    change SatL c [] a w at h
    refine wp_seq ?_
    refine region_do (n := 8) [.slot 2 100000 100000 (fun _ _ => (eqVP (.slice none 0 0)))] [0] [⟨[], [], [0], [], some 2⟩] [0] mixed hn hG h (by kernel_rfl) ?_ ?_
    · exact ⟨⟨rfl, fun β => (GOk.plain (op_assign (opc (ec _))) rfl)⟩, trivial⟩
    clear h
    intro β a w h
    change SatL c [.slot 2 (eqVP (.slice none 0 0))] a w at h
    clear β
    replace h := h.nilown 71 65 S_api_State.ck
    show Code.wp Tryd.prog _ _ a w
    refine wp_ret ?_
    exact ⟨.inl rfl, ret1v (p := .slice none 0 0) h Tryd.results85 (r_tmp 0 rfl) [1] _ rfl rfl rfl⟩
  · replace h := h.sub [0] (by rfl)
    change SatL c [.slot 0 (slVP S_api_State.ck a_0)] a w at h
    refine wp_skip ?_
    show Code.wp Tryd.prog _ _ a w
    refine wp_seq ?_
    refine region_do (n := 8) [.slot 5 0 100000 (fun v _ => (eqVP v)), .res 0 100000 (fun v _ => (own v 71 65 S_api_State.ck ([] : List (S_api_State)))), .slot 6 100000 100000 (fun _ _ => (slVP S_api_State.ck a_0)), .slot 7 2 100000 (fun v _ => (eqVP v)), .res 2 100000 (fun v _ => (own v 71 65 S_api_State.ck (([] : List (S_api_State)) ++ a_0))), .slot 2 2 100000 (fun v _ => (eqVP v))] [0, 0, 1, 2, 2, 3] [⟨[], [], [1, 2], [], some 5⟩, ⟨[0], [], [3], [0], some 6⟩, ⟨[1, 3], [2], [4, 5], [0, 1], some 7⟩, ⟨[4], [], [6], [0, 1, 2], some 2⟩] [6, 5] mixed hn hG h (by kernel_rfl) ?_ ?_
    · exact ⟨⟨rfl, fun β => (GOk.plain (op_lit0O Tryd.underlying29 Tryd.sizeOf71 Tryd.zeroValue71) rfl)⟩, ⟨rfl, fun β => (GOk.plain (op_move (opt 0 rfl)) rfl)⟩, ⟨rfl, fun β => (GOk.plain (op_ownAppend (i := Tryd.t71) Tryd.underlying29 Tryd.type71 rfl S_api_State.lens (by decide) rfl (opt 0 rfl) (opt 1 rfl) ⟨by simpa using hm, by rw [List.length_nil, Nat.zero_add]; exact hv1⟩) rfl)⟩, ⟨rfl, fun β => (GOk.plain (op_assign (V := eqVP (β 2)) (opt 0 rfl)) rfl)⟩, trivial⟩
    clear h
    intro β a w h
    change SatL c [.slot 2 (eqVP (β 2)), .res (own (β 2) 71 65 S_api_State.ck a_0)] a w at h
    generalize β 2 = p at h
    clear β
    show Code.wp Tryd.prog _ _ a w
    refine wp_ret ?_
    exact ⟨.inl rfl, ret1v (p := p) h Tryd.results85 (r_tmp 0 rfl) [1] _ rfl rfl rfl⟩

def wire_big.b1 (a_0 : Int) (a_1 : Int) (x4 : Int) (x5 : List UInt8) : Option (Flow (List UInt8) (Int × (List UInt8))) := (if (decide (x4 < a_1)) = true then (if (0 : Int) ≤ IntKind.wrap .i64 (8 * (IntKind.wrap .i64 ((IntKind.wrap .i64 (a_1 - 1)) - x4))) then (if (0 : Int) ≤ x4 ∧ x4 < 8 then some (.cont (IntKind.wrap .i64 (x4 + 1), x5.set x4.toNat (u8of (IntKind.wrap .u8 (shr .u64 a_0 (IntKind.wrap .i64 (8 * (IntKind.wrap .i64 ((IntKind.wrap .i64 (a_1 - 1)) - x4))))))))) else none) else none) else some (.brk (x4, x5)))
def wire_big (a_0 : Int) (a_1 : Int) : Option (List UInt8) := ((loopN (fun s : Int × (List UInt8) => wire_big.b1 a_0 a_1 s.1 s.2) ((a_1 - 0 : Int).toNat + 2) (0, (List.replicate 8 0))).bind fun cr => match cr with | .ret r => some r | .next (y18, y19) => (if (0 : Int) ≤ 0 ∧ (0 : Int) ≤ a_1 ∧ a_1 ≤ 8 ∧ (0 : Int) < 8 then (if (a_1 : Int).toNat - (0 : Int).toNat ≤ 8 then some (y19.take ((a_1 : Int).toNat - (0 : Int).toNat)) else none) else none))
theorem wire_big_ok {a_0 : Int} {a_1 : Int} {r : (List UInt8)} (hF : wire_big a_0 a_1 = some r) : CallOk Tryd.prog KG 177 [(intVP .u64 a_0), (intVP .i64 a_1)] [] (fun _ => []) (strVP r) := by
  refine CallOk.intro 25 Tryd.func177 rfl Tryd.ntmps177 (Nat.le_of_ble_eq_true rfl) ?_
  intro c a w hG hn h
  unfold wire_big at hF
  change SatL c [.slot 0 (intVP .u64 a_0), .slot 1 (intVP .i64 a_1)] a w at h
  refine regS mixed hn hG h [0, 1] (ov [] (op_assign (opc (sc _ (by decide)))) .nil) fun _ a w h => ?_
  refine regS mixed hn hG h [0, 1, 501, 500] (ob [] (op_alloc Tryd.zeroValue265 z265) .nil) fun b1 a w h => ?_
  refine wp_seq ?_
  refine regS mixed hn hG h [0, 1, 2, 501, 500, 3] (ov [1] (op_move q0) <| ov [] (op_move qi) .nil) fun _ a w h => ?_
  refine wp_block ?_
  obtain ⟨cr14, hl15, hF⟩ := bind_some hF
  refine wp_mono (wp_loopN (R := (List UInt8)) (S := Int × (List UInt8)) (fun s a w => SatL c [.slot 0 (intVP .u64 a_0), .slot 1 (intVP .i64 a_1), .slot 5 (lpVP (b1 0) 0), .slot 7 (intVP .i64 a_1), .slot 8 (intVP .i64 s.1), .res (lb (b1 0) 265 [bytesCk 8 s.2])] a w) (fun res e a w => match res with | .next s => e = .exit 0 ∧ SatL c [.slot 1 (intVP .i64 a_1), .slot 5 (lpVP (b1 0) 0), .res (lb (b1 0) 265 [bytesCk 8 s.2])] a w | .ret r => e = .ret ∧ RetOk Tryd.prog Tryd.f177 c (strVP r) (fun _ => []) a w) ?_ _ (0, (List.replicate 8 0)) _ _ _ (h.sub [0, 1, 2, 3, 4, 5] (by rfl)) hl15) ?_
  · clear hl15 hF h
    intro s a w o h hF
    obtain ⟨x4, x5⟩ := s
    change wire_big.b1 a_0 a_1 x4 x5 = some o at hF
    unfold wire_big.b1 at hF
    change SatL c [.slot 0 (intVP .u64 a_0), .slot 1 (intVP .i64 a_1), .slot 5 (lpVP (b1 0) 0), .slot 7 (intVP .i64 a_1), .slot 8 (intVP .i64 x4), .res (lb (b1 0) 265 [bytesCk 8 x5])] a w at h
    refine regS mixed hn hG h [0, 1, 2, 3, 4, 500, 5] (ov [4, 3] (op_bin bin_lss q0 q1) .nil) fun _ a w h => ?_
    refine wp_seq ?_
    refine cnd h hF 5 [0, 1, 2, 3, 4, 6] [0, 1, 2, 3, 4, 6] (fun hb11 hF h => ?_) (fun hb11 hF h => ?_)
    · refine wp_skip ?_
      show Code.wp Tryd.prog _ _ a w
      refine wp_seq ?_
      refine wp_block ?_
      refine regS mixed hn hG h [0, 1, 2, 500, 3, 4, 5] (ov [4] (op_move q0) <| ov [500] (op_assign q0) .nil) fun _ a w h => ?_
      obtain ⟨hv12, hF⟩ := ite_some hF
      obtain ⟨hv13, hF⟩ := ite_some hF
      refine reg mixed hn hG h [0, 1, 2, 4, 5, 500] (ov [3] (op_move q0) <| ov [0] (op_move q0) <| ov [1] (op_move q0) <| ov [500] (op_bin bin_sub q0 qi) <| ov [3] (op_move q0) <| ov [501, 500] (op_bin bin_sub q0 q1) <| ov [500] (op_bin bin_mul qi q0) <| ov [505, 500] (op_bin (bin_shr hv12) q0 q1) <| ov [500] (op_convert_int Tryd.underlying27 Tryd.underlying5 q0) <| ov [2, 508] (op_indexAddr_lb Tryd.underlying265 Tryd.sizeOf5 q0 q1 hv13) <| ou [500, 501] 6 (op_store_lbB (i := x4) [] [] Tryd.sizeOf5 q0 q1 rfl hv13) .nil) fun _ a w h => ?_
      show Code.wp Tryd.prog _ _ a w
      refine reg mixed hn hG h [0, 1, 2, 3, 500, 5] (ov [4] (op_bin bin_add q0 qi) <| od [500] 4 (op_move q0) .nil) fun _ a w h => ?_
      obtain rfl := Option.some.inj hF
      exact ⟨rfl, h.sub [0, 1, 2, 3, 4, 5] (by rfl)⟩
    · refine wp_exit ?_
      obtain rfl := Option.some.inj hF
      exact ⟨exit_ne _, rfl, h.sub [1, 2, 5] (by rfl)⟩
  · clear hl15
    intro e a w hq
    cases cr14 with
    | ret r16 =>
      obtain ⟨rfl, hq⟩ := hq
      obtain rfl := Option.some.inj hF
      exact ⟨.inl rfl, hq⟩
    | next s17 =>
      obtain ⟨y18, y19⟩ := s17
      obtain ⟨rfl, h⟩ := hq
      change SatL c [.slot 1 (intVP .i64 a_1), .slot 5 (lpVP (b1 0) 0), .res (lb (b1 0) 265 [bytesCk 8 y19])] a w at h
      refine inBlock_at ?_
      show Code.wp Tryd.prog _ _ a w
      obtain ⟨hv20, hF⟩ := ite_some hF
      obtain ⟨hv21, hF⟩ := ite_some hF
      refine regS mixed hn hG h [500] (ov [0] (op_move q0) <| ov [1, 500] (op_slice_lb (a := 0) (b := a_1) Tryd.underlying265 Tryd.sizeOf5 q0 rfl ⟨_, q1⟩ hv20) <| ov [500, 2] (op_str_lsl [] [] 1 Tryd.underlying259 Tryd.underlying5 Tryd.underlying9 q0 rfl rfl hv21 (by decide)) <| ov [500] (op_assign q0) .nil) fun _ a w h => ?_
      refine wp_ret ?_
      obtain rfl := Option.some.inj hF
      exact ⟨.inl rfl, ret1 h Tryd.results177 (r_tmp 0 rfl) [] [] rfl rfl rfl⟩

def wire_Word (a_0 : Int) : Option (List UInt8) := ((wire_big (IntKind.wrap .u64 a_0) 4).bind fun r1 => some r1)
theorem wire_Word_ok {a_0 : Int} {r : (List UInt8)} (hF : wire_Word a_0 = some r) : CallOk Tryd.prog KG 122 [(intVP .u32 a_0)] [] (fun _ => []) (strVP r) := by
  refine CallOk.intro 6 Tryd.func122 rfl Tryd.ntmps122 (Nat.le_of_ble_eq_true rfl) ?_
  intro c a w hG hn h
  unfold wire_Word at hF
  change SatL c [.slot 0 (intVP .u32 a_0)] a w at h
  refine regS mixed hn hG h [0] (ov [] (op_assign (opc (sc _ (by decide)))) .nil) fun _ a w h => ?_
  obtain ⟨r1, hr1, hF⟩ := bind_some hF
  refine regS mixed hn hG h [500] (ov [0] (op_move q0) <| ov [500] (op_convert_int Tryd.underlying22 Tryd.underlying27 q0) <| oc [500] [] Tryd.call177 (wire_big_ok hr1) ⟨q0, qi, trivial⟩ <| ov [500] (op_assign q0) .nil) fun _ a w h => ?_
  refine wp_ret ?_
  obtain rfl := Option.some.inj hF
  exact ⟨.inl rfl, ret1 h Tryd.results122 (r_tmp 0 rfl) [] [] rfl rfl rfl⟩

def wire_Text (a_0 : List UInt8) : Option (List UInt8) := ((wire_Word (IntKind.wrap .u32 (a_0.length : Int))).bind fun r1 => (if r1.length + a_0.length ≤ mxl then some (r1 ++ a_0) else none))
theorem wire_Text_ok {a_0 : List UInt8} {r : (List UInt8)} (hF : wire_Text a_0 = some r) : CallOk Tryd.prog KG 197 [(strVP a_0)] [] (fun _ => []) (strVP r) := by
  refine CallOk.intro 9 Tryd.func197 rfl Tryd.ntmps197 (Nat.le_of_ble_eq_true rfl) ?_
  intro c a w hG hn h
  unfold wire_Text at hF
  change SatL c [.slot 0 (strVP a_0)] a w at h
  refine regS mixed hn hG h [0] (ov [] (op_assign (opc (sc _ (by decide)))) .nil) fun _ a w h => ?_
  obtain ⟨r1, hr1, hF⟩ := bind_some hF
  obtain ⟨hv2, hF⟩ := ite_some hF
  refine regS mixed hn hG h [500] (ov [0] (op_move q0) <| ov [500] (op_len_str Tryd.underlying9 q0) <| ov [500] (op_convert_int Tryd.underlying3 Tryd.underlying22 q0) <| oc [500] [] Tryd.call122 (wire_Word_ok hr1) ⟨q0, trivial⟩ <| ov [0] (op_move q0) <| ov [501, 500] (op_bin (bin_sadd hv2) q0 q1) <| ov [500] (op_assign q0) .nil) fun _ a w h => ?_
  refine wp_ret ?_
  obtain rfl := Option.some.inj hF
  exact ⟨.inl rfl, ret1 h Tryd.results197 (r_tmp 0 rfl) [] [] rfl rfl rfl⟩

def strings_Builder_WriteString (L_0 : O_Bld) (a_1 : List UInt8) : Option (Int × Value × O_Bld) := (if L_0.f_buf.length + a_1.length ≤ mxl ∧ (L_0.f_buf.length + a_1.length) * 1 ≤ 140737488355328 then some ((a_1.length : Int), Value.nilIface, ⟨L_0.f_buf ++ a_1⟩) else none)
theorem strings_Builder_WriteString_ok {p_0 : Value} {L_0 : O_Bld} {a_1 : List UInt8} {r : Int × Value × O_Bld} (hF : strings_Builder_WriteString L_0 a_1 = some r) : CallOk Tryd.prog KG 212 [(eqVP p_0), (strVP a_1)] [(Bld_e p_0 (some L_0))] (fun _ => [Bld_e p_0 (some r.2.2)]) (tupVP [(intVP .i64 r.1), (eqVP r.2.1)]) := by
  refine CallOk.intro 19 Tryd.func212 rfl Tryd.ntmps212 (Nat.le_of_ble_eq_true rfl) ?_
  intro c a w hG hn h
  unfold strings_Builder_WriteString at hF
  change SatL c [.slot 0 (eqVP p_0), .slot 1 (strVP a_1), .res (Bld_e p_0 (some L_0))] a w at h
  obtain ⟨h_0_1, h⟩ := h.ex 2 rfl
  change SatL c [.slot 0 (eqVP p_0), .slot 1 (strVP a_1), .res (Bld_o p_0 h_0_1 (some L_0))] a w at h
  have hp := h.isp 2 rfl (fun Φ f w q => Bld_lp Φ f w q)
  replace h := h.slotc 0 rfl (V' := lpVP p_0 0) (fun _ _ h => eq_lp h hp)
  replace h := h.sep (R := lb p_0 298 [one (selfVP p_0), one (eqVP h_0_1)]) (S := (acc h_0_1 5 1 bC L_0.f_buf)) 2 rfl
  replace h := h.sub [0, 1, 2, 3] (by rfl)
  change SatL c [.slot 0 (lpVP p_0 0), .slot 1 (strVP a_1), .res (lb p_0 298 [one (selfVP p_0), one (eqVP h_0_1)]), .res (acc h_0_1 5 1 bC L_0.f_buf)] a w at h
  refine regS mixed hn hG h [0, 1, 2, 3] (ov [] (op_assign qi) <| ov [] (op_assign (opc (ec _))) .nil) fun _ a w h => ?_
  refine regS mixed hn hG h [0, 1, 3, 500] (ov [0] (op_move q0) <| oc [500] [2] Tryd.call228 copyCheck_ok ⟨(lp_eqo 0 rfl), trivial⟩ .nil) fun _ a w h => ?_
  obtain ⟨hv1, hF⟩ := ite_some hF
  refine regS mixed hn hG h [1, 500, 503] (ov [0] (op_move q0) <| ov [0] (op_move q0) <| ov [500] (op_nilCheck q0 (ptr_lp _ _)) <| ov [500] (op_fieldAddr_lbm (p := p_0) (n := 1) 0 1 Tryd.underlying298 rfl Tryd.sizeOf259 (by decide) q0 rfl) <| ov [500, 3] (op_load_lb1 [one (selfVP p_0)] [] 1 Tryd.isAgg259 q0 rfl rfl) <| ov [1] (op_move q0) <| og [501, 500] [2] [.slot 14 6 100000 (fun v1_ _ => (eqVP v1_)), .res 6 100000 (fun v1_ _ => (acc (v1_) 5 1 bC (L_0.f_buf ++ a_1)))] (GOk.plain (op_append_str Tryd.underlying259 Tryd.underlying9 Tryd.type5 rfl rfl rfl rfl q0 q1 hv1) rfl) <| ov [507] (op_nilCheck q0 (ptr_lp _ _)) <| ov [500] (op_fieldAddr_lbm (p := p_0) (n := 1) 0 1 Tryd.underlying298 rfl Tryd.sizeOf259 (by decide) q0 rfl) <| og [500, 503, 502] [3] [.res 6 100000 (fun v1_ _ => (lb p_0 298 [one (selfVP p_0), one (eqVP (v1_))]))] (fun {β} => (GOk.plain (op_store_lb [one (selfVP p_0)] [one (eqVP h_0_1)] [] [one (eqVP ((β 6)))] Tryd.sizeOf259 q0 (opone 1 2 rfl rfl acc_one) (cells_h _) rfl rfl rfl) rfl)) .nil) fun b2 a w h => ?_
  refine regS mixed hn hG h [501, 500, 1, 2] (ov [0] (op_move q0) <| ov [500] (op_len_str Tryd.underlying9 q0) <| ov [500] (op_assign q0) <| ov [] (op_assign (opc (ec _))) .nil) fun _ a w h => ?_
  refine wp_ret ?_
  replace h := h.unsep 2 3 rfl rfl (by decide)
  replace h := h.conv 2 rfl (R' := Bld_e p_0 (some ⟨L_0.f_buf ++ a_1⟩)) (Bld_packo (v1 := (b2 6)) (o := (some ⟨L_0.f_buf ++ a_1⟩)))
  replace h := h.sub [0, 1, 2] (by rfl)
  change SatL c [.slot 4 (intVP .i64 (a_1.length : Int)), .slot 5 (eqVP Value.nilIface), .res (Bld_e p_0 (some ⟨L_0.f_buf ++ a_1⟩))] a w at h
  obtain rfl := Option.some.inj hF
  exact ⟨.inl rfl, retn h (rs := [.tmp 4, .tmp 5]) (Vs := [(intVP .i64 (a_1.length : Int)), (eqVP Value.nilIface)]) Tryd.results212 (by decide) ⟨(r_tmp 0 rfl), (r_tmp 1 rfl), trivial⟩ [2] [(Bld_e p_0 (some ⟨L_0.f_buf ++ a_1⟩))] rfl rfl rfl⟩

def strings_Builder_String (L_0 : O_Bld) : Option (List UInt8) := (if L_0.f_buf ≠ [] then some L_0.f_buf else none)
theorem strings_Builder_String_ok {p_0 : Value} {L_0 : O_Bld} {r : (List UInt8)} (hF : strings_Builder_String L_0 = some r) : CallOk Tryd.prog KG 214 [(eqVP p_0)] [(Bld_e p_0 (some L_0))] (fun _ => []) (strVP r) := by
  refine CallOk.intro 14 Tryd.func214 rfl Tryd.ntmps214 (Nat.le_of_ble_eq_true rfl) ?_
  intro c a w hG hn h
  unfold strings_Builder_String at hF
  change SatL c [.slot 0 (eqVP p_0), .res (Bld_e p_0 (some L_0))] a w at h
  obtain ⟨h_0_1, h⟩ := h.ex 1 rfl
  change SatL c [.slot 0 (eqVP p_0), .res (Bld_o p_0 h_0_1 (some L_0))] a w at h
  have hp := h.isp 1 rfl (fun Φ f w q => Bld_lp Φ f w q)
  replace h := h.slotc 0 rfl (V' := lpVP p_0 0) (fun _ _ h => eq_lp h hp)
  replace h := h.sep (R := lb p_0 298 [one (selfVP p_0), one (eqVP h_0_1)]) (S := (acc h_0_1 5 1 bC L_0.f_buf)) 1 rfl
  replace h := h.sub [0, 1, 2] (by rfl)
  change SatL c [.slot 0 (lpVP p_0 0), .res (lb p_0 298 [one (selfVP p_0), one (eqVP h_0_1)]), .res (acc h_0_1 5 1 bC L_0.f_buf)] a w at h
  refine regS mixed hn hG h [0, 1, 2] (ov [] (op_assign (opc (sc _ (by decide)))) .nil) fun _ a w h => ?_
  obtain ⟨hv1, hF⟩ := ite_some hF
  refine regS mixed hn hG h [500, 1] (ov [0] (op_move q0) <| ov [500] (op_nilCheck q0 (ptr_lp _ _)) <| ov [500] (op_fieldAddr_lbm (p := p_0) (n := 1) 0 1 Tryd.underlying298 rfl Tryd.sizeOf259 (by decide) q0 rfl) <| ov [500, 1] (op_load_lb1 [one (selfVP p_0)] [] 1 Tryd.isAgg259 q0 rfl rfl) <| ov [500, 2] (op_usd 1 q0 rfl hv1) <| ov [0] (op_move q0) <| ov [500] (op_nilCheck q0 (ptr_lp _ _)) <| ov [500] (op_fieldAddr_lbm (p := p_0) (n := 1) 0 1 Tryd.underlying298 rfl Tryd.sizeOf259 (by decide) q0 rfl) <| ov [500, 1] (op_load_lb1 [one (selfVP p_0)] [] 1 Tryd.isAgg259 q0 rfl rfl) <| ov [500, 2] (op_len_sl Tryd.underlying259 (opacc 0 1 rfl rfl)) <| oe [505, 500] [2] (GOk.plain (op_ustr Tryd.underlying324 (by kernel_rfl) q0 q1 hv1) rfl) <| ov [500] (op_assign q0) .nil) fun _ a w h => ?_
  refine wp_ret ?_
  obtain rfl := Option.some.inj hF
  exact ⟨.inl rfl, ret1 h Tryd.results214 (r_tmp 0 rfl) [] [] rfl rfl rfl⟩

def strings_Builder_WriteByte (L_0 : O_Bld) (a_1 : Int) : Option (Value × O_Bld) := (if L_0.f_buf.length + [u8of a_1].length ≤ mxl ∧ (L_0.f_buf.length + [u8of a_1].length) * 1 ≤ 140737488355328 then some (Value.nilIface, ⟨L_0.f_buf ++ [u8of a_1]⟩) else none)
theorem strings_Builder_WriteByte_ok {p_0 : Value} {L_0 : O_Bld} {a_1 : Int} {r : Value × O_Bld} (hF : strings_Builder_WriteByte L_0 a_1 = some r) : CallOk Tryd.prog KG 218 [(eqVP p_0), (intVP .u8 a_1)] [(Bld_e p_0 (some L_0))] (fun _ => [Bld_e p_0 (some r.2)]) (eqVP r.1) := by
  refine CallOk.intro 17 Tryd.func218 rfl Tryd.ntmps218 (Nat.le_of_ble_eq_true rfl) ?_
  intro c a w hG hn h
  unfold strings_Builder_WriteByte at hF
  change SatL c [.slot 0 (eqVP p_0), .slot 1 (intVP .u8 a_1), .res (Bld_e p_0 (some L_0))] a w at h
  obtain ⟨h_0_1, h⟩ := h.ex 2 rfl
  change SatL c [.slot 0 (eqVP p_0), .slot 1 (intVP .u8 a_1), .res (Bld_o p_0 h_0_1 (some L_0))] a w at h
  have hp := h.isp 2 rfl (fun Φ f w q => Bld_lp Φ f w q)
  replace h := h.slotc 0 rfl (V' := lpVP p_0 0) (fun _ _ h => eq_lp h hp)
  replace h := h.sep (R := lb p_0 298 [one (selfVP p_0), one (eqVP h_0_1)]) (S := (acc h_0_1 5 1 bC L_0.f_buf)) 2 rfl
  replace h := h.sub [0, 1, 2, 3] (by rfl)
  change SatL c [.slot 0 (lpVP p_0 0), .slot 1 (intVP .u8 a_1), .res (lb p_0 298 [one (selfVP p_0), one (eqVP h_0_1)]), .res (acc h_0_1 5 1 bC L_0.f_buf)] a w at h
  refine regS mixed hn hG h [0, 1, 2, 3] (ov [] (op_assign (opc (ec _))) .nil) fun _ a w h => ?_
  refine regS mixed hn hG h [0, 1, 3, 500] (ov [0] (op_move q0) <| oc [500] [2] Tryd.call228 copyCheck_ok ⟨(lp_eqo 0 rfl), trivial⟩ .nil) fun _ a w h => ?_
  obtain ⟨hv1, hF⟩ := ite_some hF
  refine regS mixed hn hG h [500, 503] (ov [0] (op_move q0) <| ov [0] (op_move q0) <| ov [500] (op_nilCheck q0 (ptr_lp _ _)) <| ov [500] (op_fieldAddr_lbm (p := p_0) (n := 1) 0 1 Tryd.underlying298 rfl Tryd.sizeOf259 (by decide) q0 rfl) <| ov [500, 3] (op_load_lb1 [one (selfVP p_0)] [] 1 Tryd.isAgg259 q0 rfl rfl) <| ov [1] (op_move q0) <| ov [500] (op_lit (xs := [.tmp 12]) (ys := [u8of a_1]) _ rfl Tryd.underlying259 Tryd.sizeOf5 Tryd.zeroValue5 rfl rfl (by decide) (by decide) ⟨⟨_, q0, (cells_u8 _)⟩, trivial⟩ lens_bC) <| og [502, 500] [2] [.slot 14 7 100000 (fun v1_ _ => (eqVP v1_)), .res 7 100000 (fun v1_ _ => (acc (v1_) 5 1 bC (L_0.f_buf ++ [u8of a_1])))] (GOk.plain (op_append (i := Tryd.t5) Tryd.underlying259 Tryd.type5 rfl lens_bC (by decide) rfl q0 q1 hv1) rfl) <| ov [508] (op_nilCheck q0 (ptr_lp _ _)) <| ov [500] (op_fieldAddr_lbm (p := p_0) (n := 1) 0 1 Tryd.underlying298 rfl Tryd.sizeOf259 (by decide) q0 rfl) <| og [500, 503, 502] [3] [.res 7 100000 (fun v1_ _ => (lb p_0 298 [one (selfVP p_0), one (eqVP (v1_))]))] (fun {β} => (GOk.plain (op_store_lb [one (selfVP p_0)] [one (eqVP h_0_1)] [] [one (eqVP ((β 7)))] Tryd.sizeOf259 q0 (opone 1 2 rfl rfl acc_one) (cells_h _) rfl rfl rfl) rfl)) .nil) fun b2 a w h => ?_
  refine regS mixed hn hG h [500, 0, 1] (ov [] (op_assign (opc (ec _))) .nil) fun _ a w h => ?_
  refine wp_ret ?_
  replace h := h.unsep 1 2 rfl rfl (by decide)
  replace h := h.conv 1 rfl (R' := Bld_e p_0 (some ⟨L_0.f_buf ++ [u8of a_1]⟩)) (Bld_packo (v1 := (b2 7)) (o := (some ⟨L_0.f_buf ++ [u8of a_1]⟩)))
  replace h := h.sub [0, 1] (by rfl)
  change SatL c [.slot 4 (eqVP Value.nilIface), .res (Bld_e p_0 (some ⟨L_0.f_buf ++ [u8of a_1]⟩))] a w at h
  obtain rfl := Option.some.inj hF
  exact ⟨.inl rfl, ret1 h Tryd.results218 (r_tmp 0 rfl) [1] [(Bld_e p_0 (some ⟨L_0.f_buf ++ [u8of a_1]⟩))] rfl rfl rfl⟩

def digest_input.b1 (a_1 : List (List UInt8)) (x7 : Int) (x8 : O_Bld) : Option (Flow (List UInt8) (Int × O_Bld)) := (if (decide (x7 < (a_1.length : Int))) = true then (if (0 : Int) ≤ x7 ∧ x7 < a_1.length then ((wire_Text (a_1.getD x7.toNat default)).bind fun r17 => ((strings_Builder_WriteString x8 r17).bind fun r18 => some (.cont (IntKind.wrap .i64 (x7 + 1), r18.2.2)))) else none) else some (.brk (x7, x8)))
def digest_input (a_0 : Int) (a_1 : List (List UInt8)) : Option (List UInt8) := ((strings_Builder_WriteByte ⟨[]⟩ a_0).bind fun r2 => ((loopN (fun s : Int × O_Bld => digest_input.b1 a_1 s.1 s.2) (((a_1.length : Int) - 0 : Int).toNat + 2) (0, r2.2)).bind fun cr => match cr with | .ret r => some r | .next (y23, y24) => ((strings_Builder_String y24).bind fun r25 => some r25)))
theorem digest_input_ok {a_0 : Int} {a_1 : List (List UInt8)} {r : (List UInt8)} (hF : digest_input a_0 a_1 = some r) : CallOk Tryd.prog KG 189 [(intVP .u8 a_0), (slVP strC a_1)] [] (fun _ => []) (strVP r) := by
  refine CallOk.intro 21 Tryd.func189 rfl Tryd.ntmps189 (Nat.le_of_ble_eq_true rfl) ?_
  intro c a w hG hn h
  unfold digest_input at hF
  change SatL c [.slot 0 (intVP .u8 a_0), .slot 1 (slVP strC a_1)] a w at h
  refine regS mixed hn hG h [0, 1] (ov [] (op_assign (opc (sc _ (by decide)))) .nil) fun _ a w h => ?_
  refine regS mixed hn hG h [0, 1, 501, 500] (ob [] (op_alloc Tryd.zeroValue298 zo298) .nil) fun b1 a w h => ?_
  replace h := h.conv 3 rfl Bld_new
  replace h := h.slotc 2 rfl (fun _ _ h => lp_eqv h)
  replace h := h.sub [0, 1, 2, 3] (by rfl)
  change SatL c [.slot 0 (intVP .u8 a_0), .slot 1 (slVP strC a_1), .slot 5 (eqVP (b1 0)), .res (Bld_e (b1 0) (some ⟨[]⟩))] a w at h
  obtain ⟨r2, hr2, hF⟩ := bind_some hF
  refine regS mixed hn hG h [1, 2, 500] (ov [0] (op_move q0) <| oc [2, 500] [3] Tryd.call218 (strings_Builder_WriteByte_ok hr2) ⟨q0, q1, trivial⟩ .nil) fun _ a w h => ?_
  refine wp_seq ?_
  refine regS mixed hn hG h [1, 502, 501, 500, 2] (ov [0] (op_move q0) <| ov [500] (op_len_sl Tryd.underlying151 q0) <| ov [] (op_move qi) .nil) fun _ a w h => ?_
  refine wp_block ?_
  obtain ⟨cr19, hl20, hF⟩ := bind_some hF
  refine wp_mono (wp_loopN (R := (List UInt8)) (S := Int × O_Bld) (fun s a w => SatL c [.slot 5 (eqVP (b1 0)), .slot 10 (slVP strC a_1), .slot 11 (intVP .i64 (a_1.length : Int)), .slot 12 (intVP .i64 s.1), .res (Bld_e (b1 0) (some s.2))] a w) (fun res e a w => match res with | .next s => e = .exit 0 ∧ SatL c [.slot 5 (eqVP (b1 0)), .res (Bld_e (b1 0) (some s.2))] a w | .ret r => e = .ret ∧ RetOk Tryd.prog Tryd.f189 c (strVP r) (fun _ => []) a w) ?_ _ (0, r2.2) _ _ _ (h.sub [0, 1, 2, 3, 4] (by rfl)) hl20) ?_
  · clear hl20 hF h
    intro s a w o h hF
    obtain ⟨x7, x8⟩ := s
    change digest_input.b1 a_1 x7 x8 = some o at hF
    unfold digest_input.b1 at hF
    change SatL c [.slot 5 (eqVP (b1 0)), .slot 10 (slVP strC a_1), .slot 11 (intVP .i64 (a_1.length : Int)), .slot 12 (intVP .i64 x7), .res (Bld_e (b1 0) (some x8))] a w at h
    refine regS mixed hn hG h [0, 1, 2, 3, 500, 4] (ov [3, 2] (op_bin bin_lss q0 q1) .nil) fun _ a w h => ?_
    refine wp_seq ?_
    refine cnd h hF 4 [0, 1, 2, 3, 5] [0, 1, 2, 3, 5] (fun hb15 hF h => ?_) (fun hb15 hF h => ?_)
    · refine wp_skip ?_
      show Code.wp Tryd.prog _ _ a w
      refine wp_seq ?_
      refine wp_block ?_
      obtain ⟨hv16, hF⟩ := ite_some hF
      refine regS mixed hn hG h [0, 500, 1, 2, 3, 4] (ov [1, 3] (op_indexAddr_sl Tryd.underlying151 Tryd.sizeOf9 lens_strC q0 q1 hv16) <| ov [500] (op_load_pp1 [] Tryd.isAgg9 q0) <| ov [500] (op_assign q0) .nil) fun _ a w h => ?_
      obtain ⟨r17, hr17, hF⟩ := bind_some hF
      obtain ⟨r18, hr18, hF⟩ := bind_some hF
      refine reg mixed hn hG h [0, 2, 3, 4, 500] (ov [1] (op_move q0) <| oc [500] [] Tryd.call197 (wire_Text_ok hr17) ⟨q0, trivial⟩ <| oc [0, 500] [5] Tryd.call212 (strings_Builder_WriteString_ok hr18) ⟨q0, q1, trivial⟩ .nil) fun _ a w h => ?_
      show Code.wp Tryd.prog _ _ a w
      refine reg mixed hn hG h [0, 1, 2, 500, 4] (ov [3] (op_bin bin_add q0 qi) <| od [500] 3 (op_move q0) .nil) fun _ a w h => ?_
      obtain rfl := Option.some.inj hF
      exact ⟨rfl, h.sub [0, 1, 2, 3, 4] (by rfl)⟩
    · refine wp_exit ?_
      obtain rfl := Option.some.inj hF
      exact ⟨exit_ne _, rfl, h.sub [0, 4] (by rfl)⟩
  · clear hl20
    intro e a w hq
    cases cr19 with
    | ret r21 =>
      obtain ⟨rfl, hq⟩ := hq
      obtain rfl := Option.some.inj hF
      exact ⟨.inl rfl, hq⟩
    | next s22 =>
      obtain ⟨y23, y24⟩ := s22
      obtain ⟨rfl, h⟩ := hq
      change SatL c [.slot 5 (eqVP (b1 0)), .res (Bld_e (b1 0) (some y24))] a w at h
      refine inBlock_at ?_
      show Code.wp Tryd.prog _ _ a w
      obtain ⟨r25, hr25, hF⟩ := bind_some hF
      refine regS mixed hn hG h [500] (oc [0] [1] Tryd.call214 (strings_Builder_String_ok hr25) ⟨q0, trivial⟩ <| ov [500] (op_assign q0) .nil) fun _ a w h => ?_
      refine wp_ret ?_
      obtain rfl := Option.some.inj hF
      exact ⟨.inl rfl, ret1 h Tryd.results189 (r_tmp 0 rfl) [] [] rfl rfl rfl⟩

def sha_Begin : Option S_sha_State := some (S_sha_State.mk gFirst [] (0 : Int))
theorem sha_Begin_ok {r : S_sha_State} (hF : sha_Begin = some r) : CallOk Tryd.prog KG 219 [] [] (fun _ => []) (aggVP [intsCk .u32 8 r.f_Words, one (strVP r.f_Rest), one (intVP .u64 r.f_Count)]) := by
  refine CallOk.intro 3 Tryd.func219 rfl Tryd.ntmps219 (Nat.le_of_ble_eq_true rfl) ?_
  intro c a w hG hn h
  unfold sha_Begin at hF
  change SatL c [] a w at h
  refine regS mixed hn hG h [501, 500] (ob [] (op_alloc Tryd.zeroValue311 z311) .nil) fun b1 a w h => ?_
  refine regS mixed hn hG h [0, 500] (ov [] (op_load_pp [intsCk .u32 8 gFirst] [] Tryd.isAgg280 Tryd.sizeOf280 (opg (fun Φ h => h.1)) rfl) <| ov [500] (op_build [(0, .tmp 1)] rfl bu311 z311 ⟨[], [intsCk .u32 8 (List.replicate 8 0)], [one (strVP []), one (intVP .u64 (0 : Int))], [intsCk .u32 8 gFirst], _, rfl, rfl, rfl, q0, (cells_agg _), rfl⟩) <| ou [0, 500] 1 (op_store_w Tryd.sizeOf311 q0 q1 (cells_agg _)) .nil) fun _ a w h => ?_
  refine wp_ret ?_
  obtain rfl := Option.some.inj hF
  exact ⟨.inl rfl, ret1 h Tryd.results219 (r_cell 0 1 rfl rfl Tryd.isAgg311 Tryd.sizeOf311 rfl) [] [] rfl rfl rfl⟩

def bits_RotateLeft32 (a_0 : Int) (a_1 : Int) : Option Int := some (bits .or .u32 (shl .u32 a_0 (bits .and .u64 (IntKind.wrap .u64 a_1) 31)) (shr .u32 a_0 (IntKind.wrap .u64 (32 - (bits .and .u64 (IntKind.wrap .u64 a_1) 31)))))
theorem bits_RotateLeft32_ok {a_0 : Int} {a_1 : Int} {r : Int} (hF : bits_RotateLeft32 a_0 a_1 = some r) : CallOk Tryd.prog KG 238 [(intVP .u32 a_0), (intVP .i64 a_1)] [] (fun _ => []) (intVP .u32 r) := by
  refine CallOk.intro 17 Tryd.func238 rfl Tryd.ntmps238 (Nat.le_of_ble_eq_true rfl) ?_
  intro c a w hG hn h
  unfold bits_RotateLeft32 at hF
  change SatL c [.slot 0 (intVP .u32 a_0), .slot 1 (intVP .i64 a_1)] a w at h
  refine regS mixed hn hG h [0, 1] (ov [] (op_assign qi) .nil) fun _ a w h => ?_
  refine regS mixed hn hG h [0, 500] (ov [1] (op_move q0) <| ov [500] (op_convert_int Tryd.underlying3 Tryd.underlying295 q0) <| ov [500] (op_bin bin_and q0 qi) <| ov [500] (op_assign q0) .nil) fun _ a w h => ?_
  refine regS mixed hn hG h [500] (ov [0] (op_move q0) <| ov [1] (op_move q0) <| ov [501, 500] (op_bin (bin_shlu rfl) q0 q1) <| ov [0] (op_move q0) <| ov [1] (op_move q0) <| ov [500] (op_bin bin_sub qi q0) <| ov [502, 500] (op_bin (bin_shru rfl) q0 q1) <| ov [504, 500] (op_bin bin_or q0 q1) <| ov [500] (op_assign q0) .nil) fun _ a w h => ?_
  refine wp_ret ?_
  obtain rfl := Option.some.inj hF
  exact ⟨.inl rfl, ret1 h Tryd.results238 (r_tmp 0 rfl) [] [] rfl rfl rfl⟩

def sha_schedule.b1 (a_0 : List UInt8) (x18 : Int) (x19 : List Int) : Option (Flow (List Int) (Int × (List Int))) := (if (decide (x18 < (64 : Int))) = true then (if (decide (x18 < (16 : Int))) = true then (if (0 : Int) ≤ IntKind.wrap .i64 (4 * x18) ∧ IntKind.wrap .i64 (4 * x18) ≤ IntKind.wrap .i64 ((IntKind.wrap .i64 (4 * x18)) + 4) ∧ IntKind.wrap .i64 ((IntKind.wrap .i64 (4 * x18)) + 4) ≤ a_0.length then (if (0 : Int) ≤ 0 ∧ (0 : Int) < ((a_0.take (IntKind.wrap .i64 ((IntKind.wrap .i64 (4 * x18)) + 4)).toNat).drop (IntKind.wrap .i64 (4 * x18)).toNat).length then (if (0 : Int) ≤ 1 ∧ (1 : Int) < ((a_0.take (IntKind.wrap .i64 ((IntKind.wrap .i64 (4 * x18)) + 4)).toNat).drop (IntKind.wrap .i64 (4 * x18)).toNat).length then (if (0 : Int) ≤ 2 ∧ (2 : Int) < ((a_0.take (IntKind.wrap .i64 ((IntKind.wrap .i64 (4 * x18)) + 4)).toNat).drop (IntKind.wrap .i64 (4 * x18)).toNat).length then (if (0 : Int) ≤ 3 ∧ (3 : Int) < ((a_0.take (IntKind.wrap .i64 ((IntKind.wrap .i64 (4 * x18)) + 4)).toNat).drop (IntKind.wrap .i64 (4 * x18)).toNat).length then (if (0 : Int) ≤ x18 ∧ x18 < 64 then some (.cont (IntKind.wrap .i64 (x18 + 1), x19.set x18.toNat (bits .or .u32 (bits .or .u32 (bits .or .u32 (shl .u32 (IntKind.wrap .u32 ((((a_0.take (IntKind.wrap .i64 ((IntKind.wrap .i64 (4 * x18)) + 4)).toNat).drop (IntKind.wrap .i64 (4 * x18)).toNat).getD (0 : Int).toNat 0).toNat)) 24) (shl .u32 (IntKind.wrap .u32 ((((a_0.take (IntKind.wrap .i64 ((IntKind.wrap .i64 (4 * x18)) + 4)).toNat).drop (IntKind.wrap .i64 (4 * x18)).toNat).getD (1 : Int).toNat 0).toNat)) 16)) (shl .u32 (IntKind.wrap .u32 ((((a_0.take (IntKind.wrap .i64 ((IntKind.wrap .i64 (4 * x18)) + 4)).toNat).drop (IntKind.wrap .i64 (4 * x18)).toNat).getD (2 : Int).toNat 0).toNat)) 8)) (IntKind.wrap .u32 ((((a_0.take (IntKind.wrap .i64 ((IntKind.wrap .i64 (4 * x18)) + 4)).toNat).drop (IntKind.wrap .i64 (4 * x18)).toNat).getD (3 : Int).toNat 0).toNat))))) else none) else none) else none) else none) else none) else none) else (if (0 : Int) ≤ IntKind.wrap .i64 (x18 - 15) ∧ IntKind.wrap .i64 (x18 - 15) < 64 then (if (0 : Int) ≤ IntKind.wrap .i64 (x18 - 2) ∧ IntKind.wrap .i64 (x18 - 2) < 64 then ((bits_RotateLeft32 (x19.getD (IntKind.wrap .i64 (x18 - 15)).toNat 0) (-7 : Int)).bind fun r49 => ((bits_RotateLeft32 (x19.getD (IntKind.wrap .i64 (x18 - 15)).toNat 0) (-18 : Int)).bind fun r50 => ((bits_RotateLeft32 (x19.getD (IntKind.wrap .i64 (x18 - 2)).toNat 0) (-17 : Int)).bind fun r51 => ((bits_RotateLeft32 (x19.getD (IntKind.wrap .i64 (x18 - 2)).toNat 0) (-19 : Int)).bind fun r52 => (if (0 : Int) ≤ IntKind.wrap .i64 (x18 - 16) ∧ IntKind.wrap .i64 (x18 - 16) < 64 then (if (0 : Int) ≤ IntKind.wrap .i64 (x18 - 7) ∧ IntKind.wrap .i64 (x18 - 7) < 64 then (if (0 : Int) ≤ x18 ∧ x18 < 64 then some (.cont (IntKind.wrap .i64 (x18 + 1), x19.set x18.toNat (IntKind.wrap .u32 ((IntKind.wrap .u32 ((IntKind.wrap .u32 ((x19.getD (IntKind.wrap .i64 (x18 - 16)).toNat 0) + (bits .xor .u32 (bits .xor .u32 r49 r50) (shr .u32 (x19.getD (IntKind.wrap .i64 (x18 - 15)).toNat 0) 3)))) + (x19.getD (IntKind.wrap .i64 (x18 - 7)).toNat 0))) + (bits .xor .u32 (bits .xor .u32 r51 r52) (shr .u32 (x19.getD (IntKind.wrap .i64 (x18 - 2)).toNat 0) 10)))))) else none) else none) else none))))) else none) else none)) else some (.brk (x18, x19)))
def sha_schedule (a_0 : List UInt8) : Option (List Int) := ((loopN (fun s : Int × (List Int) => sha_schedule.b1 a_0 s.1 s.2) ((64 - 0 : Int).toNat + 2) (0, (List.replicate 64 0))).bind fun cr => match cr with | .ret r => some r | .next (y60, y61) => some y61)
theorem sha_schedule_ok {a_0 : List UInt8} {r : (List Int)} (hF : sha_schedule a_0 = some r) : CallOk Tryd.prog KG 237 [(strVP a_0)] [] (fun _ => []) (aggVP [intsCk .u32 64 r]) := by
  refine CallOk.intro 83 Tryd.func237 rfl Tryd.ntmps237 (Nat.le_of_ble_eq_true rfl) ?_
  intro c a w hG hn h
  unfold sha_schedule at hF
  change SatL c [.slot 0 (strVP a_0)] a w at h
  refine regS mixed hn hG h [0, 501, 500] (ob [] (op_alloc Tryd.zeroValue327 z327) .nil) fun b1 a w h => ?_
  refine regS mixed hn hG h [0, 1, 501, 2, 500] (ob [] (op_alloc Tryd.zeroValue327 z327) .nil) fun b2 a w h => ?_
  refine wp_seq ?_
  refine regS mixed hn hG h [0, 1, 2, 500, 3, 4] (ov [] (op_move qi) .nil) fun _ a w h => ?_
  refine wp_block ?_
  obtain ⟨cr56, hl57, hF⟩ := bind_some hF
  refine wp_mono (wp_loopN (R := (List Int)) (S := Int × (List Int)) (fun s a w => SatL c [.slot 0 (strVP a_0), .slot 2 (lpVP (b1 0) 0), .slot 3 (lpVP (b2 0) 0), .slot 10 (intVP .i64 s.1), .res (lb (b1 0) 327 [intsCk .u32 64 (List.replicate 64 0)]), .res (lb (b2 0) 327 [intsCk .u32 64 s.2])] a w) (fun res e a w => match res with | .next s => e = .exit 0 ∧ SatL c [.slot 2 (lpVP (b1 0) 0), .slot 3 (lpVP (b2 0) 0), .res (lb (b1 0) 327 [intsCk .u32 64 (List.replicate 64 0)]), .res (lb (b2 0) 327 [intsCk .u32 64 s.2])] a w | .ret r => e = .ret ∧ RetOk Tryd.prog Tryd.f237 c (aggVP [intsCk .u32 64 r]) (fun _ => []) a w) ?_ _ (0, (List.replicate 64 0)) _ _ _ (h.sub [0, 1, 2, 3, 4, 5] (by rfl)) hl57) ?_
  · clear hl57 hF h
    intro s a w o h hF
    obtain ⟨x18, x19⟩ := s
    change sha_schedule.b1 a_0 x18 x19 = some o at hF
    unfold sha_schedule.b1 at hF
    change SatL c [.slot 0 (strVP a_0), .slot 2 (lpVP (b1 0) 0), .slot 3 (lpVP (b2 0) 0), .slot 10 (intVP .i64 x18), .res (lb (b1 0) 327 [intsCk .u32 64 (List.replicate 64 0)]), .res (lb (b2 0) 327 [intsCk .u32 64 x19])] a w at h
    refine regS mixed hn hG h [0, 1, 2, 3, 500, 4, 5] (ov [3] (op_bin bin_lss q0 qi) .nil) fun _ a w h => ?_
    refine wp_seq ?_
    refine cnd h hF 4 [0, 1, 2, 3, 5, 6] [0, 1, 2, 3, 5, 6] (fun hb39 hF h => ?_) (fun hb39 hF h => ?_)
    · refine wp_skip ?_
      show Code.wp Tryd.prog _ _ a w
      refine wp_seq ?_
      refine wp_block ?_
      refine regS mixed hn hG h [0, 1, 2, 500, 3, 4, 5] (ov [3] (op_move q0) <| ov [500] (op_assign q0) .nil) fun _ a w h => ?_
      refine wp_seq ?_
      refine regS mixed hn hG h [0, 1, 2, 3, 4, 500, 5, 6] (ov [3] (op_move q0) <| ov [500] (op_bin bin_lss q0 qi) .nil) fun _ a w h => ?_
      refine cnd h hF 5 [0, 1, 2, 3, 4, 6, 7] [0, 1, 2, 3, 4, 6, 7] (fun hb40 hF h => ?_) (fun hb40 hF h => ?_)
      · obtain ⟨hv41, hF⟩ := ite_some hF
        refine regS mixed hn hG h [0, 1, 2, 3, 500, 4, 5, 6] (ov [0] (op_move q0) <| ov [3] (op_move q0) <| ov [500] (op_bin bin_mul qi q0) <| ov [3] (op_move q0) <| ov [500] (op_bin bin_mul qi q0) <| ov [500] (op_bin bin_add q0 qi) <| ov [505, 503, 500] (op_slice_str (a := IntKind.wrap .i64 (4 * x18)) (b := IntKind.wrap .i64 ((IntKind.wrap .i64 (4 * x18)) + 4)) Tryd.underlying9 q0 ⟨_, q1⟩ ⟨_, q2⟩ hv41) <| ov [500] (op_assign q0) .nil) fun _ a w h => ?_
        obtain ⟨hv42, hF⟩ := ite_some hF
        obtain ⟨hv43, hF⟩ := ite_some hF
        obtain ⟨hv44, hF⟩ := ite_some hF
        obtain ⟨hv45, hF⟩ := ite_some hF
        obtain ⟨hv46, hF⟩ := ite_some hF
        refine regS mixed hn hG h [0, 1, 2, 5, 6, 500] (ov [3] (op_move q0) <| ov [4] (op_move q0) <| ov [500] (op_index_str Tryd.underlying9 q0 qi hv42) <| ov [500] (op_convert_int Tryd.underlying5 Tryd.underlying22 q0) <| ov [500] (op_bin (bin_shlu rfl) q0 qi) <| ov [4] (op_move q0) <| ov [500] (op_index_str Tryd.underlying9 q0 qi hv43) <| ov [500] (op_convert_int Tryd.underlying5 Tryd.underlying22 q0) <| ov [500] (op_bin (bin_shlu rfl) q0 qi) <| ov [504, 500] (op_bin bin_or q0 q1) <| ov [4] (op_move q0) <| ov [500] (op_index_str Tryd.underlying9 q0 qi hv44) <| ov [500] (op_convert_int Tryd.underlying5 Tryd.underlying22 q0) <| ov [500] (op_bin (bin_shlu rfl) q0 qi) <| ov [504, 500] (op_bin bin_or q0 q1) <| ov [4] (op_move q0) <| ov [500] (op_index_str Tryd.underlying9 q0 qi hv45) <| ov [500] (op_convert_int Tryd.underlying5 Tryd.underlying22 q0) <| ov [503, 500] (op_bin bin_or q0 q1) <| ov [2, 518] (op_indexAddr_lb Tryd.underlying327 Tryd.sizeOf22 q0 q1 hv46) <| ou [500, 501] 7 (op_store_lbI (i := x18) [] [] Tryd.sizeOf22 q0 q1 rfl hv46) .nil) fun _ a w h => ?_
        refine wp_exit ?_
        show Code.wp Tryd.prog _ _ a w
        refine reg mixed hn hG h [0, 1, 2, 500, 4, 5] (ov [3] (op_bin bin_add q0 qi) <| od [500] 3 (op_move q0) .nil) fun _ a w h => ?_
        obtain rfl := Option.some.inj hF
        exact ⟨rfl, h.sub [0, 1, 2, 3, 4, 5] (by rfl)⟩
      · refine wp_skip ?_
        show Code.wp Tryd.prog _ _ a w
        obtain ⟨hv47, hF⟩ := ite_some hF
        obtain ⟨hv48, hF⟩ := ite_some hF
        refine regS mixed hn hG h [0, 1, 2, 3, 501, 500, 4, 5, 6] (ov [3] (op_move q0) <| ov [500] (op_bin bin_sub q0 qi) <| ov [2, 500] (op_indexAddr_lb Tryd.underlying327 Tryd.sizeOf22 q0 q1 hv47) <| ov [500, 6] (op_load_lbI (i := IntKind.wrap .i64 (x18 - 15)) [] [] 1 Tryd.isAgg22 q0 rfl rfl hv47) <| ov [3] (op_move q0) <| ov [500] (op_bin bin_sub q0 qi) <| ov [2, 500] (op_indexAddr_lb Tryd.underlying327 Tryd.sizeOf22 q0 q1 hv48) <| ov [500, 6] (op_load_lbI (i := IntKind.wrap .i64 (x18 - 2)) [] [] 1 Tryd.isAgg22 q0 rfl rfl hv48) <| ov [504] (op_assign q0) <| ov [501] (op_assign q0) .nil) fun _ a w h => ?_
        obtain ⟨r49, hr49, hF⟩ := bind_some hF
        obtain ⟨r50, hr50, hF⟩ := bind_some hF
        refine regS mixed hn hG h [0, 1, 2, 3, 5, 500, 6, 7, 8] (ov [4] (op_move q0) <| oc [500] [] Tryd.call238 (bits_RotateLeft32_ok hr49) ⟨q0, qi, trivial⟩ <| ov [4] (op_move q0) <| oc [500] [] Tryd.call238 (bits_RotateLeft32_ok hr50) ⟨q0, qi, trivial⟩ <| ov [502, 500] (op_bin bin_xor q0 q1) <| ov [4] (op_move q0) <| ov [500] (op_bin (bin_shru rfl) q0 qi) <| ov [502, 500] (op_bin bin_xor q0 q1) <| ov [500] (op_assign q0) .nil) fun _ a w h => ?_
        obtain ⟨r51, hr51, hF⟩ := bind_some hF
        obtain ⟨r52, hr52, hF⟩ := bind_some hF
        refine regS mixed hn hG h [0, 1, 2, 3, 5, 500, 6, 7, 8] (ov [4] (op_move q0) <| oc [500] [] Tryd.call238 (bits_RotateLeft32_ok hr51) ⟨q0, qi, trivial⟩ <| ov [4] (op_move q0) <| oc [500] [] Tryd.call238 (bits_RotateLeft32_ok hr52) ⟨q0, qi, trivial⟩ <| ov [502, 500] (op_bin bin_xor q0 q1) <| ov [4] (op_move q0) <| ov [500] (op_bin (bin_shru rfl) q0 qi) <| ov [502, 500] (op_bin bin_xor q0 q1) <| ov [500] (op_assign q0) .nil) fun _ a w h => ?_
        obtain ⟨hv53, hF⟩ := ite_some hF
        obtain ⟨hv54, hF⟩ := ite_some hF
        obtain ⟨hv55, hF⟩ := ite_some hF
        refine reg mixed hn hG h [0, 1, 2, 6, 7, 500] (ov [3] (op_move q0) <| ov [3] (op_move q0) <| ov [500] (op_bin bin_sub q0 qi) <| ov [2, 500] (op_indexAddr_lb Tryd.underlying327 Tryd.sizeOf22 q0 q1 hv53) <| ov [500, 8] (op_load_lbI (i := IntKind.wrap .i64 (x18 - 16)) [] [] 1 Tryd.isAgg22 q0 rfl rfl hv53) <| ov [4] (op_move q0) <| ov [501, 500] (op_bin bin_add q0 q1) <| ov [3] (op_move q0) <| ov [500] (op_bin bin_sub q0 qi) <| ov [2, 500] (op_indexAddr_lb Tryd.underlying327 Tryd.sizeOf22 q0 q1 hv54) <| ov [500, 8] (op_load_lbI (i := IntKind.wrap .i64 (x18 - 7)) [] [] 1 Tryd.isAgg22 q0 rfl rfl hv54) <| ov [504, 500] (op_bin bin_add q0 q1) <| ov [5] (op_move q0) <| ov [501, 500] (op_bin bin_add q0 q1) <| ov [2, 513] (op_indexAddr_lb Tryd.underlying327 Tryd.sizeOf22 q0 q1 hv55) <| ou [500, 501] 8 (op_store_lbI (i := x18) [] [] Tryd.sizeOf22 q0 q1 rfl hv55) .nil) fun _ a w h => ?_
        show Code.wp Tryd.prog _ _ a w
        refine reg mixed hn hG h [0, 1, 2, 500, 4, 5] (ov [3] (op_bin bin_add q0 qi) <| od [500] 3 (op_move q0) .nil) fun _ a w h => ?_
        obtain rfl := Option.some.inj hF
        exact ⟨rfl, h.sub [0, 1, 2, 3, 4, 5] (by rfl)⟩
    · refine wp_exit ?_
      obtain rfl := Option.some.inj hF
      exact ⟨exit_ne _, rfl, h.sub [1, 2, 4, 5] (by rfl)⟩
  · clear hl57
    intro e a w hq
    cases cr56 with
    | ret r58 =>
      obtain ⟨rfl, hq⟩ := hq
      obtain rfl := Option.some.inj hF
      exact ⟨.inl rfl, hq⟩
    | next s59 =>
      obtain ⟨y60, y61⟩ := s59
      obtain ⟨rfl, h⟩ := hq
      change SatL c [.slot 2 (lpVP (b1 0) 0), .slot 3 (lpVP (b2 0) 0), .res (lb (b1 0) 327 [intsCk .u32 64 (List.replicate 64 0)]), .res (lb (b2 0) 327 [intsCk .u32 64 y61])] a w at h
      refine inBlock_at ?_
      show Code.wp Tryd.prog _ _ a w
      refine regS mixed hn hG h [0, 500] (ov [1, 3] (op_load_w 1 Tryd.isAgg327 Tryd.sizeOf327 q0) <| ou [0, 500] 2 (op_store_w Tryd.sizeOf327 q0 q1 (cells_agg _)) .nil) fun _ a w h => ?_
      refine wp_ret ?_
      obtain rfl := Option.some.inj hF
      exact ⟨.inl rfl, ret1 h Tryd.results237 (r_cell 0 1 rfl rfl Tryd.isAgg327 Tryd.sizeOf327 rfl) [] [] rfl rfl rfl⟩

def sha_Block.b1 (r4 : (List Int)) (x14 : Int) (x15 : List Int) : Option (Flow (List Int) (Int × (List Int))) := (if (decide (x14 < (64 : Int))) = true then ((bits_RotateLeft32 (x15.getD (4 : Int).toNat 0) (-6 : Int)).bind fun r27 => ((bits_RotateLeft32 (x15.getD (4 : Int).toNat 0) (-11 : Int)).bind fun r28 => ((bits_RotateLeft32 (x15.getD (4 : Int).toNat 0) (-25 : Int)).bind fun r29 => (if (0 : Int) ≤ x14 ∧ x14 < 64 then ((bits_RotateLeft32 (x15.getD (0 : Int).toNat 0) (-2 : Int)).bind fun r31 => ((bits_RotateLeft32 (x15.getD (0 : Int).toNat 0) (-13 : Int)).bind fun r32 => ((bits_RotateLeft32 (x15.getD (0 : Int).toNat 0) (-22 : Int)).bind fun r33 => some (.cont (IntKind.wrap .i64 (x14 + 1), ((x15.take (1 : Int).toNat ++ (x15.drop (0 : Int).toNat).take (min ((7 : Int).toNat - (0 : Int).toNat) ((8 : Int).toNat - (1 : Int).toNat)) ++ x15.drop ((1 : Int).toNat + (min ((7 : Int).toNat - (0 : Int).toNat) ((8 : Int).toNat - (1 : Int).toNat)))).set (4 : Int).toNat (IntKind.wrap .u32 (((x15.take (1 : Int).toNat ++ (x15.drop (0 : Int).toNat).take (min ((7 : Int).toNat - (0 : Int).toNat) ((8 : Int).toNat - (1 : Int).toNat)) ++ x15.drop ((1 : Int).toNat + (min ((7 : Int).toNat - (0 : Int).toNat) ((8 : Int).toNat - (1 : Int).toNat)))).getD (4 : Int).toNat 0) + (IntKind.wrap .u32 ((IntKind.wrap .u32 ((IntKind.wrap .u32 ((IntKind.wrap .u32 ((x15.getD (7 : Int).toNat 0) + (bits .xor .u32 (bits .xor .u32 r27 r28) r29))) + (bits .xor .u32 (bits .and .u32 (x15.getD (4 : Int).toNat 0) (x15.getD (5 : Int).toNat 0)) (bits .and .u32 (inot .u32 (x15.getD (4 : Int).toNat 0)) (x15.getD (6 : Int).toNat 0))))) + (gConst.getD x14.toNat 0))) + (r4.getD x14.toNat 0)))))).set (0 : Int).toNat (IntKind.wrap .u32 ((IntKind.wrap .u32 ((IntKind.wrap .u32 ((IntKind.wrap .u32 ((IntKind.wrap .u32 ((IntKind.wrap .u32 ((x15.getD (7 : Int).toNat 0) + (bits .xor .u32 (bits .xor .u32 r27 r28) r29))) + (bits .xor .u32 (bits .and .u32 (x15.getD (4 : Int).toNat 0) (x15.getD (5 : Int).toNat 0)) (bits .and .u32 (inot .u32 (x15.getD (4 : Int).toNat 0)) (x15.getD (6 : Int).toNat 0))))) + (gConst.getD x14.toNat 0))) + (r4.getD x14.toNat 0))) + (bits .xor .u32 (bits .xor .u32 r31 r32) r33))) + (bits .xor .u32 (bits .xor .u32 (bits .and .u32 (x15.getD (0 : Int).toNat 0) (x15.getD (1 : Int).toNat 0)) (bits .and .u32 (x15.getD (0 : Int).toNat 0) (x15.getD (2 : Int).toNat 0))) (bits .and .u32 (x15.getD (1 : Int).toNat 0) (x15.getD (2 : Int).toNat 0)))))))))) else none)))) else some (.brk (x14, x15)))
def sha_Block.b2 (a_0 : List Int) (x41 : Int) (x42 : List Int) : Option (Flow (List Int) (Int × (List Int))) := (if (decide (x41 < (8 : Int))) = true then (if (0 : Int) ≤ x41 ∧ x41 < 8 then some (.cont (IntKind.wrap .i64 (x41 + 1), x42.set x41.toNat (IntKind.wrap .u32 ((x42.getD x41.toNat 0) + (a_0.getD x41.toNat 0))))) else none) else some (.brk (x41, x42)))
def sha_Block (a_0 : List Int) (a_1 : List UInt8) : Option (List Int) := (if (!decide ((a_1.length : Int) = (64 : Int))) = true then some a_0 else ((sha_schedule a_1).bind fun r4 => ((loopN (fun s : Int × (List Int) => sha_Block.b1 r4 s.1 s.2) ((64 - 0 : Int).toNat + 2) (0, a_0)).bind fun cr => match cr with | .ret r => some r | .next (y38, y39) => ((loopN (fun s : Int × (List Int) => sha_Block.b2 a_0 s.1 s.2) ((8 - 0 : Int).toNat + 2) (0, y39)).bind fun cr => match cr with | .ret r => some r | .next (y53, y54) => some y54))))
theorem sha_Block_ok {a_0 : List Int} {a_1 : List UInt8} {r : (List Int)} (hF : sha_Block a_0 a_1 = some r) : CallOk Tryd.prog KG 229 [(aggVP [intsCk .u32 8 a_0]), (strVP a_1)] [] (fun _ => []) (aggVP [intsCk .u32 8 r]) := by
  refine CallOk.intro 113 Tryd.func229 rfl Tryd.ntmps229 (Nat.le_of_ble_eq_true rfl) ?_
  intro c a w hG hn h
  unfold sha_Block at hF
  change SatL c [.slot 0 (aggVP [intsCk .u32 8 a_0]), .slot 1 (strVP a_1)] a w at h
  refine regS mixed hn hG h [1, 503, 501, 502, 500] (ob [0] (op_box q0 (cells_agg _)) <| ob [] (op_alloc Tryd.zeroValue280 z280) .nil) fun b1 a w h => ?_
  refine wp_seq ?_
  refine regS mixed hn hG h [0, 1, 2, 500, 3, 4] (ov [0] (op_move q0) <| ov [500] (op_len_str Tryd.underlying9 q0) <| ov [500] (op_bin bin_neq q0 qi) .nil) fun _ a w h => ?_
  refine cnd h hF 3 [1, 2, 4, 5] [0, 1, 2, 4, 5] (fun hb3 hF h => ?_) (fun hb3 hF h => ?_)
  · refine regS mixed hn hG h [1, 500] (ov [0, 2] (op_load_w 1 Tryd.isAgg280 Tryd.sizeOf280 q0) <| ou [1, 500] 3 (op_store_w Tryd.sizeOf280 q0 q1 (cells_agg _)) .nil) fun _ a w h => ?_
    refine wp_ret ?_
    obtain rfl := Option.some.inj hF
    exact ⟨.inl rfl, ret1 h Tryd.results229 (r_cell 0 1 rfl rfl Tryd.isAgg280 Tryd.sizeOf280 rfl) [] [] rfl rfl rfl⟩
  · refine wp_skip ?_
    show Code.wp Tryd.prog _ _ a w
    obtain ⟨r4, hr4, hF⟩ := bind_some hF
    refine regS mixed hn hG h [1, 2, 502, 3, 4, 500] (ov [0] (op_move q0) <| oc [500] [] Tryd.call237 (sha_schedule_ok hr4) ⟨q0, trivial⟩ <| ob [] (op_alloc Tryd.zeroValue327 z327) <| og [501, 502] [500] [.res 2 100000 (fun v1_ _ => (lb (v1_) 327 [intsCk .u32 64 r4]))] (GOk.plain (op_store_w Tryd.sizeOf327 q0 q1 (cells_agg _)) rfl) .nil) fun b5 a w h => ?_
    refine regS mixed hn hG h [0, 1, 2, 502, 3, 4, 5, 500] (ov [0, 3] (op_load_w 1 Tryd.isAgg280 Tryd.sizeOf280 q0) <| ob [] (op_alloc Tryd.zeroValue280 z280) <| og [501, 502] [500] [.res 1 100000 (fun v1_ _ => (lb (v1_) 280 [intsCk .u32 8 a_0]))] (GOk.plain (op_store_w Tryd.sizeOf280 q0 q1 (cells_agg _)) rfl) .nil) fun b6 a w h => ?_
    refine wp_seq ?_
    refine regS mixed hn hG h [0, 1, 2, 3, 500, 4, 5, 6, 7] (ov [] (op_move qi) .nil) fun _ a w h => ?_
    refine wp_block ?_
    obtain ⟨cr34, hl35, hF⟩ := bind_some hF
    refine wp_mono (wp_loopN (R := (List Int)) (S := Int × (List Int)) (fun s a w => SatL c [.slot 2 (lpVP (b1 0) 0), .slot 4 (lpVP (b1 1) 0), .slot 5 (lpVP (b5 2) 0), .slot 6 (lpVP (b6 1) 0), .slot 23 (intVP .i64 s.1), .res (lb (b1 0) 280 [intsCk .u32 8 a_0]), .res (lb (b1 1) 280 [intsCk .u32 8 (List.replicate 8 0)]), .res (lb (b5 2) 327 [intsCk .u32 64 r4]), .res (lb (b6 1) 280 [intsCk .u32 8 s.2])] a w) (fun res e a w => match res with | .next s => e = .exit 0 ∧ SatL c [.slot 2 (lpVP (b1 0) 0), .slot 4 (lpVP (b1 1) 0), .slot 6 (lpVP (b6 1) 0), .res (lb (b1 0) 280 [intsCk .u32 8 a_0]), .res (lb (b1 1) 280 [intsCk .u32 8 (List.replicate 8 0)]), .res (lb (b6 1) 280 [intsCk .u32 8 s.2])] a w | .ret r => e = .ret ∧ RetOk Tryd.prog Tryd.f229 c (aggVP [intsCk .u32 8 r]) (fun _ => []) a w) ?_ _ (0, a_0) _ _ _ (h.sub [0, 1, 2, 3, 4, 5, 6, 7, 8] (by rfl)) hl35) ?_
    · clear hl35 hF h
      intro s a w o h hF
      obtain ⟨x14, x15⟩ := s
      change sha_Block.b1 r4 x14 x15 = some o at hF
      unfold sha_Block.b1 at hF
      change SatL c [.slot 2 (lpVP (b1 0) 0), .slot 4 (lpVP (b1 1) 0), .slot 5 (lpVP (b5 2) 0), .slot 6 (lpVP (b6 1) 0), .slot 23 (intVP .i64 x14), .res (lb (b1 0) 280 [intsCk .u32 8 a_0]), .res (lb (b1 1) 280 [intsCk .u32 8 (List.replicate 8 0)]), .res (lb (b5 2) 327 [intsCk .u32 64 r4]), .res (lb (b6 1) 280 [intsCk .u32 8 x15])] a w at h
      refine regS mixed hn hG h [0, 1, 2, 3, 4, 500, 5, 6, 7, 8] (ov [4] (op_bin bin_lss q0 qi) .nil) fun _ a w h => ?_
      refine wp_seq ?_
      refine cnd h hF 5 [0, 1, 2, 3, 4, 6, 7, 8, 9] [0, 1, 2, 3, 4, 6, 7, 8, 9] (fun hb26 hF h => ?_) (fun hb26 hF h => ?_)
      · refine wp_skip ?_
        show Code.wp Tryd.prog _ _ a w
        refine wp_seq ?_
        refine wp_block ?_
        refine regS mixed hn hG h [0, 1, 2, 3, 500, 4, 5, 6, 7, 8] (ov [4] (op_move q0) <| ov [500] (op_assign q0) .nil) fun _ a w h => ?_
        refine regS mixed hn hG h [0, 1, 2, 3, 4, 501, 500, 5, 6, 7, 8, 9] (ov [3] (op_indexAddr_lb Tryd.underlying280 Tryd.sizeOf22 q0 qi (by decide)) <| ov [500, 9] (op_load_lbI (i := 0) [] [] 1 Tryd.isAgg22 q0 rfl rfl (by decide)) <| ov [3] (op_indexAddr_lb Tryd.underlying280 Tryd.sizeOf22 q0 qi (by decide)) <| ov [500, 9] (op_load_lbI (i := 4) [] [] 1 Tryd.isAgg22 q0 rfl rfl (by decide)) <| ov [502] (op_assign q0) <| ov [501] (op_assign q0) .nil) fun _ a w h => ?_
        obtain ⟨r27, hr27, hF⟩ := bind_some hF
        obtain ⟨r28, hr28, hF⟩ := bind_some hF
        obtain ⟨r29, hr29, hF⟩ := bind_some hF
        refine regS mixed hn hG h [0, 1, 2, 3, 4, 5, 6, 500, 7, 8, 9, 10, 11] (ov [6] (op_move q0) <| oc [500] [] Tryd.call238 (bits_RotateLeft32_ok hr27) ⟨q0, qi, trivial⟩ <| ov [6] (op_move q0) <| oc [500] [] Tryd.call238 (bits_RotateLeft32_ok hr28) ⟨q0, qi, trivial⟩ <| ov [502, 500] (op_bin bin_xor q0 q1) <| ov [6] (op_move q0) <| oc [500] [] Tryd.call238 (bits_RotateLeft32_ok hr29) ⟨q0, qi, trivial⟩ <| ov [502, 500] (op_bin bin_xor q0 q1) <| ov [500] (op_assign q0) .nil) fun _ a w h => ?_
        refine regS mixed hn hG h [0, 1, 2, 3, 4, 5, 7, 500, 8, 9, 10, 11, 12] (ov [6] (op_move q0) <| ov [3] (op_indexAddr_lb Tryd.underlying280 Tryd.sizeOf22 q0 qi (by decide)) <| ov [500, 12] (op_load_lbI (i := 5) [] [] 1 Tryd.isAgg22 q0 rfl rfl (by decide)) <| ov [502, 500] (op_bin bin_and q0 q1) <| ov [6] (op_move q0) <| ov [500] (op_un (un_xor _ _) q0) <| ov [3] (op_indexAddr_lb Tryd.underlying280 Tryd.sizeOf22 q0 qi (by decide)) <| ov [500, 12] (op_load_lbI (i := 6) [] [] 1 Tryd.isAgg22 q0 rfl rfl (by decide)) <| ov [502, 500] (op_bin bin_and q0 q1) <| ov [505, 500] (op_bin bin_xor q0 q1) <| ov [500] (op_assign q0) .nil) fun _ a w h => ?_
        obtain ⟨hv30, hF⟩ := ite_some hF
        refine regS mixed hn hG h [0, 1, 2, 3, 5, 500, 8, 9, 10, 11, 12] (ov [3] (op_indexAddr_lb Tryd.underlying280 Tryd.sizeOf22 q0 qi (by decide)) <| ov [500, 12] (op_load_lbI (i := 7) [] [] 1 Tryd.isAgg22 q0 rfl rfl (by decide)) <| ov [6] (op_move q0) <| ov [501, 500] (op_bin bin_add q0 q1) <| ov [7] (op_move q0) <| ov [501, 500] (op_bin bin_add q0 q1) <| ov [4] (op_move q0) <| ov [500] (op_indexAddr_ppI Tryd.underlying327 Tryd.sizeOf22 (opg (fun Φ h => h.2)) q0 hv30) <| ov [500] (op_load_pp1 [] Tryd.isAgg22 q0) <| ov [503, 500] (op_bin bin_add q0 q1) <| ov [4] (op_move q0) <| ov [2, 500] (op_indexAddr_lb Tryd.underlying327 Tryd.sizeOf22 q0 q1 hv30) <| ov [500, 11] (op_load_lbI (i := x14) [] [] 1 Tryd.isAgg22 q0 rfl rfl hv30) <| ov [503, 500] (op_bin bin_add q0 q1) <| ov [500] (op_assign q0) .nil) fun _ a w h => ?_
        obtain ⟨r31, hr31, hF⟩ := bind_some hF
        obtain ⟨r32, hr32, hF⟩ := bind_some hF
        obtain ⟨r33, hr33, hF⟩ := bind_some hF
        refine regS mixed hn hG h [0, 1, 2, 3, 4, 5, 500, 6, 7, 8, 9, 10] (ov [4] (op_move q0) <| oc [500] [] Tryd.call238 (bits_RotateLeft32_ok hr31) ⟨q0, qi, trivial⟩ <| ov [4] (op_move q0) <| oc [500] [] Tryd.call238 (bits_RotateLeft32_ok hr32) ⟨q0, qi, trivial⟩ <| ov [502, 500] (op_bin bin_xor q0 q1) <| ov [4] (op_move q0) <| oc [500] [] Tryd.call238 (bits_RotateLeft32_ok hr33) ⟨q0, qi, trivial⟩ <| ov [502, 500] (op_bin bin_xor q0 q1) <| ov [500] (op_assign q0) .nil) fun _ a w h => ?_
        refine regS mixed hn hG h [0, 1, 2, 3, 5, 6, 500, 7, 8, 9, 10, 11] (ov [4] (op_move q0) <| ov [3] (op_indexAddr_lb Tryd.underlying280 Tryd.sizeOf22 q0 qi (by decide)) <| ov [500, 11] (op_load_lbI (i := 1) [] [] 1 Tryd.isAgg22 q0 rfl rfl (by decide)) <| ov [502, 500] (op_bin bin_and q0 q1) <| ov [4] (op_move q0) <| ov [3] (op_indexAddr_lb Tryd.underlying280 Tryd.sizeOf22 q0 qi (by decide)) <| ov [500, 11] (op_load_lbI (i := 2) [] [] 1 Tryd.isAgg22 q0 rfl rfl (by decide)) <| ov [502, 500] (op_bin bin_and q0 q1) <| ov [504, 500] (op_bin bin_xor q0 q1) <| ov [3] (op_indexAddr_lb Tryd.underlying280 Tryd.sizeOf22 q0 qi (by decide)) <| ov [500, 11] (op_load_lbI (i := 1) [] [] 1 Tryd.isAgg22 q0 rfl rfl (by decide)) <| ov [3] (op_indexAddr_lb Tryd.underlying280 Tryd.sizeOf22 q0 qi (by decide)) <| ov [500, 11] (op_load_lbI (i := 2) [] [] 1 Tryd.isAgg22 q0 rfl rfl (by decide)) <| ov [502, 500] (op_bin bin_and q0 q1) <| ov [505, 500] (op_bin bin_xor q0 q1) <| ov [500] (op_assign q0) .nil) fun _ a w h => ?_
        refine regS mixed hn hG h [0, 1, 2, 3, 4, 5, 6, 7, 8, 9, 10, 500] (ov [3] (op_slice_lb (a := 1) (b := 8) Tryd.underlying280 Tryd.sizeOf22 q0 ⟨_, qi⟩ rfl (by decide)) <| ov [3] (op_slice_lb (a := 0) (b := 7) Tryd.underlying280 Tryd.sizeOf22 q0 rfl ⟨_, qi⟩ (by decide)) <| oe [501, 500] [11] (GOk.plain (op_copy_lb (i := (1 : Int).toNat) (j := (0 : Int).toNat) [] [] Tryd.underlying336 rfl q0 q1 (by rfl) (by rfl) (by decide) (by decide)) rfl) .nil) fun _ a w h => ?_
        refine regS mixed hn hG h [0, 1, 2, 3, 4, 5, 6, 7, 8, 9, 10, 500] (ov [3] (op_indexAddr_lb Tryd.underlying280 Tryd.sizeOf22 q0 qi (by decide)) <| ov [500, 11] (op_load_lbI (i := 4) [] [] 1 Tryd.isAgg22 q0 rfl rfl (by decide)) <| ov [4] (op_move q0) <| ov [501, 500] (op_bin bin_add q0 q1) <| ov [3] (op_indexAddr_lb Tryd.underlying280 Tryd.sizeOf22 q0 qi (by decide)) <| ou [500, 501] 11 (op_store_lbI (i := 4) [] [] Tryd.sizeOf22 q0 q1 rfl (by decide)) .nil) fun _ a w h => ?_
        refine reg mixed hn hG h [0, 1, 2, 3, 7, 8, 9, 10, 500] (ov [4] (op_move q0) <| ov [5] (op_move q0) <| ov [501, 500] (op_bin bin_add q0 q1) <| ov [6] (op_move q0) <| ov [501, 500] (op_bin bin_add q0 q1) <| ov [3] (op_indexAddr_lb Tryd.underlying280 Tryd.sizeOf22 q0 qi (by decide)) <| ou [500, 501] 11 (op_store_lbI (i := 0) [] [] Tryd.sizeOf22 q0 q1 rfl (by decide)) .nil) fun _ a w h => ?_
        show Code.wp Tryd.prog _ _ a w
        refine reg mixed hn hG h [0, 1, 2, 3, 500, 5, 6, 7, 8] (ov [4] (op_bin bin_add q0 qi) <| od [500] 4 (op_move q0) .nil) fun _ a w h => ?_
        obtain rfl := Option.some.inj hF
        exact ⟨rfl, h.sub [0, 1, 2, 3, 4, 5, 6, 7, 8] (by rfl)⟩
      · refine wp_exit ?_
        obtain rfl := Option.some.inj hF
        exact ⟨exit_ne _, rfl, h.sub [0, 1, 3, 5, 6, 8] (by rfl)⟩
    · clear hl35
      intro e a w hq
      cases cr34 with
      | ret r36 =>
        obtain ⟨rfl, hq⟩ := hq
        obtain rfl := Option.some.inj hF
        exact ⟨.inl rfl, hq⟩
      | next s37 =>
        obtain ⟨y38, y39⟩ := s37
        obtain ⟨rfl, h⟩ := hq
        change SatL c [.slot 2 (lpVP (b1 0) 0), .slot 4 (lpVP (b1 1) 0), .slot 6 (lpVP (b6 1) 0), .res (lb (b1 0) 280 [intsCk .u32 8 a_0]), .res (lb (b1 1) 280 [intsCk .u32 8 (List.replicate 8 0)]), .res (lb (b6 1) 280 [intsCk .u32 8 y39])] a w at h
        refine inBlock_at ?_
        show Code.wp Tryd.prog _ _ a w
        refine wp_seq ?_
        refine regS mixed hn hG h [0, 1, 2, 500, 3, 4, 5] (ov [] (op_move qi) .nil) fun _ a w h => ?_
        refine wp_block ?_
        obtain ⟨cr49, hl50, hF⟩ := bind_some hF
        refine wp_mono (wp_loopN (R := (List Int)) (S := Int × (List Int)) (fun s a w => SatL c [.slot 2 (lpVP (b1 0) 0), .slot 4 (lpVP (b1 1) 0), .slot 6 (lpVP (b6 1) 0), .slot 100 (intVP .i64 s.1), .res (lb (b1 0) 280 [intsCk .u32 8 a_0]), .res (lb (b1 1) 280 [intsCk .u32 8 (List.replicate 8 0)]), .res (lb (b6 1) 280 [intsCk .u32 8 s.2])] a w) (fun res e a w => match res with | .next s => e = .exit 2 ∧ SatL c [.slot 4 (lpVP (b1 1) 0), .slot 6 (lpVP (b6 1) 0), .res (lb (b1 1) 280 [intsCk .u32 8 (List.replicate 8 0)]), .res (lb (b6 1) 280 [intsCk .u32 8 s.2])] a w | .ret r => e = .ret ∧ RetOk Tryd.prog Tryd.f229 c (aggVP [intsCk .u32 8 r]) (fun _ => []) a w) ?_ _ (0, y39) _ _ _ (h.sub [0, 1, 2, 3, 4, 5, 6] (by rfl)) hl50) ?_
        · clear hl50 hF h
          intro s a w o h hF
          obtain ⟨x41, x42⟩ := s
          change sha_Block.b2 a_0 x41 x42 = some o at hF
          unfold sha_Block.b2 at hF
          change SatL c [.slot 2 (lpVP (b1 0) 0), .slot 4 (lpVP (b1 1) 0), .slot 6 (lpVP (b6 1) 0), .slot 100 (intVP .i64 x41), .res (lb (b1 0) 280 [intsCk .u32 8 a_0]), .res (lb (b1 1) 280 [intsCk .u32 8 (List.replicate 8 0)]), .res (lb (b6 1) 280 [intsCk .u32 8 x42])] a w at h
          refine regS mixed hn hG h [0, 1, 2, 3, 500, 4, 5, 6] (ov [3] (op_bin bin_lss q0 qi) .nil) fun _ a w h => ?_
          refine wp_seq ?_
          refine cnd h hF 4 [0, 1, 2, 3, 5, 6, 7] [0, 1, 2, 3, 5, 6, 7] (fun hb47 hF h => ?_) (fun hb47 hF h => ?_)
          · refine wp_skip ?_
            show Code.wp Tryd.prog _ _ a w
            refine wp_seq ?_
            refine wp_block ?_
            refine regS mixed hn hG h [0, 1, 2, 500, 3, 4, 5, 6] (ov [3] (op_move q0) <| ov [500] (op_assign q0) .nil) fun _ a w h => ?_
            obtain ⟨hv48, hF⟩ := ite_some hF
            refine reg mixed hn hG h [0, 1, 2, 4, 5, 6, 500] (ov [3] (op_move q0) <| ov [2, 500] (op_indexAddr_lb Tryd.underlying280 Tryd.sizeOf22 q0 q1 hv48) <| ov [500, 7] (op_load_lbI (i := x41) [] [] 1 Tryd.isAgg22 q0 rfl rfl hv48) <| ov [3] (op_move q0) <| ov [0, 500] (op_indexAddr_lb Tryd.underlying280 Tryd.sizeOf22 q0 q1 hv48) <| ov [500, 5] (op_load_lbI (i := x41) [] [] 1 Tryd.isAgg22 q0 rfl rfl hv48) <| ov [503, 500] (op_bin bin_add q0 q1) <| ov [2, 506] (op_indexAddr_lb Tryd.underlying280 Tryd.sizeOf22 q0 q1 hv48) <| ou [500, 501] 7 (op_store_lbI (i := x41) [] [] Tryd.sizeOf22 q0 q1 rfl hv48) .nil) fun _ a w h => ?_
            show Code.wp Tryd.prog _ _ a w
            refine reg mixed hn hG h [0, 1, 2, 500, 4, 5, 6] (ov [3] (op_bin bin_add q0 qi) <| od [500] 3 (op_move q0) .nil) fun _ a w h => ?_
            obtain rfl := Option.some.inj hF
            exact ⟨rfl, h.sub [0, 1, 2, 3, 4, 5, 6] (by rfl)⟩
          · refine wp_exit ?_
            obtain rfl := Option.some.inj hF
            exact ⟨exit_ne _, rfl, h.sub [1, 2, 5, 6] (by rfl)⟩
        · clear hl50
          intro e a w hq
          cases cr49 with
          | ret r51 =>
            obtain ⟨rfl, hq⟩ := hq
            obtain rfl := Option.some.inj hF
            exact ⟨.inl rfl, hq⟩
          | next s52 =>
            obtain ⟨y53, y54⟩ := s52
            obtain ⟨rfl, h⟩ := hq
            change SatL c [.slot 4 (lpVP (b1 1) 0), .slot 6 (lpVP (b6 1) 0), .res (lb (b1 1) 280 [intsCk .u32 8 (List.replicate 8 0)]), .res (lb (b6 1) 280 [intsCk .u32 8 y54])] a w at h
            refine inBlock_at ?_
            show Code.wp Tryd.prog _ _ a w
            refine regS mixed hn hG h [0, 500] (ov [1, 3] (op_load_w 1 Tryd.isAgg280 Tryd.sizeOf280 q0) <| ou [0, 500] 2 (op_store_w Tryd.sizeOf280 q0 q1 (cells_agg _)) .nil) fun _ a w h => ?_
            refine wp_ret ?_
            obtain rfl := Option.some.inj hF
            exact ⟨.inl rfl, ret1 h Tryd.results229 (r_cell 0 1 rfl rfl Tryd.isAgg280 Tryd.sizeOf280 rfl) [] [] rfl rfl rfl⟩

def sha_State_Add.b1 (x8 : List UInt8) (x9 : S_sha_State) : Option (Flow S_sha_State ((List UInt8) × S_sha_State)) := (if (decide ((64 : Int) ≤ (x8.length : Int))) = true then (if (0 : Int) ≤ 0 ∧ (0 : Int) ≤ 64 ∧ (64 : Int) ≤ x8.length then ((sha_Block x9.f_Words ((x8.take 64).drop (0 : Int).toNat)).bind fun r18 => (if (0 : Int) ≤ 64 ∧ (64 : Int) ≤ (x8.length : Int) ∧ (x8.length : Int) ≤ x8.length then some (.cont ((x8.take (x8.length : Int).toNat).drop 64, (S_sha_State.mk r18 x9.f_Rest x9.f_Count))) else none)) else none) else some (.brk (x8, x9)))
def sha_State_Add (a_0 : S_sha_State) (a_1 : List UInt8) : Option S_sha_State := (if a_0.f_Rest.length + a_1.length ≤ mxl then ((loopN (fun s : (List UInt8) × S_sha_State => sha_State_Add.b1 s.1 s.2) ((((a_0.f_Rest ++ a_1).length : Int) - 64 : Int).toNat + 2) (a_0.f_Rest ++ a_1, (S_sha_State.mk a_0.f_Words a_0.f_Rest (IntKind.wrap .u64 (a_0.f_Count + (IntKind.wrap .u64 (a_1.length : Int))))))).bind fun cr => match cr with | .ret r => some r | .next (y24, y25) => some (S_sha_State.mk y25.f_Words y24 y25.f_Count)) else none)
theorem sha_State_Add_ok {a_0 : S_sha_State} {a_1 : List UInt8} {r : S_sha_State} (hF : sha_State_Add a_0 a_1 = some r) : CallOk Tryd.prog KG 220 [(aggVP [intsCk .u32 8 a_0.f_Words, one (strVP a_0.f_Rest), one (intVP .u64 a_0.f_Count)]), (strVP a_1)] [] (fun _ => []) (aggVP [intsCk .u32 8 r.f_Words, one (strVP r.f_Rest), one (intVP .u64 r.f_Count)]) := by
  refine CallOk.intro 31 Tryd.func220 rfl Tryd.ntmps220 (Nat.le_of_ble_eq_true rfl) ?_
  intro c a w hG hn h
  unfold sha_State_Add at hF
  change SatL c [.slot 0 (aggVP [intsCk .u32 8 a_0.f_Words, one (strVP a_0.f_Rest), one (intVP .u64 a_0.f_Count)]), .slot 1 (strVP a_1)] a w at h
  refine regS mixed hn hG h [1, 503, 501, 502, 500] (ob [0] (op_box q0 (cells_agg _)) <| ob [] (op_alloc Tryd.zeroValue311 z311) .nil) fun b1 a w h => ?_
  refine regS mixed hn hG h [0, 1, 2, 500, 4] (ov [1] (op_fieldAddr_lbm (p := (b1 0)) (n := 1) 0 9 Tryd.underlying311 rfl Tryd.sizeOf27 (by decide) q0 rfl) <| ov [500, 3] (op_load_lb1 [intsCk .u32 8 a_0.f_Words, one (strVP a_0.f_Rest)] [] 1 Tryd.isAgg27 q0 rfl rfl) <| ov [0] (op_move q0) <| ov [500] (op_len_str Tryd.underlying9 q0) <| ov [500] (op_convert_int Tryd.underlying3 Tryd.underlying27 q0) <| ov [503, 500] (op_bin bin_add q0 q1) <| ov [1] (op_fieldAddr_lbm (p := (b1 0)) (n := 1) 0 9 Tryd.underlying311 rfl Tryd.sizeOf27 (by decide) q0 rfl) <| ou [500, 501] 3 (op_store_lb [intsCk .u32 8 a_0.f_Words, one (strVP a_0.f_Rest)] [one (intVP .u64 a_0.f_Count)] [] [one (intVP .u64 (IntKind.wrap .u64 (a_0.f_Count + (IntKind.wrap .u64 (a_1.length : Int)))))] Tryd.sizeOf27 q0 q1 (cells_one (one_int _ _)) rfl rfl rfl) .nil) fun _ a w h => ?_
  obtain ⟨hv3, hF⟩ := ite_some hF
  refine regS mixed hn hG h [1, 2, 500, 3, 4] (ov [1] (op_fieldAddr_lbm (p := (b1 0)) (n := 1) 0 8 Tryd.underlying311 rfl Tryd.sizeOf9 (by decide) q0 rfl) <| ov [500, 3] (op_load_lb1 [intsCk .u32 8 a_0.f_Words] [one (intVP .u64 (IntKind.wrap .u64 (a_0.f_Count + (IntKind.wrap .u64 (a_1.length : Int)))))] 1 Tryd.isAgg9 q0 rfl rfl) <| ov [0] (op_move q0) <| ov [501, 500] (op_bin (bin_sadd hv3) q0 q1) <| ov [500] (op_assign q0) .nil) fun _ a w h => ?_
  refine wp_seq ?_
  refine wp_block ?_
  obtain ⟨cr20, hl21, hF⟩ := bind_some hF
  refine wp_mono (wp_loopN (R := S_sha_State) (S := (List UInt8) × S_sha_State) (fun s a w => SatL c [.slot 2 (lpVP (b1 0) 0), .slot 4 (lpVP (b1 1) 0), .slot 5 (strVP s.1), .res (lb (b1 0) 311 [intsCk .u32 8 s.2.f_Words, one (strVP s.2.f_Rest), one (intVP .u64 s.2.f_Count)]), .res (lb (b1 1) 311 [intsCk .u32 8 ((S_sha_State.mk (List.replicate 8 0) [] (0 : Int)).f_Words), one (strVP ((S_sha_State.mk (List.replicate 8 0) [] (0 : Int)).f_Rest)), one (intVP .u64 ((S_sha_State.mk (List.replicate 8 0) [] (0 : Int)).f_Count))])] a w) (fun res e a w => match res with | .next s => e = .exit 0 ∧ SatL c [.slot 2 (lpVP (b1 0) 0), .slot 4 (lpVP (b1 1) 0), .slot 5 (strVP s.1), .res (lb (b1 0) 311 [intsCk .u32 8 s.2.f_Words, one (strVP s.2.f_Rest), one (intVP .u64 s.2.f_Count)]), .res (lb (b1 1) 311 [intsCk .u32 8 ((S_sha_State.mk (List.replicate 8 0) [] (0 : Int)).f_Words), one (strVP ((S_sha_State.mk (List.replicate 8 0) [] (0 : Int)).f_Rest)), one (intVP .u64 ((S_sha_State.mk (List.replicate 8 0) [] (0 : Int)).f_Count))])] a w | .ret r => e = .ret ∧ RetOk Tryd.prog Tryd.f220 c (aggVP [intsCk .u32 8 r.f_Words, one (strVP r.f_Rest), one (intVP .u64 r.f_Count)]) (fun _ => []) a w) ?_ _ (a_0.f_Rest ++ a_1, (S_sha_State.mk a_0.f_Words a_0.f_Rest (IntKind.wrap .u64 (a_0.f_Count + (IntKind.wrap .u64 (a_1.length : Int)))))) _ _ _ (h.sub [0, 1, 2, 3, 4] (by rfl)) hl21) ?_
  · clear hl21 hF h
    intro s a w o h hF
    obtain ⟨x8, x9⟩ := s
    change sha_State_Add.b1 x8 x9 = some o at hF
    unfold sha_State_Add.b1 at hF
    change SatL c [.slot 2 (lpVP (b1 0) 0), .slot 4 (lpVP (b1 1) 0), .slot 5 (strVP x8), .res (lb (b1 0) 311 [intsCk .u32 8 x9.f_Words, one (strVP x9.f_Rest), one (intVP .u64 x9.f_Count)]), .res (lb (b1 1) 311 [intsCk .u32 8 ((S_sha_State.mk (List.replicate 8 0) [] (0 : Int)).f_Words), one (strVP ((S_sha_State.mk (List.replicate 8 0) [] (0 : Int)).f_Rest)), one (intVP .u64 ((S_sha_State.mk (List.replicate 8 0) [] (0 : Int)).f_Count))])] a w at h
    refine wp_seq ?_
    refine regS mixed hn hG h [0, 1, 2, 500, 3, 4] (ov [2] (op_move q0) <| ov [500] (op_len_str Tryd.underlying9 q0) <| ov [500] (op_bin bin_geq q0 qi) .nil) fun _ a w h => ?_
    refine cnd h hF 3 [0, 1, 2, 4, 5] [0, 1, 2, 4, 5] (fun hb16 hF h => ?_) (fun hb16 hF h => ?_)
    · refine wp_skip ?_
      show Code.wp Tryd.prog _ _ a w
      refine wp_block ?_
      obtain ⟨hv17, hF⟩ := ite_some hF
      obtain ⟨r18, hr18, hF⟩ := bind_some hF
      refine regS mixed hn hG h [0, 1, 2, 500, 4] (ov [0] (op_fieldAddr_lbm (p := (b1 0)) (n := 8) 0 0 Tryd.underlying311 rfl Tryd.sizeOf280 (by decide) q0 rfl) <| ov [500, 3] (op_load_lb [] [intsCk .u32 8 x9.f_Words] [one (strVP x9.f_Rest), one (intVP .u64 x9.f_Count)] 1 Tryd.isAgg280 Tryd.sizeOf280 q0 rfl rfl rfl) <| ov [2] (op_move q0) <| ov [500] (op_slice_str (a := 0) (b := 64) Tryd.underlying9 q0 rfl ⟨_, qi⟩ hv17) <| oc [502, 500] [] Tryd.call229 (sha_Block_ok hr18) ⟨q0, q1, trivial⟩ <| ov [0] (op_fieldAddr_lbm (p := (b1 0)) (n := 8) 0 0 Tryd.underlying311 rfl Tryd.sizeOf280 (by decide) q0 rfl) <| ou [500, 501] 3 (op_store_lb [] [intsCk .u32 8 x9.f_Words] [one (strVP x9.f_Rest), one (intVP .u64 x9.f_Count)] [intsCk .u32 8 r18] Tryd.sizeOf280 q0 q1 (cells_agg _) rfl rfl rfl) .nil) fun _ a w h => ?_
      obtain ⟨hv19, hF⟩ := ite_some hF
      refine reg mixed hn hG h [0, 1, 500, 3, 4] (ov [2] (op_move q0) <| ov [500] (op_slice_str (a := 64) (b := (x8.length : Int)) Tryd.underlying9 q0 ⟨_, qi⟩ rfl hv19) <| od [500] 2 (op_assign q0) .nil) fun _ a w h => ?_
      obtain rfl := Option.some.inj hF
      exact ⟨rfl, h.sub [0, 1, 2, 3, 4] (by rfl)⟩
    · refine wp_exit ?_
      obtain rfl := Option.some.inj hF
      exact ⟨exit_ne _, rfl, h.sub [0, 1, 2, 3, 4] (by rfl)⟩
  · clear hl21
    intro e a w hq
    cases cr20 with
    | ret r22 =>
      obtain ⟨rfl, hq⟩ := hq
      obtain rfl := Option.some.inj hF
      exact ⟨.inl rfl, hq⟩
    | next s23 =>
      obtain ⟨y24, y25⟩ := s23
      obtain ⟨rfl, h⟩ := hq
      change SatL c [.slot 2 (lpVP (b1 0) 0), .slot 4 (lpVP (b1 1) 0), .slot 5 (strVP y24), .res (lb (b1 0) 311 [intsCk .u32 8 y25.f_Words, one (strVP y25.f_Rest), one (intVP .u64 y25.f_Count)]), .res (lb (b1 1) 311 [intsCk .u32 8 ((S_sha_State.mk (List.replicate 8 0) [] (0 : Int)).f_Words), one (strVP ((S_sha_State.mk (List.replicate 8 0) [] (0 : Int)).f_Rest)), one (intVP .u64 ((S_sha_State.mk (List.replicate 8 0) [] (0 : Int)).f_Count))])] a w at h
      refine inBlock_at ?_
      show Code.wp Tryd.prog _ _ a w
      refine regS mixed hn hG h [0, 1, 500, 4] (ov [2] (op_move q0) <| ov [0] (op_fieldAddr_lbm (p := (b1 0)) (n := 1) 0 8 Tryd.underlying311 rfl Tryd.sizeOf9 (by decide) q0 rfl) <| ou [500, 501] 3 (op_store_lb [intsCk .u32 8 y25.f_Words] [one (strVP y25.f_Rest)] [one (intVP .u64 y25.f_Count)] [one (strVP y24)] Tryd.sizeOf9 q0 q1 (cells_one (one_str _)) rfl rfl rfl) .nil) fun _ a w h => ?_
      refine regS mixed hn hG h [1, 500] (ov [0, 2] (op_load_w 1 Tryd.isAgg311 Tryd.sizeOf311 q0) <| ou [1, 500] 3 (op_store_w Tryd.sizeOf311 q0 q1 (cells_agg _)) .nil) fun _ a w h => ?_
      refine wp_ret ?_
      obtain rfl := Option.some.inj hF
      exact ⟨.inl rfl, ret1 h Tryd.results220 (r_cell 0 1 rfl rfl Tryd.isAgg311 Tryd.sizeOf311 rfl) [] [] rfl rfl rfl⟩

def sha_State_End.b1 (a_0 : S_sha_State) (x6 : Int) (x7 : List UInt8) : Option (Flow (List UInt8) (Int × (List UInt8))) := (if (decide (x6 < (8 : Int))) = true then (if (0 : Int) ≤ IntKind.wrap .i64 (56 - (IntKind.wrap .i64 (8 * x6))) then (if (0 : Int) ≤ x6 ∧ x6 < 8 then some (.cont (IntKind.wrap .i64 (x6 + 1), x7.set x6.toNat (u8of (IntKind.wrap .u8 (shr .u64 (IntKind.wrap .u64 (8 * a_0.f_Count)) (IntKind.wrap .i64 (56 - (IntKind.wrap .i64 (8 * x6))))))))) else none) else none) else some (.brk (x6, x7)))
def sha_State_End.b3 (r25 : S_sha_State) (x38 : Int) (x59 : Int) (x60 : List UInt8) : Option (Flow (List UInt8) (Int × (List UInt8))) := (if (decide (x59 < (4 : Int))) = true then (if (0 : Int) ≤ IntKind.wrap .i64 (24 - (IntKind.wrap .i64 (8 * x59))) then (if (0 : Int) ≤ IntKind.wrap .i64 ((IntKind.wrap .i64 (4 * x38)) + x59) ∧ IntKind.wrap .i64 ((IntKind.wrap .i64 (4 * x38)) + x59) < 32 then some (.cont (IntKind.wrap .i64 (x59 + 1), x60.set (IntKind.wrap .i64 ((IntKind.wrap .i64 (4 * x38)) + x59)).toNat (u8of (IntKind.wrap .u8 (shr .u32 (r25.f_Words.getD x38.toNat 0) (IntKind.wrap .i64 (24 - (IntKind.wrap .i64 (8 * x59))))))))) else none) else none) else some (.brk (x59, x60)))
def sha_State_End.b2 (r25 : S_sha_State) (x38 : Int) (x39 : List UInt8) : Option (Flow (List UInt8) (Int × (List UInt8))) := (if (decide (x38 < (8 : Int))) = true then (if (0 : Int) ≤ x38 ∧ x38 < 8 then ((loopN (fun s : Int × (List UInt8) => sha_State_End.b3 r25 x38 s.1 s.2) ((4 - 0 : Int).toNat + 2) (0, x39)).bind fun cr => match cr with | .ret r => some (.ret r) | .next (y73, y74) => some (.cont (IntKind.wrap .i64 (x38 + 1), y74))) else none) else some (.brk (x38, x39)))
def sha_State_End (a_0 : S_sha_State) : Option (List UInt8) := ((loopN (fun s : Int × (List UInt8) => sha_State_End.b1 a_0 s.1 s.2) ((8 - 0 : Int).toNat + 2) (0, (List.replicate 8 0))).bind fun cr => match cr with | .ret r => some r | .next (y20, y21) => (if (0 : Int) ≤ (IntKind.wrap .i64 (119 - ((a_0.f_Rest.length : Int).tmod 64))).tmod 64 ∧ [0].length * ((IntKind.wrap .i64 (119 - ((a_0.f_Rest.length : Int).tmod 64))).tmod 64 : Int).toNat ≤ 140737488355328 then (if [128].length + (Lib.repeatL [0] ((IntKind.wrap .i64 (119 - ((a_0.f_Rest.length : Int).tmod 64))).tmod 64 : Int).toNat).length ≤ mxl then (if ([128] ++ (Lib.repeatL [0] ((IntKind.wrap .i64 (119 - ((a_0.f_Rest.length : Int).tmod 64))).tmod 64 : Int).toNat)).length + (y21.take ((8 : Int).toNat - (0 : Int).toNat)).length ≤ mxl then ((sha_State_Add a_0 (([128] ++ (Lib.repeatL [0] ((IntKind.wrap .i64 (119 - ((a_0.f_Rest.length : Int).tmod 64))).tmod 64 : Int).toNat)) ++ (y21.take ((8 : Int).toNat - (0 : Int).toNat)))).bind fun r25 => ((loopN (fun s : Int × (List UInt8) => sha_State_End.b2 r25 s.1 s.2) ((8 - 0 : Int).toNat + 2) (0, (List.replicate 32 0))).bind fun cr => match cr with | .ret r => some r | .next (y79, y80) => some y80)) else none) else none) else none))
theorem sha_State_End_ok {a_0 : S_sha_State} {r : (List UInt8)} (hF : sha_State_End a_0 = some r) : CallOk Tryd.prog KG 221 [(aggVP [intsCk .u32 8 a_0.f_Words, one (strVP a_0.f_Rest), one (intVP .u64 a_0.f_Count)])] [] (fun _ => []) (aggVP [bytesCk 32 r]) := by
  refine CallOk.intro 63 Tryd.func221 rfl Tryd.ntmps221 (Nat.le_of_ble_eq_true rfl) ?_
  intro c a w hG hn h
  unfold sha_State_End at hF
  change SatL c [.slot 0 (aggVP [intsCk .u32 8 a_0.f_Words, one (strVP a_0.f_Rest), one (intVP .u64 a_0.f_Count)])] a w at h
  refine regS mixed hn hG h [503, 501, 502, 500] (ob [0] (op_box q0 (cells_agg _)) <| ob [] (op_alloc Tryd.zeroValue25 z25) .nil) fun b1 a w h => ?_
  refine regS mixed hn hG h [0, 1, 500, 2, 3] (ov [0] (op_fieldAddr_lbm (p := (b1 0)) (n := 1) 0 9 Tryd.underlying311 rfl Tryd.sizeOf27 (by decide) q0 rfl) <| ov [500, 2] (op_load_lb1 [intsCk .u32 8 a_0.f_Words, one (strVP a_0.f_Rest)] [] 1 Tryd.isAgg27 q0 rfl rfl) <| ov [500] (op_bin bin_mul qi q0) <| ov [500] (op_assign q0) .nil) fun _ a w h => ?_
  refine regS mixed hn hG h [0, 1, 2, 500, 3, 4] (ov [0] (op_fieldAddr_lbm (p := (b1 0)) (n := 1) 0 8 Tryd.underlying311 rfl Tryd.sizeOf9 (by decide) q0 rfl) <| ov [500, 3] (op_load_lb1 [intsCk .u32 8 a_0.f_Words] [one (intVP .u64 a_0.f_Count)] 1 Tryd.isAgg9 q0 rfl rfl) <| ov [500] (op_len_str Tryd.underlying9 q0) <| ov [500] (op_bin (bin_rem (by decide)) q0 qi) <| ov [500] (op_bin bin_sub qi q0) <| ov [500] (op_bin (bin_rem (by decide)) q0 qi) <| ov [500] (op_assign q0) .nil) fun _ a w h => ?_
  refine regS mixed hn hG h [0, 1, 2, 3, 501, 4, 5, 500] (ob [] (op_alloc Tryd.zeroValue265 z265) .nil) fun b3 a w h => ?_
  refine wp_seq ?_
  refine regS mixed hn hG h [0, 1, 2, 3, 4, 500, 5, 6, 7] (ov [] (op_move qi) .nil) fun _ a w h => ?_
  refine wp_block ?_
  obtain ⟨cr16, hl17, hF⟩ := bind_some hF
  refine wp_mono (wp_loopN (R := (List UInt8)) (S := Int × (List UInt8)) (fun s a w => SatL c [.slot 1 (lpVP (b1 0) 0), .slot 2 (lpVP (b1 1) 0), .slot 3 (intVP .u64 (IntKind.wrap .u64 (8 * a_0.f_Count))), .slot 4 (intVP .i64 ((IntKind.wrap .i64 (119 - ((a_0.f_Rest.length : Int).tmod 64))).tmod 64)), .slot 5 (lpVP (b3 0) 0), .slot 20 (intVP .i64 s.1), .res (lb (b1 0) 311 [intsCk .u32 8 a_0.f_Words, one (strVP a_0.f_Rest), one (intVP .u64 a_0.f_Count)]), .res (lb (b1 1) 25 [bytesCk 32 (List.replicate 32 0)]), .res (lb (b3 0) 265 [bytesCk 8 s.2])] a w) (fun res e a w => match res with | .next s => e = .exit 0 ∧ SatL c [.slot 1 (lpVP (b1 0) 0), .slot 2 (lpVP (b1 1) 0), .slot 4 (intVP .i64 ((IntKind.wrap .i64 (119 - ((a_0.f_Rest.length : Int).tmod 64))).tmod 64)), .slot 5 (lpVP (b3 0) 0), .res (lb (b1 0) 311 [intsCk .u32 8 a_0.f_Words, one (strVP a_0.f_Rest), one (intVP .u64 a_0.f_Count)]), .res (lb (b1 1) 25 [bytesCk 32 (List.replicate 32 0)]), .res (lb (b3 0) 265 [bytesCk 8 s.2])] a w | .ret r => e = .ret ∧ RetOk Tryd.prog Tryd.f221 c (aggVP [bytesCk 32 r]) (fun _ => []) a w) ?_ _ (0, (List.replicate 8 0)) _ _ _ (h.sub [0, 1, 2, 3, 4, 5, 6, 7, 8] (by rfl)) hl17) ?_
  · clear hl17 hF h
    intro s a w o h hF
    obtain ⟨x6, x7⟩ := s
    change sha_State_End.b1 a_0 x6 x7 = some o at hF
    unfold sha_State_End.b1 at hF
    change SatL c [.slot 1 (lpVP (b1 0) 0), .slot 2 (lpVP (b1 1) 0), .slot 3 (intVP .u64 (IntKind.wrap .u64 (8 * a_0.f_Count))), .slot 4 (intVP .i64 ((IntKind.wrap .i64 (119 - ((a_0.f_Rest.length : Int).tmod 64))).tmod 64)), .slot 5 (lpVP (b3 0) 0), .slot 20 (intVP .i64 x6), .res (lb (b1 0) 311 [intsCk .u32 8 a_0.f_Words, one (strVP a_0.f_Rest), one (intVP .u64 a_0.f_Count)]), .res (lb (b1 1) 25 [bytesCk 32 (List.replicate 32 0)]), .res (lb (b3 0) 265 [bytesCk 8 x7])] a w at h
    refine regS mixed hn hG h [0, 1, 2, 3, 4, 5, 500, 6, 7, 8] (ov [5] (op_bin bin_lss q0 qi) .nil) fun _ a w h => ?_
    refine wp_seq ?_
    refine cnd h hF 6 [0, 1, 2, 3, 4, 5, 7, 8, 9] [0, 1, 2, 3, 4, 5, 7, 8, 9] (fun hb13 hF h => ?_) (fun hb13 hF h => ?_)
    · refine wp_skip ?_
      show Code.wp Tryd.prog _ _ a w
      refine wp_seq ?_
      refine wp_block ?_
      refine regS mixed hn hG h [0, 1, 2, 3, 4, 500, 5, 6, 7, 8] (ov [5] (op_move q0) <| ov [500] (op_assign q0) .nil) fun _ a w h => ?_
      obtain ⟨hv14, hF⟩ := ite_some hF
      obtain ⟨hv15, hF⟩ := ite_some hF
      refine reg mixed hn hG h [0, 1, 2, 3, 4, 6, 7, 8, 500] (ov [5] (op_move q0) <| ov [2] (op_move q0) <| ov [5] (op_move q0) <| ov [500] (op_bin bin_mul qi q0) <| ov [500] (op_bin bin_sub qi q0) <| ov [503, 500] (op_bin (bin_shr hv14) q0 q1) <| ov [500] (op_convert_int Tryd.underlying27 Tryd.underlying5 q0) <| ov [4, 506] (op_indexAddr_lb Tryd.underlying265 Tryd.sizeOf5 q0 q1 hv15) <| ou [500, 501] 9 (op_store_lbB (i := x6) [] [] Tryd.sizeOf5 q0 q1 rfl hv15) .nil) fun _ a w h => ?_
      show Code.wp Tryd.prog _ _ a w
      refine reg mixed hn hG h [0, 1, 2, 3, 4, 500, 6, 7, 8] (ov [5] (op_bin bin_add q0 qi) <| od [500] 5 (op_move q0) .nil) fun _ a w h => ?_
      obtain rfl := Option.some.inj hF
      exact ⟨rfl, h.sub [0, 1, 2, 3, 4, 5, 6, 7, 8] (by rfl)⟩
    · refine wp_exit ?_
      obtain rfl := Option.some.inj hF
      exact ⟨exit_ne _, rfl, h.sub [0, 1, 3, 4, 6, 7, 8] (by rfl)⟩
  · clear hl17
    intro e a w hq
    cases cr16 with
    | ret r18 =>
      obtain ⟨rfl, hq⟩ := hq
      obtain rfl := Option.some.inj hF
      exact ⟨.inl rfl, hq⟩
    | next s19 =>
      obtain ⟨y20, y21⟩ := s19
      obtain ⟨rfl, h⟩ := hq
      change SatL c [.slot 1 (lpVP (b1 0) 0), .slot 2 (lpVP (b1 1) 0), .slot 4 (intVP .i64 ((IntKind.wrap .i64 (119 - ((a_0.f_Rest.length : Int).tmod 64))).tmod 64)), .slot 5 (lpVP (b3 0) 0), .res (lb (b1 0) 311 [intsCk .u32 8 a_0.f_Words, one (strVP a_0.f_Rest), one (intVP .u64 a_0.f_Count)]), .res (lb (b1 1) 25 [bytesCk 32 (List.replicate 32 0)]), .res (lb (b3 0) 265 [bytesCk 8 y21])] a w at h
      refine inBlock_at ?_
      show Code.wp Tryd.prog _ _ a w
      obtain ⟨hv22, hF⟩ := ite_some hF
      obtain ⟨hv23, hF⟩ := ite_some hF
      obtain ⟨hv24, hF⟩ := ite_some hF
      obtain ⟨r25, hr25, hF⟩ := bind_some hF
      refine regS mixed hn hG h [0, 1, 500, 5] (ov [0, 4] (op_load_w 1 Tryd.isAgg311 Tryd.sizeOf311 q0) <| ov [2] (op_move q0) <| oc [500] [] Tryd.call230 (repeat_ok hv22) ⟨(opc (sc _ (by decide))), q0, trivial⟩ <| ov [500] (op_bin (bin_sadd hv23) (opc (sc _ (by decide))) q0) <| ov [3] (op_slice_lb (a := 0) (b := 8) Tryd.underlying265 Tryd.sizeOf5 q0 rfl rfl (by decide)) <| ov [500, 6] (op_str_lsl [] [] 1 Tryd.underlying259 Tryd.underlying5 Tryd.underlying9 q0 rfl rfl (by decide) (by decide)) <| ov [502, 500] (op_bin (bin_sadd hv24) q0 q1) <| oc [506, 500] [] Tryd.call220 (sha_State_Add_ok hr25) ⟨q0, q1, trivial⟩ <| ou [0, 500] 4 (op_store_w Tryd.sizeOf311 q0 q1 (cells_agg _)) .nil) fun _ a w h => ?_
      refine regS mixed hn hG h [0, 1, 501, 2, 3, 500] (ob [] (op_alloc Tryd.zeroValue25 z25) .nil) fun b26 a w h => ?_
      refine wp_seq ?_
      refine regS mixed hn hG h [1, 2, 501, 500, 4, 5] (ov [0] (op_fieldAddr_lbm (p := (b1 0)) (n := 8) 0 0 Tryd.underlying311 rfl Tryd.sizeOf280 (by decide) q0 rfl) <| ov [500, 3] (op_load_lb [] [intsCk .u32 8 r25.f_Words] [one (strVP r25.f_Rest), one (intVP .u64 r25.f_Count)] 1 Tryd.isAgg280 Tryd.sizeOf280 q0 rfl rfl rfl) <| ov [] (op_move qi) .nil) fun _ a w h => ?_
      refine wp_block ?_
      obtain ⟨cr75, hl76, hF⟩ := bind_some hF
      refine wp_mono (wp_loopN (R := (List UInt8)) (S := Int × (List UInt8)) (fun s a w => SatL c [.slot 2 (lpVP (b1 1) 0), .slot 7 (lpVP (b26 0) 0), .slot 41 (aggVP [intsCk .u32 8 r25.f_Words]), .slot 42 (intVP .i64 s.1), .res (lb (b1 1) 25 [bytesCk 32 (List.replicate 32 0)]), .res (lb (b26 0) 25 [bytesCk 32 s.2])] a w) (fun res e a w => match res with | .next s => e = .exit 2 ∧ SatL c [.slot 2 (lpVP (b1 1) 0), .slot 7 (lpVP (b26 0) 0), .res (lb (b1 1) 25 [bytesCk 32 (List.replicate 32 0)]), .res (lb (b26 0) 25 [bytesCk 32 s.2])] a w | .ret r => e = .ret ∧ RetOk Tryd.prog Tryd.f221 c (aggVP [bytesCk 32 r]) (fun _ => []) a w) ?_ _ (0, (List.replicate 32 0)) _ _ _ (h.sub [0, 1, 2, 3, 4, 5] (by rfl)) hl76) ?_
      · clear hl76 hF h
        intro s a w o h hF
        obtain ⟨x38, x39⟩ := s
        change sha_State_End.b2 r25 x38 x39 = some o at hF
        unfold sha_State_End.b2 at hF
        change SatL c [.slot 2 (lpVP (b1 1) 0), .slot 7 (lpVP (b26 0) 0), .slot 41 (aggVP [intsCk .u32 8 r25.f_Words]), .slot 42 (intVP .i64 x38), .res (lb (b1 1) 25 [bytesCk 32 (List.replicate 32 0)]), .res (lb (b26 0) 25 [bytesCk 32 x39])] a w at h
        refine regS mixed hn hG h [0, 1, 2, 3, 500, 4, 5] (ov [3] (op_bin bin_lss q0 qi) .nil) fun _ a w h => ?_
        refine wp_seq ?_
        refine cnd h hF 4 [0, 1, 2, 3, 5, 6] [0, 1, 2, 3, 5, 6] (fun hb54 hF h => ?_) (fun hb54 hF h => ?_)
        · refine wp_skip ?_
          show Code.wp Tryd.prog _ _ a w
          refine wp_seq ?_
          refine wp_block ?_
          obtain ⟨hv55, hF⟩ := ite_some hF
          refine regS mixed hn hG h [0, 1, 501, 500, 2, 3, 4, 5] (ov [3] (op_move q0) <| ov [2, 3] (op_index_aggI Tryd.underlying280 Tryd.sizeOf22 Tryd.isAgg22 q0 q1 hv55) <| ov [501] (op_assign q0) <| ov [501] (op_assign q0) .nil) fun _ a w h => ?_
          refine regS mixed hn hG h [0, 1, 2, 3, 4, 5, 500, 6, 7] (ov [] (op_move qi) .nil) fun _ a w h => ?_
          refine wp_block ?_
          obtain ⟨cr69, hl70, hF⟩ := bind_some hF
          refine wp_mono (wp_loopN (R := (List UInt8)) (S := Int × (List UInt8)) (fun s a w => SatL c [.slot 2 (lpVP (b1 1) 0), .slot 7 (lpVP (b26 0) 0), .slot 8 (intVP .i64 x38), .slot 9 (intVP .u32 (r25.f_Words.getD x38.toNat 0)), .slot 41 (aggVP [intsCk .u32 8 r25.f_Words]), .slot 42 (intVP .i64 x38), .slot 46 (intVP .i64 s.1), .res (lb (b1 1) 25 [bytesCk 32 (List.replicate 32 0)]), .res (lb (b26 0) 25 [bytesCk 32 s.2])] a w) (fun res e a w => match res with | .next s => e = .exit 4 ∧ SatL c [.slot 2 (lpVP (b1 1) 0), .slot 7 (lpVP (b26 0) 0), .slot 41 (aggVP [intsCk .u32 8 r25.f_Words]), .slot 42 (intVP .i64 x38), .res (lb (b1 1) 25 [bytesCk 32 (List.replicate 32 0)]), .res (lb (b26 0) 25 [bytesCk 32 s.2])] a w | .ret r => e = .ret ∧ RetOk Tryd.prog Tryd.f221 c (aggVP [bytesCk 32 r]) (fun _ => []) a w) ?_ _ (0, x39) _ _ _ (h.sub [0, 1, 2, 3, 4, 5, 6, 7, 8] (by rfl)) hl70) ?_
          · clear hl70 hF h
            intro s a w o h hF
            obtain ⟨x59, x60⟩ := s
            change sha_State_End.b3 r25 x38 x59 x60 = some o at hF
            unfold sha_State_End.b3 at hF
            change SatL c [.slot 2 (lpVP (b1 1) 0), .slot 7 (lpVP (b26 0) 0), .slot 8 (intVP .i64 x38), .slot 9 (intVP .u32 (r25.f_Words.getD x38.toNat 0)), .slot 41 (aggVP [intsCk .u32 8 r25.f_Words]), .slot 42 (intVP .i64 x38), .slot 46 (intVP .i64 x59), .res (lb (b1 1) 25 [bytesCk 32 (List.replicate 32 0)]), .res (lb (b26 0) 25 [bytesCk 32 x60])] a w at h
            refine regS mixed hn hG h [0, 1, 2, 3, 4, 5, 6, 500, 7, 8] (ov [6] (op_bin bin_lss q0 qi) .nil) fun _ a w h => ?_
            refine wp_seq ?_
            refine cnd h hF 7 [0, 1, 2, 3, 4, 5, 6, 8, 9] [0, 1, 2, 3, 4, 5, 6, 8, 9] (fun hb66 hF h => ?_) (fun hb66 hF h => ?_)
            · refine wp_skip ?_
              show Code.wp Tryd.prog _ _ a w
              refine wp_seq ?_
              refine wp_block ?_
              refine regS mixed hn hG h [0, 1, 2, 3, 500, 4, 5, 6, 7, 8] (ov [6] (op_move q0) <| ov [500] (op_assign q0) .nil) fun _ a w h => ?_
              obtain ⟨hv67, hF⟩ := ite_some hF
              obtain ⟨hv68, hF⟩ := ite_some hF
              refine reg mixed hn hG h [0, 1, 2, 3, 5, 6, 7, 8, 500] (ov [2] (op_move q0) <| ov [500] (op_bin bin_mul qi q0) <| ov [4] (op_move q0) <| ov [501, 500] (op_bin bin_add q0 q1) <| ov [3] (op_move q0) <| ov [4] (op_move q0) <| ov [500] (op_bin bin_mul qi q0) <| ov [500] (op_bin bin_sub qi q0) <| ov [503, 500] (op_bin (bin_shr hv67) q0 q1) <| ov [500] (op_convert_int Tryd.underlying22 Tryd.underlying5 q0) <| ov [1, 506] (op_indexAddr_lb Tryd.underlying25 Tryd.sizeOf5 q0 q1 hv68) <| ou [500, 501] 9 (op_store_lbB (i := IntKind.wrap .i64 ((IntKind.wrap .i64 (4 * x38)) + x59)) [] [] Tryd.sizeOf5 q0 q1 rfl hv68) .nil) fun _ a w h => ?_
              show Code.wp Tryd.prog _ _ a w
              refine reg mixed hn hG h [0, 1, 2, 3, 4, 5, 500, 7, 8] (ov [6] (op_bin bin_add q0 qi) <| od [500] 6 (op_move q0) .nil) fun _ a w h => ?_
              obtain rfl := Option.some.inj hF
              exact ⟨rfl, h.sub [0, 1, 2, 3, 4, 5, 6, 7, 8] (by rfl)⟩
            · refine wp_exit ?_
              obtain rfl := Option.some.inj hF
              exact ⟨exit_ne _, rfl, h.sub [0, 1, 4, 5, 7, 8] (by rfl)⟩
          · clear hl70
            intro e a w hq
            cases cr69 with
            | ret r71 =>
              obtain ⟨rfl, hq⟩ := hq
              obtain rfl := Option.some.inj hF
              exact ⟨ret_ne, rfl, hq⟩
            | next s72 =>
              obtain ⟨y73, y74⟩ := s72
              obtain ⟨rfl, h⟩ := hq
              change SatL c [.slot 2 (lpVP (b1 1) 0), .slot 7 (lpVP (b26 0) 0), .slot 41 (aggVP [intsCk .u32 8 r25.f_Words]), .slot 42 (intVP .i64 x38), .res (lb (b1 1) 25 [bytesCk 32 (List.replicate 32 0)]), .res (lb (b26 0) 25 [bytesCk 32 y74])] a w at h
              refine inBlock_at ?_
              show Code.wp Tryd.prog _ _ a w
              refine reg mixed hn hG h [0, 1, 2, 500, 4, 5] (ov [3] (op_bin bin_add q0 qi) <| od [500] 3 (op_move q0) .nil) fun _ a w h => ?_
              obtain rfl := Option.some.inj hF
              exact ⟨rfl, h.sub [0, 1, 2, 3, 4, 5] (by rfl)⟩
        · refine wp_exit ?_
          obtain rfl := Option.some.inj hF
          exact ⟨exit_ne _, rfl, h.sub [0, 1, 4, 5] (by rfl)⟩
      · clear hl76
        intro e a w hq
        cases cr75 with
        | ret r77 =>
          obtain ⟨rfl, hq⟩ := hq
          obtain rfl := Option.some.inj hF
          exact ⟨.inl rfl, hq⟩
        | next s78 =>
          obtain ⟨y79, y80⟩ := s78
          obtain ⟨rfl, h⟩ := hq
          change SatL c [.slot 2 (lpVP (b1 1) 0), .slot 7 (lpVP (b26 0) 0), .res (lb (b1 1) 25 [bytesCk 32 (List.replicate 32 0)]), .res (lb (b26 0) 25 [bytesCk 32 y80])] a w at h
          refine inBlock_at ?_
          show Code.wp Tryd.prog _ _ a w
          refine regS mixed hn hG h [0, 500] (ov [1, 3] (op_load_w 1 Tryd.isAgg25 Tryd.sizeOf25 q0) <| ou [0, 500] 2 (op_store_w Tryd.sizeOf25 q0 q1 (cells_agg _)) .nil) fun _ a w h => ?_
          refine wp_ret ?_
          obtain rfl := Option.some.inj hF
          exact ⟨.inl rfl, ret1 h Tryd.results221 (r_cell 0 1 rfl rfl Tryd.isAgg25 Tryd.sizeOf25 rfl) [] [] rfl rfl rfl⟩

def sha_Sum.b1 (a_0 : List (List UInt8)) (x7 : Int) (x8 : S_sha_State) : Option (Flow (List UInt8) (Int × S_sha_State)) := (if (decide (x7 < (a_0.length : Int))) = true then (if (0 : Int) ≤ x7 ∧ x7 < a_0.length then ((sha_State_Add x8 (a_0.getD x7.toNat default)).bind fun r16 => some (.cont (IntKind.wrap .i64 (x7 + 1), r16))) else none) else some (.brk (x7, x8)))
def sha_Sum (a_0 : List (List UInt8)) : Option (List UInt8) := ((sha_Begin).bind fun r2 => ((loopN (fun s : Int × S_sha_State => sha_Sum.b1 a_0 s.1 s.2) (((a_0.length : Int) - 0 : Int).toNat + 2) (0, r2)).bind fun cr => match cr with | .ret r => some r | .next (y21, y22) => ((sha_State_End y22).bind fun r23 => some r23)))
theorem sha_Sum_ok {a_0 : List (List UInt8)} {r : (List UInt8)} (hF : sha_Sum a_0 = some r) : CallOk Tryd.prog KG 190 [(slVP strC a_0)] [] (fun _ => []) (aggVP [bytesCk 32 r]) := by
  refine CallOk.intro 19 Tryd.func190 rfl Tryd.ntmps190 (Nat.le_of_ble_eq_true rfl) ?_
  intro c a w hG hn h
  unfold sha_Sum at hF
  change SatL c [.slot 0 (slVP strC a_0)] a w at h
  refine regS mixed hn hG h [0, 501, 500] (ob [] (op_alloc Tryd.zeroValue25 z25) .nil) fun b1 a w h => ?_
  obtain ⟨r2, hr2, hF⟩ := bind_some hF
  refine regS mixed hn hG h [0, 1, 502, 2, 500] (oc [] [] Tryd.call219 (sha_Begin_ok hr2) trivial <| ob [] (op_alloc Tryd.zeroValue311 z311) <| og [501, 502] [500] [.res 1 100000 (fun v1_ _ => (lb (v1_) 311 [intsCk .u32 8 r2.f_Words, one (strVP r2.f_Rest), one (intVP .u64 r2.f_Count)]))] (GOk.plain (op_store_w Tryd.sizeOf311 q0 q1 (cells_agg _)) rfl) .nil) fun b3 a w h => ?_
  refine wp_seq ?_
  refine regS mixed hn hG h [1, 2, 502, 501, 500, 3, 4] (ov [0] (op_move q0) <| ov [500] (op_len_sl Tryd.underlying151 q0) <| ov [] (op_move qi) .nil) fun _ a w h => ?_
  refine wp_block ?_
  obtain ⟨cr17, hl18, hF⟩ := bind_some hF
  refine wp_mono (wp_loopN (R := (List UInt8)) (S := Int × S_sha_State) (fun s a w => SatL c [.slot 2 (lpVP (b1 0) 0), .slot 3 (lpVP (b3 1) 0), .slot 7 (slVP strC a_0), .slot 8 (intVP .i64 (a_0.length : Int)), .slot 9 (intVP .i64 s.1), .res (lb (b1 0) 25 [bytesCk 32 (List.replicate 32 0)]), .res (lb (b3 1) 311 [intsCk .u32 8 s.2.f_Words, one (strVP s.2.f_Rest), one (intVP .u64 s.2.f_Count)])] a w) (fun res e a w => match res with | .next s => e = .exit 0 ∧ SatL c [.slot 2 (lpVP (b1 0) 0), .slot 3 (lpVP (b3 1) 0), .res (lb (b1 0) 25 [bytesCk 32 (List.replicate 32 0)]), .res (lb (b3 1) 311 [intsCk .u32 8 s.2.f_Words, one (strVP s.2.f_Rest), one (intVP .u64 s.2.f_Count)])] a w | .ret r => e = .ret ∧ RetOk Tryd.prog Tryd.f190 c (aggVP [bytesCk 32 r]) (fun _ => []) a w) ?_ _ (0, r2) _ _ _ (h.sub [0, 1, 2, 3, 4, 5, 6] (by rfl)) hl18) ?_
  · clear hl18 hF h
    intro s a w o h hF
    obtain ⟨x7, x8⟩ := s
    change sha_Sum.b1 a_0 x7 x8 = some o at hF
    unfold sha_Sum.b1 at hF
    change SatL c [.slot 2 (lpVP (b1 0) 0), .slot 3 (lpVP (b3 1) 0), .slot 7 (slVP strC a_0), .slot 8 (intVP .i64 (a_0.length : Int)), .slot 9 (intVP .i64 x7), .res (lb (b1 0) 25 [bytesCk 32 (List.replicate 32 0)]), .res (lb (b3 1) 311 [intsCk .u32 8 x8.f_Words, one (strVP x8.f_Rest), one (intVP .u64 x8.f_Count)])] a w at h
    refine regS mixed hn hG h [0, 1, 2, 3, 4, 500, 5, 6] (ov [4, 3] (op_bin bin_lss q0 q1) .nil) fun _ a w h => ?_
    refine wp_seq ?_
    refine cnd h hF 5 [0, 1, 2, 3, 4, 6, 7] [0, 1, 2, 3, 4, 6, 7] (fun hb14 hF h => ?_) (fun hb14 hF h => ?_)
    · refine wp_skip ?_
      show Code.wp Tryd.prog _ _ a w
      refine wp_seq ?_
      refine wp_block ?_
      obtain ⟨hv15, hF⟩ := ite_some hF
      refine regS mixed hn hG h [0, 1, 500, 2, 3, 4, 5, 6] (ov [2, 4] (op_indexAddr_sl Tryd.underlying151 Tryd.sizeOf9 lens_strC q0 q1 hv15) <| ov [500] (op_load_pp1 [] Tryd.isAgg9 q0) <| ov [500] (op_assign q0) .nil) fun _ a w h => ?_
      obtain ⟨r16, hr16, hF⟩ := bind_some hF
      refine reg mixed hn hG h [0, 1, 3, 4, 5, 6, 500] (ov [1, 7] (op_load_w 1 Tryd.isAgg311 Tryd.sizeOf311 q0) <| ov [2] (op_move q0) <| oc [501, 500] [] Tryd.call220 (sha_State_Add_ok hr16) ⟨q0, q1, trivial⟩ <| ou [1, 500] 7 (op_store_w Tryd.sizeOf311 q0 q1 (cells_agg _)) .nil) fun _ a w h => ?_
      show Code.wp Tryd.prog _ _ a w
      refine reg mixed hn hG h [0, 1, 2, 3, 500, 5, 6] (ov [4] (op_bin bin_add q0 qi) <| od [500] 4 (op_move q0) .nil) fun _ a w h => ?_
      obtain rfl := Option.some.inj hF
      exact ⟨rfl, h.sub [0, 1, 2, 3, 4, 5, 6] (by rfl)⟩
    · refine wp_exit ?_
      obtain rfl := Option.some.inj hF
      exact ⟨exit_ne _, rfl, h.sub [0, 1, 5, 6] (by rfl)⟩
  · clear hl18
    intro e a w hq
    cases cr17 with
    | ret r19 =>
      obtain ⟨rfl, hq⟩ := hq
      obtain rfl := Option.some.inj hF
      exact ⟨.inl rfl, hq⟩
    | next s20 =>
      obtain ⟨y21, y22⟩ := s20
      obtain ⟨rfl, h⟩ := hq
      change SatL c [.slot 2 (lpVP (b1 0) 0), .slot 3 (lpVP (b3 1) 0), .res (lb (b1 0) 25 [bytesCk 32 (List.replicate 32 0)]), .res (lb (b3 1) 311 [intsCk .u32 8 y22.f_Words, one (strVP y22.f_Rest), one (intVP .u64 y22.f_Count)])] a w at h
      refine inBlock_at ?_
      show Code.wp Tryd.prog _ _ a w
      obtain ⟨r23, hr23, hF⟩ := bind_some hF
      refine regS mixed hn hG h [0, 500] (ov [1, 3] (op_load_w 1 Tryd.isAgg311 Tryd.sizeOf311 q0) <| oc [500] [] Tryd.call221 (sha_State_End_ok hr23) ⟨q0, trivial⟩ <| ou [0, 500] 2 (op_store_w Tryd.sizeOf25 q0 q1 (cells_agg _)) .nil) fun _ a w h => ?_
      refine wp_ret ?_
      obtain rfl := Option.some.inj hF
      exact ⟨.inl rfl, ret1 h Tryd.results190 (r_cell 0 1 rfl rfl Tryd.isAgg25 Tryd.sizeOf25 rfl) [] [] rfl rfl rfl⟩

def digest_Log_note.n (a_1 : List UInt8) (a_2 : List UInt8) : Option (Option O_Log) := some none
def digest_Log_note.j2 (x6 : List ((List UInt8) × (List UInt8))) (x7 : List ((List UInt8) × Bool)) : Option (Option O_Log) := some (some ⟨x6, x7⟩)
def digest_Log_note.j1 (s_0 : O_Log) (a_1 : List UInt8) (a_2 : List UInt8) (x5 : Bool) : Option (Option O_Log) := (if x5 = true then digest_Log_note.j2 s_0.f_inputs (upd a_2 true s_0.f_others) else digest_Log_note.j2 (upd a_1 a_2 s_0.f_inputs) s_0.f_others)
def digest_Log_note.s (s_0 : O_Log) (a_1 : List UInt8) (a_2 : List UInt8) : Option (Option O_Log) := (if ((lkp a_1 s_0.f_inputs).isSome) = true then digest_Log_note.j1 s_0 a_1 a_2 (!decide (((lkp a_1 s_0.f_inputs).getD []) = a_2)) else digest_Log_note.j1 s_0 a_1 a_2 false)
def digest_Log_note (L_0 : Option O_Log) (a_1 : List UInt8) (a_2 : List UInt8) : Option (Option O_Log) := match L_0 with | none => digest_Log_note.n a_1 a_2 | some s_0 => digest_Log_note.s s_0 a_1 a_2
theorem digest_Log_note_ok {p_0 : Value} {L_0 : Option O_Log} {a_1 : List UInt8} {a_2 : List UInt8} {r : (Option O_Log)} (hF : digest_Log_note L_0 a_1 a_2 = some r) : CallOk Tryd.prog KG 191 [(eqVP p_0), (aggVP [bytesCk 32 a_1]), (strVP a_2)] [(Log_e p_0 L_0)] (fun _ => [Log_e p_0 r]) (tupVP []) := by
  refine CallOk.intro 36 Tryd.func191 rfl Tryd.ntmps191 (Nat.le_of_ble_eq_true rfl) ?_
  intro c a w hG hn h
  unfold digest_Log_note at hF
  change SatL c [.slot 0 (eqVP p_0), .slot 1 (aggVP [bytesCk 32 a_1]), .slot 2 (strVP a_2), .res (Log_e p_0 L_0)] a w at h
  obtain ⟨h_0_0, h⟩ := h.ex 3 rfl
  obtain ⟨h_0_1, h⟩ := h.ex 3 rfl
  change SatL c [.slot 0 (eqVP p_0), .slot 1 (aggVP [bytesCk 32 a_1]), .slot 2 (strVP a_2), .res (Log_o p_0 h_0_0 h_0_1 L_0)] a w at h
  cases L_0 with
  | none =>
    change digest_Log_note.n a_1 a_2 = some r at hF
    unfold digest_Log_note.n at hF
    obtain rfl := h.isp 3 rfl (fun _ _ _ q => q.2)
    replace h := h.slotc 0 rfl (V' := ptrVP (.pointer none) false) (fun _ _ h => ⟨h, rfl⟩)
    change SatL c [.slot 0 (ptrVP (.pointer none) false), .slot 1 (aggVP [bytesCk 32 a_1]), .slot 2 (strVP a_2), .res (Log_o (.pointer none) h_0_0 h_0_1 none)] a w at h
    refine regS mixed hn hG h [0, 2, 501, 3, 500] (ob [1] (op_box q0 (cells_agg _)) .nil) fun b1 a w h => ?_
    refine wp_seq ?_
    refine regS mixed hn hG h [0, 1, 2, 500, 3, 4] (ov [0] (op_move q0) <| ov [500] (op_bin (bin_pnil Tryd.underlying156) q0 (opc (ec _))) .nil) fun _ a w h => ?_
    refine cond_L h 3 rfl (fun hb2 => ?_) (fun hb2 => ?_)
    · skip
      replace h := h.sel [4]
      refine wp_ret ?_
      replace h := h.conv 0 rfl Log_packo
      change SatL c [.res (Log_e (.pointer none) none)] a w at h
      obtain rfl := Option.some.inj hF
      exact ⟨.inl rfl, retn h (rs := []) (Vs := []) Tryd.results191 (by decide) trivial [0] [(Log_e (.pointer none) none)] rfl rfl rfl⟩
    · cases hb2
  | some s_0 =>
    change digest_Log_note.s s_0 a_1 a_2 = some r at hF
    unfold digest_Log_note.s at hF
    have hp := h.isp 3 rfl (fun Φ f w q => Log_lp Φ f w q)
    replace h := h.slotc 0 rfl (V' := lpVP p_0 0) (fun _ _ h => eq_lp h hp)
    replace h := h.sep (R := lb p_0 318 [one (eqVP h_0_0), one (eqVP h_0_1)]) (S := (RP.sep (mapR h_0_0 arrK (fun l => l.length = 32) (fun u y => RP.val (strVP y) u) s_0.f_inputs) (mapR h_0_1 strK (fun _ => True) (fun u y => RP.val (boolVP y) u) s_0.f_others))) 3 rfl
    replace h := h.sep (R := mapR h_0_0 arrK (fun l => l.length = 32) (fun u y => RP.val (strVP y) u) s_0.f_inputs) (S := (mapR h_0_1 strK (fun _ => True) (fun u y => RP.val (boolVP y) u) s_0.f_others)) 4 rfl
    replace h := h.sub [0, 1, 2, 3, 4, 5] (by rfl)
    change SatL c [.slot 0 (lpVP p_0 0), .slot 1 (aggVP [bytesCk 32 a_1]), .slot 2 (strVP a_2), .res (lb p_0 318 [one (eqVP h_0_0), one (eqVP h_0_1)]), .res (mapR h_0_0 arrK (fun l => l.length = 32) (fun u y => RP.val (strVP y) u) s_0.f_inputs), .res (mapR h_0_1 strK (fun _ => True) (fun u y => RP.val (boolVP y) u) s_0.f_others)] a w at h
    refine regS mixed hn hG h [0, 2, 501, 3, 4, 5, 500] (ob [1] (op_box q0 (cells_agg _)) .nil) fun b3 a w h => ?_
    refine wp_seq ?_
    refine regS mixed hn hG h [0, 1, 2, 500, 3, 4, 5, 6] (ov [0] (op_move q0) <| ov [500] (op_bin (bin_pnil Tryd.underlying156) (lp_ptr q0) (opc (ec _))) .nil) fun _ a w h => ?_
    refine cond_L h 3 rfl (fun hb4 => ?_) (fun hb4 => ?_)
    · cases hb4
    · skip
      replace h := h.sel [0, 1, 2, 4, 5, 6, 7]
      refine wp_skip ?_
      show Code.wp Tryd.prog _ _ a w
      refine regS mixed hn hG h [0, 1, 2, 501, 500, 3, 4, 5, 6] (ov [0] (op_move q0) <| ov [500] (op_nilCheck q0 (ptr_lp _ _)) <| ov [500] (op_fieldAddr_lbm (p := p_0) (n := 1) 0 0 Tryd.underlying318 rfl Tryd.sizeOf315 (by decide) q0 rfl) <| ov [500, 3] (op_load_lb1 [] [one (eqVP h_0_1)] 1 Tryd.isAgg315 q0 rfl rfl) <| ov [2, 6] (op_load_w 1 Tryd.isAgg25 Tryd.sizeOf25 q0) <| ov [501, 500, 4] (op_lookup strVP [] 2 Tryd.underlying315 (keyArr Tryd.underlying25 Tryd.underlying5 Tryd.type5 Tryd.sizeOf5 Tryd.isAgg5) Tryd.zeroValue9 q0 q1 hk_arr rfl res_id (fun _ _ _ _ _ h => h.2) (fun _ => ⟨rfl, by decide⟩)) <| ov [500] (op_move q0) <| ov [500] (op_extract q0 rfl) <| ov [501] (op_extract q0 rfl) <| ov [501] (op_assign q0) <| ov [501] (op_assign q0) .nil) fun _ a w h => ?_
      refine wp_seq ?_
      refine wp_cut (fun a w => ∃ (x5 : Bool), digest_Log_note.j1 s_0 a_1 a_2 x5 = some r ∧ SatL c [.slot 0 (lpVP p_0 0), .slot 2 (strVP a_2), .slot 4 (lpVP (b3 0) 0), .slot 24 (boolVP x5), .res (lb p_0 318 [one (eqVP h_0_0), one (eqVP h_0_1)]), .res (mapR h_0_0 arrK (fun l => l.length = 32) (fun u y => RP.val (strVP y) u) s_0.f_inputs), .res (mapR h_0_1 strK (fun _ => True) (fun u y => RP.val (boolVP y) u) s_0.f_others), .res (lb (b3 0) 25 [bytesCk 32 a_1])] a w) ?_ ?_
      · rcases Bool.eq_false_or_eq_true ((lkp a_1 s_0.f_inputs).isSome) with hb9 | hb9
        · replace hF := tt_of hb9 hF
          refine reg mixed hn hG h [0, 1, 2, 500, 5, 6, 7, 8] (ov [4] (op_move q0) <| ov [500] (op_move q0) <| oe [500, 3] [] (GOk.on_eq hb9 rfl rfl rfl (op_move q0)) <| oe [501, 1] [] (GOk.on_eq hb9 rfl rfl rfl (op_move q0)) <| oe [502, 501, 500] [] (GOk.on_eq hb9 rfl rfl rfl (op_bin bin_sneq q0 q1)) <| ov [503, 500] (op_pick_t hb9 q0 q1) .nil) fun _ a w h => ?_
          exact ⟨!decide (((lkp a_1 s_0.f_inputs).getD []) = a_2), hF, h.sub [0, 1, 2, 3, 4, 5, 6, 7] (by rfl)⟩
        · replace hF := ff_of hb9 hF
          refine reg mixed hn hG h [0, 1, 2, 500, 5, 6, 7, 8] (ov [4] (op_move q0) <| ov [500] (op_move q0) <| oe [500] [] (GOk.off_v (want := true) hb9 rfl rfl rfl rfl) <| oe [501] [] (GOk.off_v (want := true) hb9 rfl rfl rfl rfl) <| oe [502] [] (GOk.off_v (want := true) hb9 rfl rfl rfl rfl) <| ov [503] (op_pick_f hb9 q0 qb) .nil) fun _ a w h => ?_
          exact ⟨false, hF, h.sub [0, 1, 2, 3, 4, 5, 6, 7] (by rfl)⟩
      · clear h hF
        rintro a w ⟨x5, hF, h⟩
        unfold digest_Log_note.j1 at hF
        show Code.wp Tryd.prog _ _ a w
        refine wp_cut (fun a w => ∃ (x6 : List ((List UInt8) × (List UInt8))), ∃ (x7 : List ((List UInt8) × Bool)), digest_Log_note.j2 x6 x7 = some r ∧ SatL c [.res (lb p_0 318 [one (eqVP h_0_0), one (eqVP h_0_1)]), .res (mapR h_0_0 arrK (fun l => l.length = 32) (fun u y => RP.val (strVP y) u) x6), .res (mapR h_0_1 strK (fun _ => True) (fun u y => RP.val (boolVP y) u) x7)] a w) ?_ ?_
        · refine cnd h hF 3 [0, 1, 4, 5, 6] [0, 1, 2, 4, 5, 6, 7] (fun hb8 hF h => ?_) (fun hb8 hF h => ?_)
          · refine reg mixed hn hG h [2, 3, 500] (ov [0] (op_move q0) <| ov [500] (op_nilCheck q0 (ptr_lp _ _)) <| ov [500] (op_fieldAddr_lbm (p := p_0) (n := 1) 0 1 Tryd.underlying318 rfl Tryd.sizeOf316 (by decide) q0 rfl) <| ov [500, 2] (op_load_lb1 [one (eqVP h_0_0)] [] 1 Tryd.isAgg316 q0 rfl rfl) <| ov [1] (op_move q0) <| ou [501, 500] 4 (op_mapUpdate Tryd.underlying316 (keyStr Tryd.underlying9) q0 q1 hk_str qb) .nil) fun _ a w h => ?_
            exact ⟨s_0.f_inputs, upd a_2 true s_0.f_others, hF, h.sub [0, 1, 2] (by rfl)⟩
          · refine reg mixed hn hG h [3, 500, 5] (ov [0] (op_move q0) <| ov [500] (op_nilCheck q0 (ptr_lp _ _)) <| ov [500] (op_fieldAddr_lbm (p := p_0) (n := 1) 0 0 Tryd.underlying318 rfl Tryd.sizeOf315 (by decide) q0 rfl) <| ov [500, 3] (op_load_lb1 [] [one (eqVP h_0_1)] 1 Tryd.isAgg315 q0 rfl rfl) <| ov [2, 6] (op_load_w 1 Tryd.isAgg25 Tryd.sizeOf25 q0) <| ov [1] (op_move q0) <| ou [502, 501, 500] 4 (op_mapUpdate Tryd.underlying315 (keyArr Tryd.underlying25 Tryd.underlying5 Tryd.type5 Tryd.sizeOf5 Tryd.isAgg5) q0 q1 hk_arr q2) .nil) fun _ a w h => ?_
            exact ⟨upd a_1 a_2 s_0.f_inputs, s_0.f_others, hF, h.sub [0, 1, 2] (by rfl)⟩
        · clear h hF
          rintro a w ⟨x6, x7, hF, h⟩
          unfold digest_Log_note.j2 at hF
          replace h := h.unsep 1 2 rfl rfl (by decide)
          replace h := h.unsep 0 1 rfl rfl (by decide)
          replace h := h.conv 0 rfl (R' := Log_e p_0 (some ⟨x6, x7⟩)) (Log_packo (v0 := h_0_0) (v1 := h_0_1) (o := (some ⟨x6, x7⟩)))
          replace h := h.sub [0] (by rfl)
          change SatL c [.res (Log_e p_0 (some ⟨x6, x7⟩))] a w at h
          obtain rfl := Option.some.inj hF
          exact ⟨.inr rfl, retn h (rs := []) (Vs := []) Tryd.results191 (by decide) trivial [0] [(Log_e p_0 (some ⟨x6, x7⟩))] rfl rfl rfl⟩

def digest_Log_Of (L_0 : Option O_Log) (a_1 : Int) (a_2 : List (List UInt8)) : Option ((List UInt8) × (Option O_Log)) := ((digest_input a_1 a_2).bind fun r2 => ((sha_Sum [r2]).bind fun r3 => ((digest_Log_note L_0 r3 r2).bind fun r5 => some (r3, r5))))
theorem digest_Log_Of_ok {p_0 : Value} {L_0 : Option O_Log} {a_1 : Int} {a_2 : List (List UInt8)} {r : (List UInt8) × (Option O_Log)} (hF : digest_Log_Of L_0 a_1 a_2 = some r) : CallOk Tryd.prog KG 135 [(eqVP p_0), (intVP .u8 a_1), (slVP strC a_2)] [(Log_e p_0 L_0)] (fun _ => [Log_e p_0 r.2]) (aggVP [bytesCk 32 r.1]) := by
  refine CallOk.intro 20 Tryd.func135 rfl Tryd.ntmps135 (Nat.le_of_ble_eq_true rfl) ?_
  intro c a w hG hn h
  unfold digest_Log_Of at hF
  change SatL c [.slot 0 (eqVP p_0), .slot 1 (intVP .u8 a_1), .slot 2 (slVP strC a_2), .res (Log_e p_0 L_0)] a w at h
  refine regS mixed hn hG h [0, 1, 2, 501, 3, 500] (ob [] (op_alloc Tryd.zeroValue25 z25) .nil) fun b1 a w h => ?_
  obtain ⟨r2, hr2, hF⟩ := bind_some hF
  refine regS mixed hn hG h [0, 3, 500, 4, 5] (ov [1] (op_move q0) <| ov [2] (op_move q0) <| oc [501, 500] [] Tryd.call189 (digest_input_ok hr2) ⟨q0, q1, trivial⟩ <| ov [500] (op_assign q0) .nil) fun _ a w h => ?_
  obtain ⟨r3, hr3, hF⟩ := bind_some hF
  refine regS mixed hn hG h [0, 1, 2, 502, 3, 4, 500] (ov [2] (op_move q0) <| ov [500] (op_lit (xs := [.tmp 12]) (ys := [r2]) _ rfl Tryd.underlying151 Tryd.sizeOf9 Tryd.zeroValue9 rfl rfl (by decide) (by decide) ⟨⟨_, q0, (cells_one (one_str _))⟩, trivial⟩ lens_strC) <| oc [500] [] Tryd.call190 (sha_Sum_ok hr3) ⟨q0, trivial⟩ <| ob [] (op_alloc Tryd.zeroValue25 z25) <| og [501, 502] [500] [.res 3 100000 (fun v1_ _ => (lb (v1_) 25 [bytesCk 32 r3]))] (GOk.plain (op_store_w Tryd.sizeOf25 q0 q1 (cells_agg _)) rfl) .nil) fun b4 a w h => ?_
  obtain ⟨r5, hr5, hF⟩ := bind_some hF
  refine regS mixed hn hG h [1, 3, 5, 6, 500] (ov [0] (op_move q0) <| ov [3, 6] (op_load_w 1 Tryd.isAgg25 Tryd.sizeOf25 q0) <| ov [2] (op_move q0) <| oc [502, 501, 500] [4] Tryd.call191 (digest_Log_note_ok hr5) ⟨q0, q1, q2, trivial⟩ .nil) fun _ a w h => ?_
  refine regS mixed hn hG h [0, 500, 4] (ov [1, 3] (op_load_w 1 Tryd.isAgg25 Tryd.sizeOf25 q0) <| ou [0, 500] 2 (op_store_w Tryd.sizeOf25 q0 q1 (cells_agg _)) .nil) fun _ a w h => ?_
  refine wp_ret ?_
  obtain rfl := Option.some.inj hF
  exact ⟨.inl rfl, ret1 h Tryd.results135 (r_cell 0 1 rfl rfl Tryd.isAgg25 Tryd.sizeOf25 rfl) [2] [(Log_e p_0 r5)] rfl rfl rfl⟩

def letter_plain (a_0 : S_api_Letter) : Option (List UInt8) := ((wire_Word a_0.f_From).bind fun r2 => ((wire_Word a_0.f_Nonce).bind fun r3 => (if r2.length + r3.length ≤ mxl then ((wire_Word a_0.f_To).bind fun r5 => (if (r2 ++ r3).length + r5.length ≤ mxl then ((wire_Text a_0.f_Sender).bind fun r7 => (if ((r2 ++ r3) ++ r5).length + r7.length ≤ mxl then ((wire_Text a_0.f_Receiver).bind fun r9 => (if (((r2 ++ r3) ++ r5) ++ r7).length + r9.length ≤ mxl then ((wire_Text a_0.f_Body).bind fun r11 => (if ((((r2 ++ r3) ++ r5) ++ r7) ++ r9).length + r11.length ≤ mxl then some (((((r2 ++ r3) ++ r5) ++ r7) ++ r9) ++ r11) else none)) else none)) else none)) else none)) else none)))
theorem letter_plain_ok {a_0 : S_api_Letter} {r : (List UInt8)} (hF : letter_plain a_0 = some r) : CallOk Tryd.prog KG 148 [(aggVP [one (intVP .u32 a_0.f_From), one (intVP .u32 a_0.f_Nonce), one (intVP .u32 a_0.f_To), one (strVP a_0.f_Sender), one (strVP a_0.f_Receiver), one (strVP a_0.f_Body)])] [] (fun _ => []) (strVP r) := by
  refine CallOk.intro 26 Tryd.func148 rfl Tryd.ntmps148 (Nat.le_of_ble_eq_true rfl) ?_
  intro c a w hG hn h
  unfold letter_plain at hF
  change SatL c [.slot 0 (aggVP [one (intVP .u32 a_0.f_From), one (intVP .u32 a_0.f_Nonce), one (intVP .u32 a_0.f_To), one (strVP a_0.f_Sender), one (strVP a_0.f_Receiver), one (strVP a_0.f_Body)])] a w at h
  refine regS mixed hn hG h [502, 501] (ob [0] (op_box q0 (cells_agg _)) <| ov [] (op_assign (opc (sc _ (by decide)))) .nil) fun b1 a w h => ?_
  obtain ⟨r2, hr2, hF⟩ := bind_some hF
  obtain ⟨r3, hr3, hF⟩ := bind_some hF
  obtain ⟨hv4, hF⟩ := ite_some hF
  obtain ⟨r5, hr5, hF⟩ := bind_some hF
  obtain ⟨hv6, hF⟩ := ite_some hF
  obtain ⟨r7, hr7, hF⟩ := bind_some hF
  obtain ⟨hv8, hF⟩ := ite_some hF
  obtain ⟨r9, hr9, hF⟩ := bind_some hF
  obtain ⟨hv10, hF⟩ := ite_some hF
  obtain ⟨r11, hr11, hF⟩ := bind_some hF
  obtain ⟨hv12, hF⟩ := ite_some hF
  refine regS mixed hn hG h [500] (ov [0] (op_fieldAddr_lbm (p := (b1 0)) (n := 1) 0 0 Tryd.underlying67 rfl Tryd.sizeOf22 (by decide) q0 rfl) <| ov [500, 1] (op_load_lb1 [] [one (intVP .u32 a_0.f_Nonce), one (intVP .u32 a_0.f_To), one (strVP a_0.f_Sender), one (strVP a_0.f_Receiver), one (strVP a_0.f_Body)] 1 Tryd.isAgg22 q0 rfl rfl) <| oc [500] [] Tryd.call122 (wire_Word_ok hr2) ⟨q0, trivial⟩ <| ov [0] (op_fieldAddr_lbm (p := (b1 0)) (n := 1) 0 1 Tryd.underlying67 rfl Tryd.sizeOf22 (by decide) q0 rfl) <| ov [500, 1] (op_load_lb1 [one (intVP .u32 a_0.f_From)] [one (intVP .u32 a_0.f_To), one (strVP a_0.f_Sender), one (strVP a_0.f_Receiver), one (strVP a_0.f_Body)] 1 Tryd.isAgg22 q0 rfl rfl) <| oc [500] [] Tryd.call122 (wire_Word_ok hr3) ⟨q0, trivial⟩ <| ov [503, 500] (op_bin (bin_sadd hv4) q0 q1) <| ov [0] (op_fieldAddr_lbm (p := (b1 0)) (n := 1) 0 2 Tryd.underlying67 rfl Tryd.sizeOf22 (by decide) q0 rfl) <| ov [500, 1] (op_load_lb1 [one (intVP .u32 a_0.f_From), one (intVP .u32 a_0.f_Nonce)] [one (strVP a_0.f_Sender), one (strVP a_0.f_Receiver), one (strVP a_0.f_Body)] 1 Tryd.isAgg22 q0 rfl rfl) <| oc [500] [] Tryd.call122 (wire_Word_ok hr5) ⟨q0, trivial⟩ <| ov [503, 500] (op_bin (bin_sadd hv6) q0 q1) <| ov [0] (op_fieldAddr_lbm (p := (b1 0)) (n := 1) 0 3 Tryd.underlying67 rfl Tryd.sizeOf9 (by decide) q0 rfl) <| ov [500, 1] (op_load_lb1 [one (intVP .u32 a_0.f_From), one (intVP .u32 a_0.f_Nonce), one (intVP .u32 a_0.f_To)] [one (strVP a_0.f_Receiver), one (strVP a_0.f_Body)] 1 Tryd.isAgg9 q0 rfl rfl) <| oc [500] [] Tryd.call197 (wire_Text_ok hr7) ⟨q0, trivial⟩ <| ov [503, 500] (op_bin (bin_sadd hv8) q0 q1) <| ov [0] (op_fieldAddr_lbm (p := (b1 0)) (n := 1) 0 4 Tryd.underlying67 rfl Tryd.sizeOf9 (by decide) q0 rfl) <| ov [500, 1] (op_load_lb1 [one (intVP .u32 a_0.f_From), one (intVP .u32 a_0.f_Nonce), one (intVP .u32 a_0.f_To), one (strVP a_0.f_Sender)] [one (strVP a_0.f_Body)] 1 Tryd.isAgg9 q0 rfl rfl) <| oc [500] [] Tryd.call197 (wire_Text_ok hr9) ⟨q0, trivial⟩ <| ov [503, 500] (op_bin (bin_sadd hv10) q0 q1) <| ov [0] (op_fieldAddr_lbm (p := (b1 0)) (n := 1) 0 5 Tryd.underlying67 rfl Tryd.sizeOf9 (by decide) q0 rfl) <| ov [500, 1] (op_load_lb1 [one (intVP .u32 a_0.f_From), one (intVP .u32 a_0.f_Nonce), one (intVP .u32 a_0.f_To), one (strVP a_0.f_Sender), one (strVP a_0.f_Receiver)] [] 1 Tryd.isAgg9 q0 rfl rfl) <| oc [500] [] Tryd.call197 (wire_Text_ok hr11) ⟨q0, trivial⟩ <| ov [503, 500] (op_bin (bin_sadd hv12) q0 q1) <| ov [500] (op_assign q0) .nil) fun _ a w h => ?_
  refine wp_ret ?_
  obtain rfl := Option.some.inj hF
  exact ⟨.inl rfl, ret1 h Tryd.results148 (r_tmp 0 rfl) [] [] rfl rfl rfl⟩

def letter_Leaf (L_0 : Option O_Log) (a_1 : S_api_Letter) : Option ((List UInt8) × (Option O_Log)) := ((letter_plain a_1).bind fun r3 => ((digest_Log_Of L_0 5 [r3]).bind fun r4 => some (r4.1, r4.2)))
theorem letter_Leaf_ok {p_0 : Value} {L_0 : Option O_Log} {a_1 : S_api_Letter} {r : (List UInt8) × (Option O_Log)} (hF : letter_Leaf L_0 a_1 = some r) : CallOk Tryd.prog KG 91 [(eqVP p_0), (aggVP [one (intVP .u32 a_1.f_From), one (intVP .u32 a_1.f_Nonce), one (intVP .u32 a_1.f_To), one (strVP a_1.f_Sender), one (strVP a_1.f_Receiver), one (strVP a_1.f_Body)])] [(Log_e p_0 L_0)] (fun _ => [Log_e p_0 r.2]) (aggVP [bytesCk 32 r.1]) := by
  refine CallOk.intro 10 Tryd.func91 rfl Tryd.ntmps91 (Nat.le_of_ble_eq_true rfl) ?_
  intro c a w hG hn h
  unfold letter_Leaf at hF
  change SatL c [.slot 0 (eqVP p_0), .slot 1 (aggVP [one (intVP .u32 a_1.f_From), one (intVP .u32 a_1.f_Nonce), one (intVP .u32 a_1.f_To), one (strVP a_1.f_Sender), one (strVP a_1.f_Receiver), one (strVP a_1.f_Body)]), .res (Log_e p_0 L_0)] a w at h
  refine regS mixed hn hG h [0, 503, 501, 2, 502, 500] (ob [1] (op_box q0 (cells_agg _)) <| ob [] (op_alloc Tryd.zeroValue25 z25) .nil) fun b1 a w h => ?_
  obtain ⟨r3, hr3, hF⟩ := bind_some hF
  obtain ⟨r4, hr4, hF⟩ := bind_some hF
  refine regS mixed hn hG h [2, 500, 501] (ov [0] (op_move q0) <| ov [1, 4] (op_load_w 1 Tryd.isAgg67 Tryd.sizeOf67 q0) <| oc [500] [] Tryd.call148 (letter_plain_ok hr3) ⟨q0, trivial⟩ <| ov [500] (op_lit (xs := [.tmp 7]) (ys := [r3]) _ rfl Tryd.underlying151 Tryd.sizeOf9 Tryd.zeroValue9 rfl rfl (by decide) (by decide) ⟨⟨_, q0, (cells_one (one_str _))⟩, trivial⟩ lens_strC) <| oc [503, 500] [3] Tryd.call135 (digest_Log_Of_ok hr4) ⟨q0, qi, q1, trivial⟩ <| ou [2, 501] 5 (op_store_w Tryd.sizeOf25 q0 q1 (cells_agg _)) .nil) fun _ a w h => ?_
  refine wp_ret ?_
  obtain rfl := Option.some.inj hF
  exact ⟨.inl rfl, ret1 h Tryd.results91 (r_cell 0 1 rfl rfl Tryd.isAgg25 Tryd.sizeOf25 rfl) [2] [(Log_e p_0 r4.2)] rfl rfl rfl⟩

def replica_Take.j2 (a_1 : S_api_Replica) (a_2 : Int) (r8 : (List UInt8) × (Option O_Log)) (r9 : Int) (x11 : Bool) : Option (S_api_Replica × Int × (Option O_Log)) := (if x11 = true then some (a_1, 37, r8.2) else (if (0 : Int) ≤ r9 ∧ r9 < a_1.f_States.length then ((replica_Counts a_1 ((a_1.f_States.getD r9.toNat default).f_Root) a_2).bind fun r14 => (if (!decide (r14 = (0 : Int))) = true then some (a_1, r14, r8.2) else ((slices_Clone_api_State a_1.f_States).bind fun r16 => (if (0 : Int) ≤ r9 ∧ r9 < r16.length then some ((S_api_Replica.mk a_1.f_Chain a_1.f_Here a_1.f_Updater a_1.f_Watchers a_1.f_Window a_1.f_Committed a_1.f_Roots (r16.set r9.toNat (S_api_State.mk ((r16.getD r9.toNat default).f_Leaf) 2 ((r16.getD r9.toNat default).f_Root))) a_1.f_Failed a_1.f_Cut), 0, r8.2) else none)))) else none))
def replica_Take.j1 (L_0 : Option O_Log) (a_1 : S_api_Replica) (a_2 : Int) (a_3 : S_api_Letter) (x6 : Bool) : Option (S_api_Replica × Int × (Option O_Log)) := (if x6 = true then some (a_1, 38, L_0) else ((letter_Leaf L_0 a_3).bind fun r8 => ((replica_state a_1 r8.1).bind fun r9 => (if (decide (r9 < (0 : Int))) = true then replica_Take.j2 a_1 a_2 r8 r9 true else (if (0 : Int) ≤ r9 ∧ r9 < a_1.f_States.length then replica_Take.j2 a_1 a_2 r8 r9 (!decide (((a_1.f_States.getD r9.toNat default).f_Status) = (1 : Int))) else none)))))
def replica_Take (L_0 : Option O_Log) (a_1 : S_api_Replica) (a_2 : Int) (a_3 : S_api_Letter) : Option (S_api_Replica × Int × (Option O_Log)) := ((replica_open a_1).bind fun r4 => (if (!decide (r4 = (0 : Int))) = true then some (a_1, r4, L_0) else (if (!decide (a_3.f_To = a_1.f_Here)) = true then replica_Take.j1 L_0 a_1 a_2 a_3 true else replica_Take.j1 L_0 a_1 a_2 a_3 (!decide (a_3.f_From = a_1.f_Chain)))))
theorem replica_Take_ok {p_0 : Value} {L_0 : Option O_Log} {a_1 : S_api_Replica} {a_2 : Int} {a_3 : S_api_Letter} {r : S_api_Replica × Int × (Option O_Log)} (hF : replica_Take L_0 a_1 a_2 a_3 = some r) : CallOk Tryd.prog KG 31 [(eqVP p_0), (aggVP [one (intVP .u32 a_1.f_Chain), one (intVP .u32 a_1.f_Here), bytesCk 32 a_1.f_Updater, one (slVP (dC 32) a_1.f_Watchers), one (intVP .u64 a_1.f_Window), bytesCk 32 a_1.f_Committed, one (slVP S_api_Timed.ck a_1.f_Roots), one (slVP S_api_State.ck a_1.f_States), one (boolVP a_1.f_Failed), one (boolVP a_1.f_Cut)]), (intVP .u64 a_2), (aggVP [one (intVP .u32 a_3.f_From), one (intVP .u32 a_3.f_Nonce), one (intVP .u32 a_3.f_To), one (strVP a_3.f_Sender), one (strVP a_3.f_Receiver), one (strVP a_3.f_Body)])] [(Log_e p_0 L_0)] (fun _ => [Log_e p_0 r.2.2]) (tupVP [(aggVP [one (intVP .u32 r.1.f_Chain), one (intVP .u32 r.1.f_Here), bytesCk 32 r.1.f_Updater, one (slVP (dC 32) r.1.f_Watchers), one (intVP .u64 r.1.f_Window), bytesCk 32 r.1.f_Committed, one (slVP S_api_Timed.ck r.1.f_Roots), one (slVP S_api_State.ck r.1.f_States), one (boolVP r.1.f_Failed), one (boolVP r.1.f_Cut)]), (intVP .i64 r.2.1)]) := by
  refine CallOk.intro 72 Tryd.func31 rfl Tryd.ntmps31 (Nat.le_of_ble_eq_true rfl) ?_
  intro c a w hG hn h
  unfold replica_Take at hF
  change SatL c [.slot 0 (eqVP p_0), .slot 1 (aggVP [one (intVP .u32 a_1.f_Chain), one (intVP .u32 a_1.f_Here), bytesCk 32 a_1.f_Updater, one (slVP (dC 32) a_1.f_Watchers), one (intVP .u64 a_1.f_Window), bytesCk 32 a_1.f_Committed, one (slVP S_api_Timed.ck a_1.f_Roots), one (slVP S_api_State.ck a_1.f_States), one (boolVP a_1.f_Failed), one (boolVP a_1.f_Cut)]), .slot 2 (intVP .u64 a_2), .slot 3 (aggVP [one (intVP .u32 a_3.f_From), one (intVP .u32 a_3.f_Nonce), one (intVP .u32 a_3.f_To), one (strVP a_3.f_Sender), one (strVP a_3.f_Receiver), one (strVP a_3.f_Body)]), .res (Log_e p_0 L_0)] a w at h
  refine regS mixed hn hG h [0, 2, 506, 504, 502, 4, 505, 503, 501] (ob [1] (op_box q0 (cells_agg _)) <| ob [3] (op_box q0 (cells_agg _)) <| ob [] (op_alloc Tryd.zeroValue31 z31) <| ov [] (op_assign qi) .nil) fun b1 a w h => ?_
  refine wp_seq ?_
  obtain ⟨r4, hr4, hF⟩ := bind_some hF
  refine regS mixed hn hG h [0, 1, 2, 3, 4, 500, 5, 6, 7, 8] (ov [2, 6] (op_load_w 1 Tryd.isAgg31 Tryd.sizeOf31 q0) <| oc [500] [] Tryd.call81 (replica_open_ok hr4) ⟨q0, trivial⟩ <| ov [500] (op_assign q0) .nil) fun _ a w h => ?_
  refine regS mixed hn hG h [0, 1, 2, 3, 4, 5, 500, 6, 7, 8, 9] (ov [5] (op_move q0) <| ov [500] (op_bin bin_neq q0 qi) .nil) fun _ a w h => ?_
  refine cnd h hF 6 [2, 4, 5, 7, 8, 10] [0, 1, 2, 3, 4, 7, 8, 9, 10] (fun hb5 hF h => ?_) (fun hb5 hF h => ?_)
  · refine regS mixed hn hG h [1, 500, 3, 501] (ov [0, 4] (op_load_w 1 Tryd.isAgg31 Tryd.sizeOf31 q0) <| ov [2] (op_move q0) <| ou [1, 501] 5 (op_store_w Tryd.sizeOf31 q0 q1 (cells_agg _)) <| ov [501] (op_assign q0) .nil) fun _ a w h => ?_
    refine wp_ret ?_
    obtain rfl := Option.some.inj hF
    exact ⟨.inl rfl, retn h (rs := [.cell 8 31, .tmp 9]) (Vs := [(aggVP [one (intVP .u32 a_1.f_Chain), one (intVP .u32 a_1.f_Here), bytesCk 32 a_1.f_Updater, one (slVP (dC 32) a_1.f_Watchers), one (intVP .u64 a_1.f_Window), bytesCk 32 a_1.f_Committed, one (slVP S_api_Timed.ck a_1.f_Roots), one (slVP S_api_State.ck a_1.f_States), one (boolVP a_1.f_Failed), one (boolVP a_1.f_Cut)]), (intVP .i64 r4)]) Tryd.results31 (by decide) ⟨(r_cell 0 3 rfl rfl Tryd.isAgg31 Tryd.sizeOf31 rfl), (r_tmp 1 rfl), trivial⟩ [2] [(Log_e p_0 L_0)] rfl rfl rfl⟩
  · refine wp_skip ?_
    show Code.wp Tryd.prog _ _ a w
    refine wp_seq ?_
    refine wp_seq ?_
    refine wp_cut (fun a w => ∃ (x6 : Bool), replica_Take.j1 L_0 a_1 a_2 a_3 x6 = some r ∧ SatL c [.slot 0 (eqVP p_0), .slot 2 (intVP .u64 a_2), .slot 5 (lpVP (b1 0) 0), .slot 7 (lpVP (b1 1) 0), .slot 8 (lpVP (b1 2) 0), .slot 30 (boolVP x6), .res (Log_e p_0 L_0), .res (lb (b1 0) 31 [one (intVP .u32 a_1.f_Chain), one (intVP .u32 a_1.f_Here), bytesCk 32 a_1.f_Updater, one (slVP (dC 32) a_1.f_Watchers), one (intVP .u64 a_1.f_Window), bytesCk 32 a_1.f_Committed, one (slVP S_api_Timed.ck a_1.f_Roots), one (slVP S_api_State.ck a_1.f_States), one (boolVP a_1.f_Failed), one (boolVP a_1.f_Cut)]), .res (lb (b1 1) 67 [one (intVP .u32 a_3.f_From), one (intVP .u32 a_3.f_Nonce), one (intVP .u32 a_3.f_To), one (strVP a_3.f_Sender), one (strVP a_3.f_Receiver), one (strVP a_3.f_Body)]), .res (lb (b1 2) 31 [one (intVP .u32 ((S_api_Replica.mk (0 : Int) (0 : Int) (List.replicate 32 0) [] (0 : Int) (List.replicate 32 0) [] [] false false).f_Chain)), one (intVP .u32 ((S_api_Replica.mk (0 : Int) (0 : Int) (List.replicate 32 0) [] (0 : Int) (List.replicate 32 0) [] [] false false).f_Here)), bytesCk 32 ((S_api_Replica.mk (0 : Int) (0 : Int) (List.replicate 32 0) [] (0 : Int) (List.replicate 32 0) [] [] false false).f_Updater), one (slVP (dC 32) ((S_api_Replica.mk (0 : Int) (0 : Int) (List.replicate 32 0) [] (0 : Int) (List.replicate 32 0) [] [] false false).f_Watchers)), one (intVP .u64 ((S_api_Replica.mk (0 : Int) (0 : Int) (List.replicate 32 0) [] (0 : Int) (List.replicate 32 0) [] [] false false).f_Window)), bytesCk 32 ((S_api_Replica.mk (0 : Int) (0 : Int) (List.replicate 32 0) [] (0 : Int) (List.replicate 32 0) [] [] false false).f_Committed), one (slVP S_api_Timed.ck ((S_api_Replica.mk (0 : Int) (0 : Int) (List.replicate 32 0) [] (0 : Int) (List.replicate 32 0) [] [] false false).f_Roots)), one (slVP S_api_State.ck ((S_api_Replica.mk (0 : Int) (0 : Int) (List.replicate 32 0) [] (0 : Int) (List.replicate 32 0) [] [] false false).f_States)), one (boolVP ((S_api_Replica.mk (0 : Int) (0 : Int) (List.replicate 32 0) [] (0 : Int) (List.replicate 32 0) [] [] false false).f_Failed)), one (boolVP ((S_api_Replica.mk (0 : Int) (0 : Int) (List.replicate 32 0) [] (0 : Int) (List.replicate 32 0) [] [] false false).f_Cut))])] a w) ?_ ?_
    · rcases Bool.eq_false_or_eq_true (!decide (a_3.f_To = a_1.f_Here)) with hb20 | hb20
      · replace hF := tt_of hb20 hF
        refine reg mixed hn hG h [0, 1, 2, 3, 4, 500, 5, 6, 7, 8] (ov [3] (op_fieldAddr_lbm (p := (b1 1)) (n := 1) 0 2 Tryd.underlying67 rfl Tryd.sizeOf22 (by decide) q0 rfl) <| ov [500, 7] (op_load_lb1 [one (intVP .u32 a_3.f_From), one (intVP .u32 a_3.f_Nonce)] [one (strVP a_3.f_Sender), one (strVP a_3.f_Receiver), one (strVP a_3.f_Body)] 1 Tryd.isAgg22 q0 rfl rfl) <| ov [2] (op_fieldAddr_lbm (p := (b1 0)) (n := 1) 0 1 Tryd.underlying31 rfl Tryd.sizeOf22 (by decide) q0 rfl) <| ov [500, 6] (op_load_lb1 [one (intVP .u32 a_1.f_Chain)] [bytesCk 32 a_1.f_Updater, one (slVP (dC 32) a_1.f_Watchers), one (intVP .u64 a_1.f_Window), bytesCk 32 a_1.f_Committed, one (slVP S_api_Timed.ck a_1.f_Roots), one (slVP S_api_State.ck a_1.f_States), one (boolVP a_1.f_Failed), one (boolVP a_1.f_Cut)] 1 Tryd.isAgg22 q0 rfl rfl) <| ov [502, 500] (op_bin bin_neq q0 q1) <| ov [500] (op_move q0) <| oe [500] [] (GOk.off_v (want := false) hb20 rfl rfl rfl rfl) <| oe [501] [] (GOk.off_v (want := false) hb20 rfl rfl rfl rfl) <| oe [502] [] (GOk.off_v (want := false) hb20 rfl rfl rfl rfl) <| oe [503] [] (GOk.off_v (want := false) hb20 rfl rfl rfl rfl) <| oe [504] [] (GOk.off_v (want := false) hb20 rfl rfl rfl rfl) <| ov [505] (op_pick_t hb20 q0 qb) .nil) fun _ a w h => ?_
        exact ⟨true, hF, h.sub [0, 1, 2, 3, 4, 5, 6, 7, 8, 9] (by rfl)⟩
      · replace hF := ff_of hb20 hF
        refine reg mixed hn hG h [0, 1, 2, 3, 4, 500, 5, 6, 7, 8] (ov [3] (op_fieldAddr_lbm (p := (b1 1)) (n := 1) 0 2 Tryd.underlying67 rfl Tryd.sizeOf22 (by decide) q0 rfl) <| ov [500, 7] (op_load_lb1 [one (intVP .u32 a_3.f_From), one (intVP .u32 a_3.f_Nonce)] [one (strVP a_3.f_Sender), one (strVP a_3.f_Receiver), one (strVP a_3.f_Body)] 1 Tryd.isAgg22 q0 rfl rfl) <| ov [2] (op_fieldAddr_lbm (p := (b1 0)) (n := 1) 0 1 Tryd.underlying31 rfl Tryd.sizeOf22 (by decide) q0 rfl) <| ov [500, 6] (op_load_lb1 [one (intVP .u32 a_1.f_Chain)] [bytesCk 32 a_1.f_Updater, one (slVP (dC 32) a_1.f_Watchers), one (intVP .u64 a_1.f_Window), bytesCk 32 a_1.f_Committed, one (slVP S_api_Timed.ck a_1.f_Roots), one (slVP S_api_State.ck a_1.f_States), one (boolVP a_1.f_Failed), one (boolVP a_1.f_Cut)] 1 Tryd.isAgg22 q0 rfl rfl) <| ov [502, 500] (op_bin bin_neq q0 q1) <| ov [500] (op_move q0) <| oe [500, 3] [] (GOk.on_eq hb20 rfl rfl rfl (op_fieldAddr_lbm (p := (b1 1)) (n := 1) 0 0 Tryd.underlying67 rfl Tryd.sizeOf22 (by decide) q0 rfl)) <| oe [501, 500, 7] [] (GOk.on_eq hb20 rfl rfl rfl (op_load_lb1 [] [one (intVP .u32 a_3.f_Nonce), one (intVP .u32 a_3.f_To), one (strVP a_3.f_Sender), one (strVP a_3.f_Receiver), one (strVP a_3.f_Body)] 1 Tryd.isAgg22 q0 rfl rfl)) <| oe [502, 2] [] (GOk.on_eq hb20 rfl rfl rfl (op_fieldAddr_lbm (p := (b1 0)) (n := 1) 0 0 Tryd.underlying31 rfl Tryd.sizeOf22 (by decide) q0 rfl)) <| oe [503, 500, 6] [] (GOk.on_eq hb20 rfl rfl rfl (op_load_lb1 [] [one (intVP .u32 a_1.f_Here), bytesCk 32 a_1.f_Updater, one (slVP (dC 32) a_1.f_Watchers), one (intVP .u64 a_1.f_Window), bytesCk 32 a_1.f_Committed, one (slVP S_api_Timed.ck a_1.f_Roots), one (slVP S_api_State.ck a_1.f_States), one (boolVP a_1.f_Failed), one (boolVP a_1.f_Cut)] 1 Tryd.isAgg22 q0 rfl rfl)) <| oe [504, 502, 500] [] (GOk.on_eq hb20 rfl rfl rfl (op_bin bin_neq q0 q1)) <| ov [505, 500] (op_pick_f hb20 q0 q1) .nil) fun _ a w h => ?_
        exact ⟨!decide (a_3.f_From = a_1.f_Chain), hF, h.sub [0, 1, 2, 3, 4, 5, 6, 7, 8, 9] (by rfl)⟩
    · clear h hF
      rintro a w ⟨x6, hF, h⟩
      unfold replica_Take.j1 at hF
      show Code.wp Tryd.prog _ _ a w
      refine cnd h hF 5 [2, 4, 6, 7, 9] [0, 1, 2, 3, 4, 6, 7, 8, 9] (fun hb7 hF h => ?_) (fun hb7 hF h => ?_)
      · refine regS mixed hn hG h [1, 500, 2, 501] (ov [0, 3] (op_load_w 1 Tryd.isAgg31 Tryd.sizeOf31 q0) <| ou [1, 500] 4 (op_store_w Tryd.sizeOf31 q0 q1 (cells_agg _)) <| ov [] (op_assign qi) .nil) fun _ a w h => ?_
        refine wp_ret ?_
        obtain rfl := Option.some.inj hF
        exact ⟨.inl rfl, retn h (rs := [.cell 8 31, .tmp 9]) (Vs := [(aggVP [one (intVP .u32 a_1.f_Chain), one (intVP .u32 a_1.f_Here), bytesCk 32 a_1.f_Updater, one (slVP (dC 32) a_1.f_Watchers), one (intVP .u64 a_1.f_Window), bytesCk 32 a_1.f_Committed, one (slVP S_api_Timed.ck a_1.f_Roots), one (slVP S_api_State.ck a_1.f_States), one (boolVP a_1.f_Failed), one (boolVP a_1.f_Cut)]), (intVP .i64 38)]) Tryd.results31 (by decide) ⟨(r_cell 0 3 rfl rfl Tryd.isAgg31 Tryd.sizeOf31 rfl), (r_tmp 1 rfl), trivial⟩ [2] [(Log_e p_0 L_0)] rfl rfl rfl⟩
      · refine wp_skip ?_
        show Code.wp Tryd.prog _ _ a w
        obtain ⟨r8, hr8, hF⟩ := bind_some hF
        obtain ⟨r9, hr9, hF⟩ := bind_some hF
        refine regS mixed hn hG h [1, 2, 4, 500, 6, 8, 502] (ov [2, 6] (op_load_w 1 Tryd.isAgg31 Tryd.sizeOf31 q0) <| ov [0] (op_move q0) <| ov [3, 7] (op_load_w 1 Tryd.isAgg67 Tryd.sizeOf67 q0) <| oc [501, 500] [5] Tryd.call91 (letter_Leaf_ok hr8) ⟨q0, q1, trivial⟩ <| oc [504, 501] [] Tryd.call84 (replica_state_ok hr9) ⟨q0, q1, trivial⟩ <| ov [500] (op_assign q0) .nil) fun _ a w h => ?_
        refine wp_seq ?_
        refine wp_seq ?_
        refine wp_cut (fun a w => ∃ (x11 : Bool), replica_Take.j2 a_1 a_2 r8 r9 x11 = some r ∧ SatL c [.slot 2 (intVP .u64 a_2), .slot 5 (lpVP (b1 0) 0), .slot 8 (lpVP (b1 2) 0), .slot 11 (intVP .i64 r9), .slot 47 (boolVP x11), .res (lb (b1 0) 31 [one (intVP .u32 a_1.f_Chain), one (intVP .u32 a_1.f_Here), bytesCk 32 a_1.f_Updater, one (slVP (dC 32) a_1.f_Watchers), one (intVP .u64 a_1.f_Window), bytesCk 32 a_1.f_Committed, one (slVP S_api_Timed.ck a_1.f_Roots), one (slVP S_api_State.ck a_1.f_States), one (boolVP a_1.f_Failed), one (boolVP a_1.f_Cut)]), .res (lb (b1 2) 31 [one (intVP .u32 ((S_api_Replica.mk (0 : Int) (0 : Int) (List.replicate 32 0) [] (0 : Int) (List.replicate 32 0) [] [] false false).f_Chain)), one (intVP .u32 ((S_api_Replica.mk (0 : Int) (0 : Int) (List.replicate 32 0) [] (0 : Int) (List.replicate 32 0) [] [] false false).f_Here)), bytesCk 32 ((S_api_Replica.mk (0 : Int) (0 : Int) (List.replicate 32 0) [] (0 : Int) (List.replicate 32 0) [] [] false false).f_Updater), one (slVP (dC 32) ((S_api_Replica.mk (0 : Int) (0 : Int) (List.replicate 32 0) [] (0 : Int) (List.replicate 32 0) [] [] false false).f_Watchers)), one (intVP .u64 ((S_api_Replica.mk (0 : Int) (0 : Int) (List.replicate 32 0) [] (0 : Int) (List.replicate 32 0) [] [] false false).f_Window)), bytesCk 32 ((S_api_Replica.mk (0 : Int) (0 : Int) (List.replicate 32 0) [] (0 : Int) (List.replicate 32 0) [] [] false false).f_Committed), one (slVP S_api_Timed.ck ((S_api_Replica.mk (0 : Int) (0 : Int) (List.replicate 32 0) [] (0 : Int) (List.replicate 32 0) [] [] false false).f_Roots)), one (slVP S_api_State.ck ((S_api_Replica.mk (0 : Int) (0 : Int) (List.replicate 32 0) [] (0 : Int) (List.replicate 32 0) [] [] false false).f_States)), one (boolVP ((S_api_Replica.mk (0 : Int) (0 : Int) (List.replicate 32 0) [] (0 : Int) (List.replicate 32 0) [] [] false false).f_Failed)), one (boolVP ((S_api_Replica.mk (0 : Int) (0 : Int) (List.replicate 32 0) [] (0 : Int) (List.replicate 32 0) [] [] false false).f_Cut))]), .res (Log_e p_0 r8.2)] a w) ?_ ?_
        · rcases Bool.eq_false_or_eq_true (decide (r9 < (0 : Int))) with hb19 | hb19
          · replace hF := tt_of hb19 hF
            refine reg mixed hn hG h [0, 1, 2, 3, 500, 4, 5, 6] (ov [3] (op_move q0) <| ov [500] (op_bin bin_lss q0 qi) <| ov [500] (op_move q0) <| oe [500] [] (GOk.off_v (want := false) hb19 rfl rfl rfl rfl) <| oe [501] [] (GOk.off_v (want := false) hb19 rfl rfl rfl rfl) <| oe [502] [] (GOk.off_v (want := false) hb19 rfl rfl rfl rfl) <| oe [503] [] (GOk.off_v (want := false) hb19 rfl rfl rfl rfl) <| oe [504] [] (GOk.off_v (want := false) hb19 rfl rfl rfl rfl) <| oe [505] [] (GOk.off_v (want := false) hb19 rfl rfl rfl rfl) <| oe [506] [] (GOk.off_v (want := false) hb19 rfl rfl rfl rfl) <| ov [507] (op_pick_t hb19 q0 qb) .nil) fun _ a w h => ?_
            exact ⟨true, hF, h.sub [0, 1, 2, 3, 4, 5, 6, 7] (by rfl)⟩
          · replace hF := ff_of hb19 hF
            obtain ⟨hv10, hF⟩ := ite_some hF
            refine reg mixed hn hG h [0, 1, 2, 3, 500, 4, 5, 6] (ov [3] (op_move q0) <| ov [500] (op_bin bin_lss q0 qi) <| ov [500] (op_move q0) <| oe [500, 1] [] (GOk.on_eq hb19 rfl rfl rfl (op_fieldAddr_lbm (p := (b1 0)) (n := 1) 0 69 Tryd.underlying31 rfl Tryd.sizeOf29 (by decide) q0 rfl)) <| oe [501, 500, 4] [] (GOk.on_eq hb19 rfl rfl rfl (op_load_lb1 [one (intVP .u32 a_1.f_Chain), one (intVP .u32 a_1.f_Here), bytesCk 32 a_1.f_Updater, one (slVP (dC 32) a_1.f_Watchers), one (intVP .u64 a_1.f_Window), bytesCk 32 a_1.f_Committed, one (slVP S_api_Timed.ck a_1.f_Roots)] [one (boolVP a_1.f_Failed), one (boolVP a_1.f_Cut)] 1 Tryd.isAgg29 q0 rfl rfl)) <| oe [502, 3] [] (GOk.on_eq hb19 rfl rfl rfl (op_move q0)) <| oe [503, 501, 500] [] (GOk.on_eq hb19 rfl rfl rfl (op_indexAddr_sl Tryd.underlying29 Tryd.sizeOf71 S_api_State.lens q0 q1 hv10)) <| oe [504, 500] [] (GOk.on_eq hb19 rfl rfl rfl (op_fieldAddr_pp (n := 1) [bytesCk 32 ((a_1.f_States.getD r9.toNat default).f_Leaf)] _ Tryd.underlying71 rfl Tryd.sizeOf3 (by decide) q0 rfl)) <| oe [505, 500] [] (GOk.on_eq hb19 rfl rfl rfl (op_load_pp1 [bytesCk 32 ((a_1.f_States.getD r9.toNat default).f_Root)] Tryd.isAgg3 q0)) <| oe [506, 500] [] (GOk.on_eq hb19 rfl rfl rfl (op_bin bin_neq q0 qi)) <| ov [507, 500] (op_pick_f hb19 q0 q1) .nil) fun _ a w h => ?_
            exact ⟨!decide (((a_1.f_States.getD r9.toNat default).f_Status) = (1 : Int)), hF, h.sub [0, 1, 2, 3, 4, 5, 6, 7] (by rfl)⟩
        · clear h hF
          rintro a w ⟨x11, hF, h⟩
          unfold replica_Take.j2 at hF
          show Code.wp Tryd.prog _ _ a w
          refine cnd h hF 4 [1, 2, 5, 6, 7] [0, 1, 2, 3, 5, 6, 7] (fun hb12 hF h => ?_) (fun hb12 hF h => ?_)
          · refine regS mixed hn hG h [1, 500, 501, 4] (ov [0, 2] (op_load_w 1 Tryd.isAgg31 Tryd.sizeOf31 q0) <| ou [1, 500] 3 (op_store_w Tryd.sizeOf31 q0 q1 (cells_agg _)) <| ov [] (op_assign qi) .nil) fun _ a w h => ?_
            refine wp_ret ?_
            obtain rfl := Option.some.inj hF
            exact ⟨.inl rfl, retn h (rs := [.cell 8 31, .tmp 9]) (Vs := [(aggVP [one (intVP .u32 a_1.f_Chain), one (intVP .u32 a_1.f_Here), bytesCk 32 a_1.f_Updater, one (slVP (dC 32) a_1.f_Watchers), one (intVP .u64 a_1.f_Window), bytesCk 32 a_1.f_Committed, one (slVP S_api_Timed.ck a_1.f_Roots), one (slVP S_api_State.ck a_1.f_States), one (boolVP a_1.f_Failed), one (boolVP a_1.f_Cut)]), (intVP .i64 37)]) Tryd.results31 (by decide) ⟨(r_cell 0 2 rfl rfl Tryd.isAgg31 Tryd.sizeOf31 rfl), (r_tmp 1 rfl), trivial⟩ [3] [(Log_e p_0 r8.2)] rfl rfl rfl⟩
          · refine wp_skip ?_
            show Code.wp Tryd.prog _ _ a w
            refine wp_seq ?_
            obtain ⟨hv13, hF⟩ := ite_some hF
            obtain ⟨r14, hr14, hF⟩ := bind_some hF
            refine regS mixed hn hG h [1, 2, 3, 500, 4, 5, 6] (ov [1, 4] (op_load_w 1 Tryd.isAgg31 Tryd.sizeOf31 q0) <| ov [1] (op_fieldAddr_lbm (p := (b1 0)) (n := 1) 0 69 Tryd.underlying31 rfl Tryd.sizeOf29 (by decide) q0 rfl) <| ov [500, 4] (op_load_lb1 [one (intVP .u32 a_1.f_Chain), one (intVP .u32 a_1.f_Here), bytesCk 32 a_1.f_Updater, one (slVP (dC 32) a_1.f_Watchers), one (intVP .u64 a_1.f_Window), bytesCk 32 a_1.f_Committed, one (slVP S_api_Timed.ck a_1.f_Roots)] [one (boolVP a_1.f_Failed), one (boolVP a_1.f_Cut)] 1 Tryd.isAgg29 q0 rfl rfl) <| ov [3] (op_move q0) <| ov [501, 500] (op_indexAddr_sl Tryd.underlying29 Tryd.sizeOf71 S_api_State.lens q0 q1 hv13) <| ov [500] (op_fieldAddr_pp (n := 32) [bytesCk 32 ((a_1.f_States.getD r9.toNat default).f_Leaf), one (intVP .i64 ((a_1.f_States.getD r9.toNat default).f_Status))] _ Tryd.underlying71 rfl Tryd.sizeOf25 (by decide) q0 rfl) <| ov [500] (op_load_pp [bytesCk 32 ((a_1.f_States.getD r9.toNat default).f_Root)] [] Tryd.isAgg25 Tryd.sizeOf25 q0 rfl) <| ov [0] (op_move q0) <| oc [507, 501, 500] [] Tryd.call83 (replica_Counts_ok hr14) ⟨q0, q1, q2, trivial⟩ <| ov [500] (op_assign q0) .nil) fun _ a w h => ?_
            refine regS mixed hn hG h [0, 1, 2, 3, 500, 4, 5, 6] (ov [3] (op_move q0) <| ov [500] (op_bin bin_neq q0 qi) .nil) fun _ a w h => ?_
            refine cnd h hF 4 [0, 1, 3, 5, 6, 7] [0, 1, 2, 5, 6, 7] (fun hb15 hF h => ?_) (fun hb15 hF h => ?_)
            · refine regS mixed hn hG h [1, 500, 501, 5] (ov [0, 3] (op_load_w 1 Tryd.isAgg31 Tryd.sizeOf31 q0) <| ov [2] (op_move q0) <| ou [1, 501] 4 (op_store_w Tryd.sizeOf31 q0 q1 (cells_agg _)) <| ov [501] (op_assign q0) .nil) fun _ a w h => ?_
              refine wp_ret ?_
              obtain rfl := Option.some.inj hF
              exact ⟨.inl rfl, retn h (rs := [.cell 8 31, .tmp 9]) (Vs := [(aggVP [one (intVP .u32 a_1.f_Chain), one (intVP .u32 a_1.f_Here), bytesCk 32 a_1.f_Updater, one (slVP (dC 32) a_1.f_Watchers), one (intVP .u64 a_1.f_Window), bytesCk 32 a_1.f_Committed, one (slVP S_api_Timed.ck a_1.f_Roots), one (slVP S_api_State.ck a_1.f_States), one (boolVP a_1.f_Failed), one (boolVP a_1.f_Cut)]), (intVP .i64 r14)]) Tryd.results31 (by decide) ⟨(r_cell 0 2 rfl rfl Tryd.isAgg31 Tryd.sizeOf31 rfl), (r_tmp 1 rfl), trivial⟩ [3] [(Log_e p_0 r8.2)] rfl rfl rfl⟩
            · refine wp_skip ?_
              show Code.wp Tryd.prog _ _ a w
              obtain ⟨r16, hr16, hF⟩ := bind_some hF
              refine regS mixed hn hG h [0, 1, 2, 500, 4, 5, 502] (ov [0] (op_fieldAddr_lbm (p := (b1 0)) (n := 1) 0 69 Tryd.underlying31 rfl Tryd.sizeOf29 (by decide) q0 rfl) <| ov [500, 3] (op_load_lb1 [one (intVP .u32 a_1.f_Chain), one (intVP .u32 a_1.f_Here), bytesCk 32 a_1.f_Updater, one (slVP (dC 32) a_1.f_Watchers), one (intVP .u64 a_1.f_Window), bytesCk 32 a_1.f_Committed, one (slVP S_api_Timed.ck a_1.f_Roots)] [one (boolVP a_1.f_Failed), one (boolVP a_1.f_Cut)] 1 Tryd.isAgg29 q0 rfl rfl) <| og [500] [] [.slot 64 2 100000 (fun v1_ _ => (eqVP v1_)), .res 2 100000 (fun v1_ _ => (own (v1_) 71 65 S_api_State.ck r16))] (GOk.plain (op_callv Tryd.call85 (slices_Clone_api_State_own hr16) ⟨q0, trivial⟩) rfl) <| ov [0] (op_fieldAddr_lbm (p := (b1 0)) (n := 1) 0 69 Tryd.underlying31 rfl Tryd.sizeOf29 (by decide) q0 rfl) <| og [500, 502, 501] [3] [.res 2 100000 (fun v1_ _ => (lb (b1 0) 31 [one (intVP .u32 a_1.f_Chain), one (intVP .u32 a_1.f_Here), bytesCk 32 a_1.f_Updater, one (slVP (dC 32) a_1.f_Watchers), one (intVP .u64 a_1.f_Window), bytesCk 32 a_1.f_Committed, one (slVP S_api_Timed.ck a_1.f_Roots), one (eqVP (v1_)), one (boolVP a_1.f_Failed), one (boolVP a_1.f_Cut)]))] (fun {β} => (GOk.plain (op_store_lb [one (intVP .u32 a_1.f_Chain), one (intVP .u32 a_1.f_Here), bytesCk 32 a_1.f_Updater, one (slVP (dC 32) a_1.f_Watchers), one (intVP .u64 a_1.f_Window), bytesCk 32 a_1.f_Committed, one (slVP S_api_Timed.ck a_1.f_Roots)] [one (slVP S_api_State.ck a_1.f_States)] [one (boolVP a_1.f_Failed), one (boolVP a_1.f_Cut)] [one (eqVP ((β 2)))] Tryd.sizeOf29 q0 (opone 1 2 rfl rfl own_one) (cells_h _) rfl rfl rfl) rfl)) .nil) fun b17 a w h => ?_
              obtain ⟨hv18, hF⟩ := ite_some hF
              refine regS mixed hn hG h [0, 1, 3, 4, 5, 500] (ov [0] (op_fieldAddr_lbm (p := (b1 0)) (n := 1) 0 69 Tryd.underlying31 rfl Tryd.sizeOf29 (by decide) q0 rfl) <| ov [500, 3] (op_load_lb1 [one (intVP .u32 a_1.f_Chain), one (intVP .u32 a_1.f_Here), bytesCk 32 a_1.f_Updater, one (slVP (dC 32) a_1.f_Watchers), one (intVP .u64 a_1.f_Window), bytesCk 32 a_1.f_Committed, one (slVP S_api_Timed.ck a_1.f_Roots)] [one (boolVP a_1.f_Failed), one (boolVP a_1.f_Cut)] 1 Tryd.isAgg29 q0 rfl rfl) <| ov [2] (op_move q0) <| ov [501, 6, 500] (op_indexAddr_own 0 1 Tryd.underlying29 Tryd.sizeOf71 rfl rfl q2 hv18) <| ov [500] (op_fieldAddr_own (n := 1) (r9.toNat * 65) (r9.toNat * 65 + 32) Tryd.underlying71 rfl Tryd.sizeOf3 (by decide) q0 rfl) <| ou [500] 6 (op_store_own (i := r9) (c := S_api_State.ck) (z := (S_api_State.mk ((r16.getD r9.toNat default).f_Leaf) 2 ((r16.getD r9.toNat default).f_Root))) S_api_State.lens [bytesCk 32 ((r16.getD r9.toNat default).f_Leaf)] [one (intVP .i64 ((r16.getD r9.toNat default).f_Status))] [bytesCk 32 ((r16.getD r9.toNat default).f_Root)] [one (intVP .i64 2)] Tryd.sizeOf3 q0 qi (cells_one (one_int _ _)) rfl rfl rfl rfl rfl hv18) .nil) fun _ a w h => ?_
              refine regS mixed hn hG h [1, 500, 501, 4] (oe [0, 2] [5] (GOk.plain (OpOk.ownacc (op_load_sub [(acc (b17 2) 71 65 S_api_State.ck (r16.set r9.toNat (S_api_State.mk ((r16.getD r9.toNat default).f_Leaf) 2 ((r16.getD r9.toNat default).f_Root))))] 1 Tryd.isAgg31 Tryd.sizeOf31 q0 rfl rfl (.keep (.keep (.keep (.keep (.keep (.keep (.keep (.sub 0 rfl (.keep (.keep .nil)))))))))))) rfl) <| ou [1, 501] 3 (op_store_w Tryd.sizeOf31 q0 q1 (cells_agg _)) <| ov [] (op_assign qi) .nil) fun _ a w h => ?_
              refine wp_ret ?_
              obtain rfl := Option.some.inj hF
              exact ⟨.inl rfl, retn h (rs := [.cell 8 31, .tmp 9]) (Vs := [(aggVP [one (intVP .u32 a_1.f_Chain), one (intVP .u32 a_1.f_Here), bytesCk 32 a_1.f_Updater, one (slVP (dC 32) a_1.f_Watchers), one (intVP .u64 a_1.f_Window), bytesCk 32 a_1.f_Committed, one (slVP S_api_Timed.ck a_1.f_Roots), one (slVP S_api_State.ck (r16.set r9.toNat (S_api_State.mk ((r16.getD r9.toNat default).f_Leaf) 2 ((r16.getD r9.toNat default).f_Root)))), one (boolVP a_1.f_Failed), one (boolVP a_1.f_Cut)]), (intVP .i64 0)]) Tryd.results31 (by decide) ⟨(r_cell 0 2 rfl rfl Tryd.isAgg31 Tryd.sizeOf31 rfl), (r_tmp 1 rfl), trivial⟩ [3] [(Log_e p_0 r8.2)] rfl rfl rfl⟩

def law17_awake.j1 (x4 : Bool) : Option Bool := some x4
def law17_awake : Option Bool := ((replica_New 1 2 ([u8of 1] ++ List.replicate (32 - 1) 0) [] 5 (List.replicate 32 0)).bind fun r1 => ((replica_Take none r1 9 (S_api_Letter.mk 1 (0 : Int) 2 [] [] [])).bind fun r3 => (if (decide (r3.2.1 = (37 : Int))) = true then (if (decide (r1.f_Window = (5 : Int))) = true then law17_awake.j1 (decide (r1.f_Here = (2 : Int))) else law17_awake.j1 false) else law17_awake.j1 false)))
theorem law17_awake_ok {r : Bool} (hF : law17_awake = some r) : CallOk Tryd.prog KG 22 [] [] (fun _ => []) (boolVP r) := by
  refine CallOk.intro 25 Tryd.func22 rfl Tryd.ntmps22 (Nat.le_of_ble_eq_true rfl) ?_
  intro c a w hG hn h
  unfold law17_awake at hF
  change SatL c [] a w at h
  refine regS mixed hn hG h [] (ov [] (op_assign qb) .nil) fun _ a w h => ?_
  obtain ⟨r1, hr1, hF⟩ := bind_some hF
  refine regS mixed hn hG h [502, 500] (ov [] (op_buildB (xs := [.const (.int .u8 1)]) (ys := [u8of 1]) rfl bu25 ⟨⟨_, qi, (cells_u8 _)⟩, trivial⟩ (by decide) rfl) <| ov [] (build0 Tryd.zeroValue25 Tryd.underlying25 Tryd.sizeOf5 z25) <| oc [501, 500] [] Tryd.call24 (replica_New_ok hr1) ⟨qi, qi, q0, nilc_sl, qi, q1, trivial⟩ <| ob [] (op_alloc Tryd.zeroValue31 z31) <| og [501, 502] [500] [.res 3 100000 (fun v1_ _ => (lb (v1_) 31 [one (intVP .u32 r1.f_Chain), one (intVP .u32 r1.f_Here), bytesCk 32 r1.f_Updater, one (slVP (dC 32) r1.f_Watchers), one (intVP .u64 r1.f_Window), bytesCk 32 r1.f_Committed, one (slVP S_api_Timed.ck r1.f_Roots), one (slVP S_api_State.ck r1.f_States), one (boolVP r1.f_Failed), one (boolVP r1.f_Cut)]))] (GOk.plain (op_store_w Tryd.sizeOf31 q0 q1 (cells_agg _)) rfl) .nil) fun b2 a w h => ?_
  replace h := h.snoc Log_nil
  replace h := h.sub [0, 1, 2] (by rfl)
  change SatL c [.slot 1 (lpVP (b2 3) 0), .res (lb (b2 3) 31 [one (intVP .u32 r1.f_Chain), one (intVP .u32 r1.f_Here), bytesCk 32 r1.f_Updater, one (slVP (dC 32) r1.f_Watchers), one (intVP .u64 r1.f_Window), bytesCk 32 r1.f_Committed, one (slVP S_api_Timed.ck r1.f_Roots), one (slVP S_api_State.ck r1.f_States), one (boolVP r1.f_Failed), one (boolVP r1.f_Cut)]), .res (Log_e (.pointer none) none)] a w at h
  obtain ⟨r3, hr3, hF⟩ := bind_some hF
  refine regS mixed hn hG h [0, 500, 1, 507] (ov [0, 1] (op_load_w 1 Tryd.isAgg31 Tryd.sizeOf31 q0) <| ov [] (op_build [(0, .const (.int .u32 1)), (2, .const (.int .u32 2))] rfl bu67 z67 ⟨[], [one (intVP .u32 (0 : Int))], [one (intVP .u32 (0 : Int)), one (intVP .u32 (0 : Int)), one (strVP []), one (strVP []), one (strVP [])], [one (intVP .u32 1)], _, rfl, rfl, rfl, qi, (cells_one (one_int _ _)), ⟨[one (intVP .u32 1), one (intVP .u32 (0 : Int))], [one (intVP .u32 (0 : Int))], [one (strVP []), one (strVP []), one (strVP [])], [one (intVP .u32 2)], _, rfl, rfl, rfl, qi, (cells_one (one_int _ _)), rfl⟩⟩) <| oc [501, 500] [2] Tryd.call31 (replica_Take_ok hr3) ⟨(opc (ec _)), q0, qi, q1, trivial⟩ <| ov [501] (op_move q0) <| ov [500] (op_extract q0 rfl) <| ov [501] (op_extract q0 rfl) <| ob [] (op_alloc Tryd.zeroValue31 z31) <| og [501, 503] [500] [.res 6 100000 (fun v1_ _ => (lb (v1_) 31 [one (intVP .u32 r3.1.f_Chain), one (intVP .u32 r3.1.f_Here), bytesCk 32 r3.1.f_Updater, one (slVP (dC 32) r3.1.f_Watchers), one (intVP .u64 r3.1.f_Window), bytesCk 32 r3.1.f_Committed, one (slVP S_api_Timed.ck r3.1.f_Roots), one (slVP S_api_State.ck r3.1.f_States), one (boolVP r3.1.f_Failed), one (boolVP r3.1.f_Cut)]))] (GOk.plain (op_store_w Tryd.sizeOf31 q0 q1 (cells_agg _)) rfl) <| ov [503] (op_assign q0) .nil) fun _ a w h => ?_
  refine wp_seq ?_
  refine wp_cut (fun a w => ∃ (x4 : Bool), law17_awake.j1 x4 = some r ∧ SatL c [.slot 0 (boolVP x4), .res (Log_e (.pointer none) r3.2.2)] a w) ?_ ?_
  · rcases Bool.eq_false_or_eq_true (decide (r3.2.1 = (37 : Int))) with hb5 | hb5
    · replace hF := tt_of hb5 hF
      rcases Bool.eq_false_or_eq_true (decide (r1.f_Window = (5 : Int))) with hb6 | hb6
      · replace hF := tt_of hb6 hF
        refine reg mixed hn hG h [500, 3] (ov [1] (op_move q0) <| ov [500] (op_bin bin_eql q0 qi) <| ov [500] (op_move q0) <| oe [500, 0] [] (GOk.on_eq hb5 rfl rfl rfl (op_fieldAddr_lbm (p := (b2 3)) (n := 1) 0 35 Tryd.underlying31 rfl Tryd.sizeOf27 (by decide) q0 rfl)) <| oe [501, 500, 2] [] (GOk.on_eq hb5 rfl rfl rfl (op_load_lb1 [one (intVP .u32 r1.f_Chain), one (intVP .u32 r1.f_Here), bytesCk 32 r1.f_Updater, one (slVP (dC 32) r1.f_Watchers)] [bytesCk 32 r1.f_Committed, one (slVP S_api_Timed.ck r1.f_Roots), one (slVP S_api_State.ck r1.f_States), one (boolVP r1.f_Failed), one (boolVP r1.f_Cut)] 1 Tryd.isAgg27 q0 rfl rfl)) <| oe [502, 500] [] (GOk.on_eq hb5 rfl rfl rfl (op_bin bin_eql q0 qi)) <| ov [503, 500] (op_pick_t hb5 q0 q1) <| ov [500] (op_move q0) <| oe [500, 0] [] (GOk.on_eq hb6 rfl rfl rfl (op_fieldAddr_lbm (p := (b2 3)) (n := 1) 0 1 Tryd.underlying31 rfl Tryd.sizeOf22 (by decide) q0 rfl)) <| oe [501, 500, 2] [] (GOk.on_eq hb6 rfl rfl rfl (op_load_lb1 [one (intVP .u32 r1.f_Chain)] [bytesCk 32 r1.f_Updater, one (slVP (dC 32) r1.f_Watchers), one (intVP .u64 r1.f_Window), bytesCk 32 r1.f_Committed, one (slVP S_api_Timed.ck r1.f_Roots), one (slVP S_api_State.ck r1.f_States), one (boolVP r1.f_Failed), one (boolVP r1.f_Cut)] 1 Tryd.isAgg22 q0 rfl rfl)) <| oe [502, 500] [] (GOk.on_eq hb6 rfl rfl rfl (op_bin bin_eql q0 qi)) <| ov [503, 500] (op_pick_t hb6 q0 q1) <| ov [500] (op_assign q0) .nil) fun _ a w h => ?_
        exact ⟨decide (r1.f_Here = (2 : Int)), hF, h.sub [0, 1] (by rfl)⟩
      · replace hF := ff_of hb6 hF
        refine reg mixed hn hG h [500, 3] (ov [1] (op_move q0) <| ov [500] (op_bin bin_eql q0 qi) <| ov [500] (op_move q0) <| oe [500, 0] [] (GOk.on_eq hb5 rfl rfl rfl (op_fieldAddr_lbm (p := (b2 3)) (n := 1) 0 35 Tryd.underlying31 rfl Tryd.sizeOf27 (by decide) q0 rfl)) <| oe [501, 500, 2] [] (GOk.on_eq hb5 rfl rfl rfl (op_load_lb1 [one (intVP .u32 r1.f_Chain), one (intVP .u32 r1.f_Here), bytesCk 32 r1.f_Updater, one (slVP (dC 32) r1.f_Watchers)] [bytesCk 32 r1.f_Committed, one (slVP S_api_Timed.ck r1.f_Roots), one (slVP S_api_State.ck r1.f_States), one (boolVP r1.f_Failed), one (boolVP r1.f_Cut)] 1 Tryd.isAgg27 q0 rfl rfl)) <| oe [502, 500] [] (GOk.on_eq hb5 rfl rfl rfl (op_bin bin_eql q0 qi)) <| ov [503, 500] (op_pick_t hb5 q0 q1) <| ov [500] (op_move q0) <| oe [500] [] (GOk.off_v (want := true) hb6 rfl rfl rfl rfl) <| oe [501] [] (GOk.off_v (want := true) hb6 rfl rfl rfl rfl) <| oe [502] [] (GOk.off_v (want := true) hb6 rfl rfl rfl rfl) <| ov [503] (op_pick_f hb6 q0 qb) <| ov [500] (op_assign q0) .nil) fun _ a w h => ?_
        exact ⟨false, hF, h.sub [0, 1] (by rfl)⟩
    · replace hF := ff_of hb5 hF
      refine reg mixed hn hG h [500, 3] (ov [1] (op_move q0) <| ov [500] (op_bin bin_eql q0 qi) <| ov [500] (op_move q0) <| oe [500] [] (GOk.off_v (want := true) hb5 rfl rfl rfl rfl) <| oe [501] [] (GOk.off_v (want := true) hb5 rfl rfl rfl rfl) <| oe [502] [] (GOk.off_v (want := true) hb5 rfl rfl rfl rfl) <| ov [503] (op_pick_f hb5 q0 qb) <| ov [500] (op_move q0) <| oe [500] [] (GOk.off_v (want := true) rfl rfl rfl rfl rfl) <| oe [501] [] (GOk.off_v (want := true) rfl rfl rfl rfl rfl) <| oe [502] [] (GOk.off_v (want := true) rfl rfl rfl rfl rfl) <| ov [503] (op_pick_f rfl q0 qb) <| ov [500] (op_assign q0) .nil) fun _ a w h => ?_
      exact ⟨false, hF, h.sub [0, 1] (by rfl)⟩
  · clear h hF
    rintro a w ⟨x4, hF, h⟩
    unfold law17_awake.j1 at hF
    show Code.wp Tryd.prog _ _ a w
    refine wp_ret ?_
    obtain rfl := Option.some.inj hF
    exact ⟨.inl rfl, ret1 h Tryd.results22 (r_tmp 0 rfl) [] [] rfl rfl rfl⟩

def ref04_New : Option O_RLog := some ⟨[], []⟩
theorem ref04_New_ok {r : O_RLog} (hF : ref04_New = some r) : CallOk Tryd.prog KG 23 [] [] (fun v => [RLog_e v (some r)]) anyVP := by
  refine CallOk.intro 4 Tryd.func23 rfl Tryd.ntmps23 (Nat.le_of_ble_eq_true rfl) ?_
  intro c a w hG hn h
  unfold ref04_New at hF
  change SatL c [] a w at h
  refine regS mixed hn hG h [] (ov [] (op_assign (opc (ec _))) .nil) fun _ a w h => ?_
  refine regS mixed hn hG h [500, 504, 501] (og [] [] [.slot 1 0 100000 (fun v1_ _ => (eqVP (v1_))), .res 0 100000 (fun v1_ _ => (mapR (v1_) arrK (fun l => l.length = 32) (fun u y => acc u 9 1 strC y) []))] (GOk.plain op_makeMap rfl) <| og [501, 500] [] [.slot 2 0 100000 (fun v1_ _ => (aggVP [one (eqVP (.slice none 0 0)), one (eqVP (v1_))]))] (fun {β} => (GOk.plain (op_build [(1, .tmp 1)] rfl bu153 zo153 ⟨[one (eqVP (.slice none 0 0))], [one (eqVP (.map none))], [], [one (eqVP ((β 0)))], _, rfl, rfl, rfl, (opone 0 1 rfl rfl map_one), (cells_h _), rfl⟩) rfl)) <| og [500] [] [.slot 3 2 100000 (fun v1_ _ => (lpVP v1_ 0)), .res 0 2 (fun v1_ v2_ => (lb (v2_) 153 [one (eqVP (.slice none 0 0)), one (eqVP (v1_))]))] (fun {β} => (GOk.plain (op_box (L := [one (eqVP (.slice none 0 0)), one (eqVP ((β 0)))]) q0 (cells_agg _)) rfl)) <| og [501] [] [.slot 0 2 100000 (fun v1_ _ => (lpVP v1_ 0))] (fun {β} => (GOk.plain (op_assign (V := (lpVP (β 2) 0)) q0) rfl)) .nil) fun b1 a w h => ?_
  refine wp_ret ?_
  replace h := h.nilacc 9 1 strC
  replace h := h.unsep 3 1 rfl rfl (by decide)
  replace h := h.unsep 2 3 rfl rfl (by decide)
  replace h := h.conv 2 rfl (R' := RLog_e (b1 2) (some ⟨[], []⟩)) (RLog_packo (v0 := (.slice none 0 0)) (v1 := (b1 0)) (o := (some ⟨[], []⟩)))
  replace h := h.slotc 0 rfl (fun _ _ h => lp_eqv h)
  replace h := h.sub [0, 2] (by rfl)
  change SatL c [.slot 0 (eqVP (b1 2)), .res (RLog_e (b1 2) (some ⟨[], []⟩))] a w at h
  obtain rfl := Option.some.inj hF
  exact ⟨.inl rfl, ret1v (p := (b1 2)) h Tryd.results23 (r_tmp 0 rfl) [1] _ rfl rfl rfl⟩

def ref03_Big.b1 (x4 : Int) (x5 : Int) (x6 : List UInt8) : Option (Flow (List UInt8) (Int × Int × (List UInt8))) := (if (decide ((0 : Int) ≤ x5)) = true then (if (0 : Int) ≤ x5 ∧ x5 < 8 then some (.cont (IntKind.wrap .u64 (x4.tdiv 256), IntKind.wrap .i64 (x5 - 1), x6.set x5.toNat (u8of (IntKind.wrap .u8 (x4.tmod 256))))) else none) else some (.brk (x4, x5, x6)))
def ref03_Big (a_0 : Int) (a_1 : Int) : Option (List UInt8) := ((loopN (fun s : Int × Int × (List UInt8) => ref03_Big.b1 s.1 s.2.1 s.2.2) (((IntKind.wrap .i64 (a_1 - 1)) - 0 : Int).toNat + 2) (a_0, IntKind.wrap .i64 (a_1 - 1), (List.replicate 8 0))).bind fun cr => match cr with | .ret r => some r | .next (y18, y19, y20) => (if (0 : Int) ≤ 0 ∧ (0 : Int) ≤ a_1 ∧ a_1 ≤ 8 ∧ (0 : Int) < 8 then (if (a_1 : Int).toNat - (0 : Int).toNat ≤ 8 then some (y20.take ((a_1 : Int).toNat - (0 : Int).toNat)) else none) else none))
theorem ref03_Big_ok {a_0 : Int} {a_1 : Int} {r : (List UInt8)} (hF : ref03_Big a_0 a_1 = some r) : CallOk Tryd.prog KG 125 [(intVP .u64 a_0), (intVP .i64 a_1)] [] (fun _ => []) (strVP r) := by
  refine CallOk.intro 23 Tryd.func125 rfl Tryd.ntmps125 (Nat.le_of_ble_eq_true rfl) ?_
  intro c a w hG hn h
  unfold ref03_Big at hF
  change SatL c [.slot 0 (intVP .u64 a_0), .slot 1 (intVP .i64 a_1)] a w at h
  refine regS mixed hn hG h [0, 1] (ov [] (op_assign (opc (sc _ (by decide)))) .nil) fun _ a w h => ?_
  refine regS mixed hn hG h [0, 1, 501, 500] (ob [] (op_alloc Tryd.zeroValue265 z265) .nil) fun b1 a w h => ?_
  refine wp_seq ?_
  refine regS mixed hn hG h [0, 1, 2, 500, 3] (ov [1] (op_move q0) <| ov [500] (op_bin bin_sub q0 qi) <| ov [500] (op_assign q0) .nil) fun _ a w h => ?_
  refine wp_block ?_
  obtain ⟨cr14, hl15, hF⟩ := bind_some hF
  refine wp_mono (wp_loopN (R := (List UInt8)) (S := Int × Int × (List UInt8)) (fun s a w => SatL c [.slot 0 (intVP .u64 s.1), .slot 1 (intVP .i64 a_1), .slot 5 (lpVP (b1 0) 0), .slot 6 (intVP .i64 s.2.1), .res (lb (b1 0) 265 [bytesCk 8 s.2.2])] a w) (fun res e a w => match res with | .next s => e = .exit 0 ∧ SatL c [.slot 1 (intVP .i64 a_1), .slot 5 (lpVP (b1 0) 0), .res (lb (b1 0) 265 [bytesCk 8 s.2.2])] a w | .ret r => e = .ret ∧ RetOk Tryd.prog Tryd.f125 c (strVP r) (fun _ => []) a w) ?_ _ (a_0, IntKind.wrap .i64 (a_1 - 1), (List.replicate 8 0)) _ _ _ (h.sub [0, 1, 2, 3, 4] (by rfl)) hl15) ?_
  · clear hl15 hF h
    intro s a w o h hF
    obtain ⟨x4, x5, x6⟩ := s
    change ref03_Big.b1 x4 x5 x6 = some o at hF
    unfold ref03_Big.b1 at hF
    change SatL c [.slot 0 (intVP .u64 x4), .slot 1 (intVP .i64 a_1), .slot 5 (lpVP (b1 0) 0), .slot 6 (intVP .i64 x5), .res (lb (b1 0) 265 [bytesCk 8 x6])] a w at h
    refine wp_seq ?_
    refine regS mixed hn hG h [0, 1, 2, 3, 500, 4] (ov [3] (op_move q0) <| ov [500] (op_bin bin_geq q0 qi) .nil) fun _ a w h => ?_
    refine cnd h hF 4 [0, 1, 2, 3, 5] [0, 1, 2, 3, 5] (fun hb12 hF h => ?_) (fun hb12 hF h => ?_)
    · refine wp_skip ?_
      show Code.wp Tryd.prog _ _ a w
      refine wp_seq ?_
      refine wp_block ?_
      obtain ⟨hv13, hF⟩ := ite_some hF
      refine regS mixed hn hG h [0, 1, 2, 3, 500] (ov [3] (op_move q0) <| ov [0] (op_move q0) <| ov [500] (op_bin (bin_rem (by decide)) q0 qi) <| ov [500] (op_convert_int Tryd.underlying27 Tryd.underlying5 q0) <| ov [2, 503] (op_indexAddr_lb Tryd.underlying265 Tryd.sizeOf5 q0 q1 hv13) <| ou [500, 501] 4 (op_store_lbB (i := x5) [] [] Tryd.sizeOf5 q0 q1 rfl hv13) .nil) fun _ a w h => ?_
      refine reg mixed hn hG h [500, 1, 2, 3, 4] (ov [0] (op_move q0) <| ov [500] (op_bin (bin_quo (by decide)) q0 qi) <| od [500] 0 (op_assign q0) .nil) fun _ a w h => ?_
      show Code.wp Tryd.prog _ _ a w
      refine reg mixed hn hG h [0, 1, 2, 500, 4] (ov [3] (op_move q0) <| ov [500] (op_bin bin_sub q0 qi) <| od [500] 3 (op_assign q0) .nil) fun _ a w h => ?_
      obtain rfl := Option.some.inj hF
      exact ⟨rfl, h.sub [0, 1, 2, 3, 4] (by rfl)⟩
    · refine wp_exit ?_
      obtain rfl := Option.some.inj hF
      exact ⟨exit_ne _, rfl, h.sub [1, 2, 4] (by rfl)⟩
  · clear hl15
    intro e a w hq
    cases cr14 with
    | ret r16 =>
      obtain ⟨rfl, hq⟩ := hq
      obtain rfl := Option.some.inj hF
      exact ⟨.inl rfl, hq⟩
    | next s17 =>
      obtain ⟨y18, y19, y20⟩ := s17
      obtain ⟨rfl, h⟩ := hq
      change SatL c [.slot 1 (intVP .i64 a_1), .slot 5 (lpVP (b1 0) 0), .res (lb (b1 0) 265 [bytesCk 8 y20])] a w at h
      refine inBlock_at ?_
      show Code.wp Tryd.prog _ _ a w
      obtain ⟨hv21, hF⟩ := ite_some hF
      obtain ⟨hv22, hF⟩ := ite_some hF
      refine regS mixed hn hG h [500] (ov [0] (op_move q0) <| ov [1, 500] (op_slice_lb (a := 0) (b := a_1) Tryd.underlying265 Tryd.sizeOf5 q0 rfl ⟨_, q1⟩ hv21) <| ov [500, 2] (op_str_lsl [] [] 1 Tryd.underlying259 Tryd.underlying5 Tryd.underlying9 q0 rfl rfl hv22 (by decide)) <| ov [500] (op_assign q0) .nil) fun _ a w h => ?_
      refine wp_ret ?_
      obtain rfl := Option.some.inj hF
      exact ⟨.inl rfl, ret1 h Tryd.results125 (r_tmp 0 rfl) [] [] rfl rfl rfl⟩

def ref03_Text (a_0 : List UInt8) : Option (List UInt8) := ((ref03_Big (IntKind.wrap .u64 (a_0.length : Int)) 4).bind fun r1 => (if r1.length + a_0.length ≤ mxl then some (r1 ++ a_0) else none))
theorem ref03_Text_ok {a_0 : List UInt8} {r : (List UInt8)} (hF : ref03_Text a_0 = some r) : CallOk Tryd.prog KG 147 [(strVP a_0)] [] (fun _ => []) (strVP r) := by
  refine CallOk.intro 9 Tryd.func147 rfl Tryd.ntmps147 (Nat.le_of_ble_eq_true rfl) ?_
  intro c a w hG hn h
  unfold ref03_Text at hF
  change SatL c [.slot 0 (strVP a_0)] a w at h
  refine regS mixed hn hG h [0] (ov [] (op_assign (opc (sc _ (by decide)))) .nil) fun _ a w h => ?_
  obtain ⟨r1, hr1, hF⟩ := bind_some hF
  obtain ⟨hv2, hF⟩ := ite_some hF
  refine regS mixed hn hG h [500] (ov [0] (op_move q0) <| ov [500] (op_len_str Tryd.underlying9 q0) <| ov [500] (op_convert_int Tryd.underlying3 Tryd.underlying27 q0) <| oc [500] [] Tryd.call125 (ref03_Big_ok hr1) ⟨q0, qi, trivial⟩ <| ov [0] (op_move q0) <| ov [501, 500] (op_bin (bin_sadd hv2) q0 q1) <| ov [500] (op_assign q0) .nil) fun _ a w h => ?_
  refine wp_ret ?_
  obtain rfl := Option.some.inj hF
  exact ⟨.inl rfl, ret1 h Tryd.results147 (r_tmp 0 rfl) [] [] rfl rfl rfl⟩

def ref04_Input.b1 (a_1 : List (List UInt8)) (x5 : List UInt8) (x6 : Int) : Option (Flow (List UInt8) ((List UInt8) × Int)) := (if (decide (x6 < (a_1.length : Int))) = true then (if (0 : Int) ≤ x6 ∧ x6 < a_1.length then ((ref03_Text (a_1.getD x6.toNat default)).bind fun r15 => (if x5.length + r15.length ≤ mxl then some (.cont (x5 ++ r15, IntKind.wrap .i64 (x6 + 1))) else none)) else none) else some (.brk (x5, x6)))
def ref04_Input (a_0 : Int) (a_1 : List (List UInt8)) : Option (List UInt8) := ((loopN (fun s : (List UInt8) × Int => ref04_Input.b1 a_1 s.1 s.2) (((a_1.length : Int) - 0 : Int).toNat + 2) ([u8of a_0], 0)).bind fun cr => match cr with | .ret r => some r | .next (y21, y22) => some y21)
theorem ref04_Input_ok {a_0 : Int} {a_1 : List (List UInt8)} {r : (List UInt8)} (hF : ref04_Input a_0 a_1 = some r) : CallOk Tryd.prog KG 144 [(intVP .u8 a_0), (slVP strC a_1)] [] (fun _ => []) (strVP r) := by
  refine CallOk.intro 23 Tryd.func144 rfl Tryd.ntmps144 (Nat.le_of_ble_eq_true rfl) ?_
  intro c a w hG hn h
  unfold ref04_Input at hF
  change SatL c [.slot 0 (intVP .u8 a_0), .slot 1 (slVP strC a_1)] a w at h
  refine regS mixed hn hG h [0, 1] (ov [] (op_assign (opc (sc _ (by decide)))) .nil) fun _ a w h => ?_
  refine regS mixed hn hG h [1, 500] (ov [0] (op_move q0) <| ov [500] (op_lit (xs := [.tmp 8]) (ys := [u8of a_0]) _ rfl Tryd.underlying259 Tryd.sizeOf5 Tryd.zeroValue5 rfl rfl (by decide) (by decide) ⟨⟨_, q0, (cells_u8 _)⟩, trivial⟩ lens_bC) <| ov [500] (op_conv_sl_str Tryd.underlying259 Tryd.underlying5 Tryd.underlying9 q0) <| ov [500] (op_assign q0) .nil) fun _ a w h => ?_
  refine wp_seq ?_
  refine regS mixed hn hG h [1, 502, 501, 500] (ov [0] (op_move q0) <| ov [500] (op_len_sl Tryd.underlying151 q0) <| ov [] (op_move qi) .nil) fun _ a w h => ?_
  refine wp_block ?_
  obtain ⟨cr17, hl18, hF⟩ := bind_some hF
  refine wp_mono (wp_loopN (R := (List UInt8)) (S := (List UInt8) × Int) (fun s a w => SatL c [.slot 5 (strVP s.1), .slot 11 (slVP strC a_1), .slot 12 (intVP .i64 (a_1.length : Int)), .slot 13 (intVP .i64 s.2)] a w) (fun res e a w => match res with | .next s => e = .exit 0 ∧ SatL c [.slot 5 (strVP s.1)] a w | .ret r => e = .ret ∧ RetOk Tryd.prog Tryd.f144 c (strVP r) (fun _ => []) a w) ?_ _ ([u8of a_0], 0) _ _ _ (h.sub [0, 1, 2, 3] (by rfl)) hl18) ?_
  · clear hl18 hF h
    intro s a w o h hF
    obtain ⟨x5, x6⟩ := s
    change ref04_Input.b1 a_1 x5 x6 = some o at hF
    unfold ref04_Input.b1 at hF
    change SatL c [.slot 5 (strVP x5), .slot 11 (slVP strC a_1), .slot 12 (intVP .i64 (a_1.length : Int)), .slot 13 (intVP .i64 x6)] a w at h
    refine regS mixed hn hG h [0, 1, 2, 3, 500] (ov [3, 2] (op_bin bin_lss q0 q1) .nil) fun _ a w h => ?_
    refine wp_seq ?_
    refine cnd h hF 4 [0, 1, 2, 3] [0, 1, 2, 3] (fun hb13 hF h => ?_) (fun hb13 hF h => ?_)
    · refine wp_skip ?_
      show Code.wp Tryd.prog _ _ a w
      refine wp_seq ?_
      refine wp_block ?_
      obtain ⟨hv14, hF⟩ := ite_some hF
      refine regS mixed hn hG h [0, 500, 1, 2, 3] (ov [1, 3] (op_indexAddr_sl Tryd.underlying151 Tryd.sizeOf9 lens_strC q0 q1 hv14) <| ov [500] (op_load_pp1 [] Tryd.isAgg9 q0) <| ov [500] (op_assign q0) .nil) fun _ a w h => ?_
      obtain ⟨r15, hr15, hF⟩ := bind_some hF
      obtain ⟨hv16, hF⟩ := ite_some hF
      refine reg mixed hn hG h [500, 2, 3, 4] (ov [0] (op_move q0) <| ov [1] (op_move q0) <| oc [500] [] Tryd.call147 (ref03_Text_ok hr15) ⟨q0, trivial⟩ <| ov [502, 500] (op_bin (bin_sadd hv16) q0 q1) <| od [500] 0 (op_assign q0) .nil) fun _ a w h => ?_
      show Code.wp Tryd.prog _ _ a w
      refine reg mixed hn hG h [0, 1, 2, 500] (ov [3] (op_bin bin_add q0 qi) <| od [500] 3 (op_move q0) .nil) fun _ a w h => ?_
      obtain rfl := Option.some.inj hF
      exact ⟨rfl, h.sub [0, 1, 2, 3] (by rfl)⟩
    · refine wp_exit ?_
      obtain rfl := Option.some.inj hF
      exact ⟨exit_ne _, rfl, h.sub [0] (by rfl)⟩
  · clear hl18
    intro e a w hq
    cases cr17 with
    | ret r19 =>
      obtain ⟨rfl, hq⟩ := hq
      obtain rfl := Option.some.inj hF
      exact ⟨.inl rfl, hq⟩
    | next s20 =>
      obtain ⟨y21, y22⟩ := s20
      obtain ⟨rfl, h⟩ := hq
      change SatL c [.slot 5 (strVP y21)] a w at h
      refine inBlock_at ?_
      show Code.wp Tryd.prog _ _ a w
      refine regS mixed hn hG h [500] (ov [0] (op_move q0) <| ov [500] (op_assign q0) .nil) fun _ a w h => ?_
      refine wp_ret ?_
      obtain rfl := Option.some.inj hF
      exact ⟨.inl rfl, ret1 h Tryd.results144 (r_tmp 0 rfl) [] [] rfl rfl rfl⟩

def ref01_constants : Option (List Int) := some ([1116352408, 1899447441, 3049323471, 3921009573, 961987163, 1508970993, 2453635748, 2870763221, 3624381080, 310598401, 607225278, 1426881987, 1925078388, 2162078206, 2614888103, 3248222580, 3835390401, 4022224774, 264347078, 604807628, 770255983, 1249150122, 1555081692, 1996064986, 2554220882, 2821834349, 2952996808, 3210313671, 3336571891, 3584528711, 113926993, 338241895, 666307205, 773529912, 1294757372, 1396182291, 1695183700, 1986661051, 2177026350, 2456956037, 2730485921, 2820302411, 3259730800, 3345764771, 3516065817, 3600352804, 4094571909, 275423344, 430227734, 506948616, 659060556, 883997877, 958139571, 1322822218, 1537002063, 1747873779, 1955562222, 2024104815, 2227730452, 2361852424, 2428436474, 2756734187, 3204031479, 3329325298] ++ List.replicate (64 - 64) 0)
theorem ref01_constants_ok {r : (List Int)} (hF : ref01_constants = some r) : CallOk Tryd.prog KG 231 [] [] (fun _ => []) (aggVP [intsCk .u32 64 r]) := by
  refine CallOk.intro 2 Tryd.func231 rfl Tryd.ntmps231 (Nat.le_of_ble_eq_true rfl) ?_
  intro c a w hG hn h
  unfold ref01_constants at hF
  change SatL c [] a w at h
  refine regS mixed hn hG h [501, 500] (ob [] (op_alloc Tryd.zeroValue327 z327) .nil) fun b1 a w h => ?_
  refine regS mixed hn hG h [0, 500] (ov [] (op_buildI (xs := [.const (.int .u32 1116352408), .const (.int .u32 1899447441), .const (.int .u32 3049323471), .const (.int .u32 3921009573), .const (.int .u32 961987163), .const (.int .u32 1508970993), .const (.int .u32 2453635748), .const (.int .u32 2870763221), .const (.int .u32 3624381080), .const (.int .u32 310598401), .const (.int .u32 607225278), .const (.int .u32 1426881987), .const (.int .u32 1925078388), .const (.int .u32 2162078206), .const (.int .u32 2614888103), .const (.int .u32 3248222580), .const (.int .u32 3835390401), .const (.int .u32 4022224774), .const (.int .u32 264347078), .const (.int .u32 604807628), .const (.int .u32 770255983), .const (.int .u32 1249150122), .const (.int .u32 1555081692), .const (.int .u32 1996064986), .const (.int .u32 2554220882), .const (.int .u32 2821834349), .const (.int .u32 2952996808), .const (.int .u32 3210313671), .const (.int .u32 3336571891), .const (.int .u32 3584528711), .const (.int .u32 113926993), .const (.int .u32 338241895), .const (.int .u32 666307205), .const (.int .u32 773529912), .const (.int .u32 1294757372), .const (.int .u32 1396182291), .const (.int .u32 1695183700), .const (.int .u32 1986661051), .const (.int .u32 2177026350), .const (.int .u32 2456956037), .const (.int .u32 2730485921), .const (.int .u32 2820302411), .const (.int .u32 3259730800), .const (.int .u32 3345764771), .const (.int .u32 3516065817), .const (.int .u32 3600352804), .const (.int .u32 4094571909), .const (.int .u32 275423344), .const (.int .u32 430227734), .const (.int .u32 506948616), .const (.int .u32 659060556), .const (.int .u32 883997877), .const (.int .u32 958139571), .const (.int .u32 1322822218), .const (.int .u32 1537002063), .const (.int .u32 1747873779), .const (.int .u32 1955562222), .const (.int .u32 2024104815), .const (.int .u32 2227730452), .const (.int .u32 2361852424), .const (.int .u32 2428436474), .const (.int .u32 2756734187), .const (.int .u32 3204031479), .const (.int .u32 3329325298)]) (ys := [1116352408, 1899447441, 3049323471, 3921009573, 961987163, 1508970993, 2453635748, 2870763221, 3624381080, 310598401, 607225278, 1426881987, 1925078388, 2162078206, 2614888103, 3248222580, 3835390401, 4022224774, 264347078, 604807628, 770255983, 1249150122, 1555081692, 1996064986, 2554220882, 2821834349, 2952996808, 3210313671, 3336571891, 3584528711, 113926993, 338241895, 666307205, 773529912, 1294757372, 1396182291, 1695183700, 1986661051, 2177026350, 2456956037, 2730485921, 2820302411, 3259730800, 3345764771, 3516065817, 3600352804, 4094571909, 275423344, 430227734, 506948616, 659060556, 883997877, 958139571, 1322822218, 1537002063, 1747873779, 1955562222, 2024104815, 2227730452, 2361852424, 2428436474, 2756734187, 3204031479, 3329325298]) rfl bu327 ⟨⟨_, qi, (cells_one (one_int _ _))⟩, ⟨_, qi, (cells_one (one_int _ _))⟩, ⟨_, qi, (cells_one (one_int _ _))⟩, ⟨_, qi, (cells_one (one_int _ _))⟩, ⟨_, qi, (cells_one (one_int _ _))⟩, ⟨_, qi, (cells_one (one_int _ _))⟩, ⟨_, qi, (cells_one (one_int _ _))⟩, ⟨_, qi, (cells_one (one_int _ _))⟩, ⟨_, qi, (cells_one (one_int _ _))⟩, ⟨_, qi, (cells_one (one_int _ _))⟩, ⟨_, qi, (cells_one (one_int _ _))⟩, ⟨_, qi, (cells_one (one_int _ _))⟩, ⟨_, qi, (cells_one (one_int _ _))⟩, ⟨_, qi, (cells_one (one_int _ _))⟩, ⟨_, qi, (cells_one (one_int _ _))⟩, ⟨_, qi, (cells_one (one_int _ _))⟩, ⟨_, qi, (cells_one (one_int _ _))⟩, ⟨_, qi, (cells_one (one_int _ _))⟩, ⟨_, qi, (cells_one (one_int _ _))⟩, ⟨_, qi, (cells_one (one_int _ _))⟩, ⟨_, qi, (cells_one (one_int _ _))⟩, ⟨_, qi, (cells_one (one_int _ _))⟩, ⟨_, qi, (cells_one (one_int _ _))⟩, ⟨_, qi, (cells_one (one_int _ _))⟩, ⟨_, qi, (cells_one (one_int _ _))⟩, ⟨_, qi, (cells_one (one_int _ _))⟩, ⟨_, qi, (cells_one (one_int _ _))⟩, ⟨_, qi, (cells_one (one_int _ _))⟩, ⟨_, qi, (cells_one (one_int _ _))⟩, ⟨_, qi, (cells_one (one_int _ _))⟩, ⟨_, qi, (cells_one (one_int _ _))⟩, ⟨_, qi, (cells_one (one_int _ _))⟩, ⟨_, qi, (cells_one (one_int _ _))⟩, ⟨_, qi, (cells_one (one_int _ _))⟩, ⟨_, qi, (cells_one (one_int _ _))⟩, ⟨_, qi, (cells_one (one_int _ _))⟩, ⟨_, qi, (cells_one (one_int _ _))⟩, ⟨_, qi, (cells_one (one_int _ _))⟩, ⟨_, qi, (cells_one (one_int _ _))⟩, ⟨_, qi, (cells_one (one_int _ _))⟩, ⟨_, qi, (cells_one (one_int _ _))⟩, ⟨_, qi, (cells_one (one_int _ _))⟩, ⟨_, qi, (cells_one (one_int _ _))⟩, ⟨_, qi, (cells_one (one_int _ _))⟩, ⟨_, qi, (cells_one (one_int _ _))⟩, ⟨_, qi, (cells_one (one_int _ _))⟩, ⟨_, qi, (cells_one (one_int _ _))⟩, ⟨_, qi, (cells_one (one_int _ _))⟩, ⟨_, qi, (cells_one (one_int _ _))⟩, ⟨_, qi, (cells_one (one_int _ _))⟩, ⟨_, qi, (cells_one (one_int _ _))⟩, ⟨_, qi, (cells_one (one_int _ _))⟩, ⟨_, qi, (cells_one (one_int _ _))⟩, ⟨_, qi, (cells_one (one_int _ _))⟩, ⟨_, qi, (cells_one (one_int _ _))⟩, ⟨_, qi, (cells_one (one_int _ _))⟩, ⟨_, qi, (cells_one (one_int _ _))⟩, ⟨_, qi, (cells_one (one_int _ _))⟩, ⟨_, qi, (cells_one (one_int _ _))⟩, ⟨_, qi, (cells_one (one_int _ _))⟩, ⟨_, qi, (cells_one (one_int _ _))⟩, ⟨_, qi, (cells_one (one_int _ _))⟩, ⟨_, qi, (cells_one (one_int _ _))⟩, ⟨_, qi, (cells_one (one_int _ _))⟩, trivial⟩ (by decide) rfl) <| ou [0, 500] 1 (op_store_w Tryd.sizeOf327 q0 q1 (cells_agg _)) .nil) fun _ a w h => ?_
  refine wp_ret ?_
  obtain rfl := Option.some.inj hF
  exact ⟨.inl rfl, ret1 h Tryd.results231 (r_cell 0 1 rfl rfl Tryd.isAgg327 Tryd.sizeOf327 rfl) [] [] rfl rfl rfl⟩

def ref01_turn (a_0 : Int) (a_1 : Int) : Option Int := some (bits .or .u32 (shr .u32 a_0 a_1) (shl .u32 a_0 (IntKind.wrap .u64 (32 - a_1))))
theorem ref01_turn_ok {a_0 : Int} {a_1 : Int} {r : Int} (hF : ref01_turn a_0 a_1 = some r) : CallOk Tryd.prog KG 232 [(intVP .u32 a_0), (intVP .u64 a_1)] [] (fun _ => []) (intVP .u32 r) := by
  refine CallOk.intro 13 Tryd.func232 rfl Tryd.ntmps232 (Nat.le_of_ble_eq_true rfl) ?_
  intro c a w hG hn h
  unfold ref01_turn at hF
  change SatL c [.slot 0 (intVP .u32 a_0), .slot 1 (intVP .u64 a_1)] a w at h
  refine regS mixed hn hG h [0, 1] (ov [] (op_assign qi) .nil) fun _ a w h => ?_
  refine regS mixed hn hG h [500] (ov [0] (op_move q0) <| ov [1] (op_move q0) <| ov [501, 500] (op_bin (bin_shru rfl) q0 q1) <| ov [0] (op_move q0) <| ov [1] (op_move q0) <| ov [500] (op_bin bin_sub qi q0) <| ov [502, 500] (op_bin (bin_shlu rfl) q0 q1) <| ov [504, 500] (op_bin bin_or q0 q1) <| ov [500] (op_assign q0) .nil) fun _ a w h => ?_
  refine wp_ret ?_
  obtain rfl := Option.some.inj hF
  exact ⟨.inl rfl, ret1 h Tryd.results232 (r_tmp 0 rfl) [] [] rfl rfl rfl⟩

def ref01_Block.b1 (a_1 : List (UInt8)) (x12 : Int) (x13 : List Int) : Option (Flow (List Int) (Int × (List Int))) := (if (decide (x12 < (16 : Int))) = true then (if (0 : Int) ≤ IntKind.wrap .i64 (4 * x12) ∧ IntKind.wrap .i64 (4 * x12) < a_1.length then (if (0 : Int) ≤ IntKind.wrap .i64 ((IntKind.wrap .i64 (4 * x12)) + 1) ∧ IntKind.wrap .i64 ((IntKind.wrap .i64 (4 * x12)) + 1) < a_1.length then (if (0 : Int) ≤ IntKind.wrap .i64 ((IntKind.wrap .i64 (4 * x12)) + 2) ∧ IntKind.wrap .i64 ((IntKind.wrap .i64 (4 * x12)) + 2) < a_1.length then (if (0 : Int) ≤ IntKind.wrap .i64 ((IntKind.wrap .i64 (4 * x12)) + 3) ∧ IntKind.wrap .i64 ((IntKind.wrap .i64 (4 * x12)) + 3) < a_1.length then (if (0 : Int) ≤ x12 ∧ x12 < 64 then some (.cont (IntKind.wrap .i64 (x12 + 1), x13.set x12.toNat (IntKind.wrap .u32 ((IntKind.wrap .u32 ((IntKind.wrap .u32 ((IntKind.wrap .u32 ((IntKind.wrap .u32 ((a_1.getD (IntKind.wrap .i64 (4 * x12)).toNat default).toNat)) * 16777216)) + (IntKind.wrap .u32 ((IntKind.wrap .u32 ((a_1.getD (IntKind.wrap .i64 ((IntKind.wrap .i64 (4 * x12)) + 1)).toNat default).toNat)) * 65536)))) + (IntKind.wrap .u32 ((IntKind.wrap .u32 ((a_1.getD (IntKind.wrap .i64 ((IntKind.wrap .i64 (4 * x12)) + 2)).toNat default).toNat)) * 256)))) + (IntKind.wrap .u32 ((a_1.getD (IntKind.wrap .i64 ((IntKind.wrap .i64 (4 * x12)) + 3)).toNat default).toNat)))))) else none) else none) else none) else none) else none) else some (.brk (x12, x13)))
def ref01_Block.b2 (x43 : Int) (x44 : List Int) : Option (Flow (List Int) (Int × (List Int))) := (if (decide (x43 < (64 : Int))) = true then (if (0 : Int) ≤ IntKind.wrap .i64 (x43 - 15) ∧ IntKind.wrap .i64 (x43 - 15) < 64 then ((ref01_turn (x44.getD (IntKind.wrap .i64 (x43 - 15)).toNat 0) 7).bind fun r59 => ((ref01_turn (x44.getD (IntKind.wrap .i64 (x43 - 15)).toNat 0) 18).bind fun r60 => (if (0 : Int) ≤ IntKind.wrap .i64 (x43 - 2) ∧ IntKind.wrap .i64 (x43 - 2) < 64 then ((ref01_turn (x44.getD (IntKind.wrap .i64 (x43 - 2)).toNat 0) 17).bind fun r62 => ((ref01_turn (x44.getD (IntKind.wrap .i64 (x43 - 2)).toNat 0) 19).bind fun r63 => (if (0 : Int) ≤ IntKind.wrap .i64 (x43 - 16) ∧ IntKind.wrap .i64 (x43 - 16) < 64 then (if (0 : Int) ≤ IntKind.wrap .i64 (x43 - 7) ∧ IntKind.wrap .i64 (x43 - 7) < 64 then (if (0 : Int) ≤ x43 ∧ x43 < 64 then some (.cont (IntKind.wrap .i64 (x43 + 1), x44.set x43.toNat (IntKind.wrap .u32 ((IntKind.wrap .u32 ((IntKind.wrap .u32 ((x44.getD (IntKind.wrap .i64 (x43 - 16)).toNat 0) + (bits .xor .u32 (bits .xor .u32 r59 r60) (shr .u32 (x44.getD (IntKind.wrap .i64 (x43 - 15)).toNat 0) 3)))) + (x44.getD (IntKind.wrap .i64 (x43 - 7)).toNat 0))) + (bits .xor .u32 (bits .xor .u32 r62 r63) (shr .u32 (x44.getD (IntKind.wrap .i64 (x43 - 2)).toNat 0) 10)))))) else none) else none) else none))) else none))) else none) else some (.brk (x43, x44)))
def ref01_Block.b3 (r4 : (List Int)) (y72 : List Int) (x80 : Int) (x81 : Int) (x82 : Int) (x83 : Int) (x84 : Int) (x85 : Int) (x86 : Int) (x87 : Int) (x88 : Int) : Option (Flow (List Int) (Int × Int × Int × Int × Int × Int × Int × Int × Int)) := (if (decide (x88 < (64 : Int))) = true then ((ref01_turn x84 6).bind fun r107 => ((ref01_turn x84 11).bind fun r108 => ((ref01_turn x84 25).bind fun r109 => (if (0 : Int) ≤ x88 ∧ x88 < 64 then ((ref01_turn x80 2).bind fun r111 => ((ref01_turn x80 13).bind fun r112 => ((ref01_turn x80 22).bind fun r113 => some (.cont (IntKind.wrap .u32 ((IntKind.wrap .u32 ((IntKind.wrap .u32 ((IntKind.wrap .u32 ((IntKind.wrap .u32 (x87 + (bits .xor .u32 (bits .xor .u32 r107 r108) r109))) + (bits .xor .u32 (bits .and .u32 x84 x85) (bits .and .u32 (bits .xor .u32 4294967295 x84) x86)))) + (r4.getD x88.toNat 0))) + (y72.getD x88.toNat 0))) + (IntKind.wrap .u32 ((bits .xor .u32 (bits .xor .u32 r111 r112) r113) + (bits .xor .u32 (bits .xor .u32 (bits .and .u32 x80 x81) (bits .and .u32 x80 x82)) (bits .and .u32 x81 x82))))), x80, x81, x82, IntKind.wrap .u32 (x83 + (IntKind.wrap .u32 ((IntKind.wrap .u32 ((IntKind.wrap .u32 ((IntKind.wrap .u32 (x87 + (bits .xor .u32 (bits .xor .u32 r107 r108) r109))) + (bits .xor .u32 (bits .and .u32 x84 x85) (bits .and .u32 (bits .xor .u32 4294967295 x84) x86)))) + (r4.getD x88.toNat 0))) + (y72.getD x88.toNat 0)))), x84, x85, x86, IntKind.wrap .i64 (x88 + 1)))))) else none)))) else some (.brk (x80, x81, x82, x83, x84, x85, x86, x87, x88)))
def ref01_Block (a_0 : List Int) (a_1 : List (UInt8)) : Option (List Int) := (if (!decide ((a_1.length : Int) = (64 : Int))) = true then some a_0 else ((ref01_constants).bind fun r4 => ((loopN (fun s : Int × (List Int) => ref01_Block.b1 a_1 s.1 s.2) ((16 - 0 : Int).toNat + 2) (0, (List.replicate 64 0))).bind fun cr => match cr with | .ret r => some r | .next (y32, y33) => ((loopN (fun s : Int × (List Int) => ref01_Block.b2 s.1 s.2) ((64 - 16 : Int).toNat + 2) (16, y33)).bind fun cr => match cr with | .ret r => some r | .next (y71, y72) => ((loopN (fun s : Int × Int × Int × Int × Int × Int × Int × Int × Int => ref01_Block.b3 r4 y72 s.1 s.2.1 s.2.2.1 s.2.2.2.1 s.2.2.2.2.1 s.2.2.2.2.2.1 s.2.2.2.2.2.2.1 s.2.2.2.2.2.2.2.1 s.2.2.2.2.2.2.2.2) ((64 - 0 : Int).toNat + 2) (a_0.getD (0 : Int).toNat 0, a_0.getD (1 : Int).toNat 0, a_0.getD (2 : Int).toNat 0, a_0.getD (3 : Int).toNat 0, a_0.getD (4 : Int).toNat 0, a_0.getD (5 : Int).toNat 0, a_0.getD (6 : Int).toNat 0, a_0.getD (7 : Int).toNat 0, 0)).bind fun cr => match cr with | .ret r => some r | .next (y118, y119, y120, y121, y122, y123, y124, y125, y126) => some ([IntKind.wrap .u32 ((a_0.getD (0 : Int).toNat 0) + y118), IntKind.wrap .u32 ((a_0.getD (1 : Int).toNat 0) + y119), IntKind.wrap .u32 ((a_0.getD (2 : Int).toNat 0) + y120), IntKind.wrap .u32 ((a_0.getD (3 : Int).toNat 0) + y121), IntKind.wrap .u32 ((a_0.getD (4 : Int).toNat 0) + y122), IntKind.wrap .u32 ((a_0.getD (5 : Int).toNat 0) + y123), IntKind.wrap .u32 ((a_0.getD (6 : Int).toNat 0) + y124), IntKind.wrap .u32 ((a_0.getD (7 : Int).toNat 0) + y125)] ++ List.replicate (8 - 8) 0))))))
theorem ref01_Block_ok {a_0 : List Int} {a_1 : List (UInt8)} {r : (List Int)} (hF : ref01_Block a_0 a_1 = some r) : CallOk Tryd.prog KG 222 [(aggVP [intsCk .u32 8 a_0]), (slVP bC a_1)] [] (fun _ => []) (aggVP [intsCk .u32 8 r]) := by
  refine CallOk.intro 231 Tryd.func222 rfl Tryd.ntmps222 (Nat.le_of_ble_eq_true rfl) ?_
  intro c a w hG hn h
  unfold ref01_Block at hF
  change SatL c [.slot 0 (aggVP [intsCk .u32 8 a_0]), .slot 1 (slVP bC a_1)] a w at h
  refine regS mixed hn hG h [1, 503, 501, 502, 500] (ob [0] (op_box q0 (cells_agg _)) <| ob [] (op_alloc Tryd.zeroValue280 z280) .nil) fun b1 a w h => ?_
  refine wp_seq ?_
  refine regS mixed hn hG h [0, 1, 2, 500, 3, 4] (ov [0] (op_move q0) <| ov [500] (op_len_sl Tryd.underlying259 q0) <| ov [500] (op_bin bin_neq q0 qi) .nil) fun _ a w h => ?_
  refine cnd h hF 3 [1, 2, 4, 5] [0, 1, 2, 4, 5] (fun hb3 hF h => ?_) (fun hb3 hF h => ?_)
  · refine regS mixed hn hG h [1, 500] (ov [0, 2] (op_load_w 1 Tryd.isAgg280 Tryd.sizeOf280 q0) <| ou [1, 500] 3 (op_store_w Tryd.sizeOf280 q0 q1 (cells_agg _)) .nil) fun _ a w h => ?_
    refine wp_ret ?_
    obtain rfl := Option.some.inj hF
    exact ⟨.inl rfl, ret1 h Tryd.results222 (r_cell 0 1 rfl rfl Tryd.isAgg280 Tryd.sizeOf280 rfl) [] [] rfl rfl rfl⟩
  · refine wp_skip ?_
    show Code.wp Tryd.prog _ _ a w
    obtain ⟨r4, hr4, hF⟩ := bind_some hF
    refine regS mixed hn hG h [0, 1, 2, 502, 3, 4, 500] (oc [] [] Tryd.call231 (ref01_constants_ok hr4) trivial <| ob [] (op_alloc Tryd.zeroValue327 z327) <| og [501, 502] [500] [.res 1 100000 (fun v1_ _ => (lb (v1_) 327 [intsCk .u32 64 r4]))] (GOk.plain (op_store_w Tryd.sizeOf327 q0 q1 (cells_agg _)) rfl) .nil) fun b5 a w h => ?_
    refine regS mixed hn hG h [0, 1, 2, 3, 501, 4, 5, 6, 500] (ob [] (op_alloc Tryd.zeroValue327 z327) .nil) fun b6 a w h => ?_
    refine wp_seq ?_
    refine regS mixed hn hG h [0, 1, 2, 3, 4, 500, 5, 6, 7, 8] (ov [] (op_assign qi) .nil) fun _ a w h => ?_
    refine wp_block ?_
    obtain ⟨cr28, hl29, hF⟩ := bind_some hF
    refine wp_mono (wp_loopN (R := (List Int)) (S := Int × (List Int)) (fun s a w => SatL c [.slot 1 (slVP bC a_1), .slot 2 (lpVP (b1 0) 0), .slot 4 (lpVP (b1 1) 0), .slot 5 (lpVP (b5 1) 0), .slot 6 (lpVP (b6 0) 0), .slot 7 (intVP .i64 s.1), .res (lb (b1 0) 280 [intsCk .u32 8 a_0]), .res (lb (b1 1) 280 [intsCk .u32 8 (List.replicate 8 0)]), .res (lb (b5 1) 327 [intsCk .u32 64 r4]), .res (lb (b6 0) 327 [intsCk .u32 64 s.2])] a w) (fun res e a w => match res with | .next s => e = .exit 0 ∧ SatL c [.slot 2 (lpVP (b1 0) 0), .slot 4 (lpVP (b1 1) 0), .slot 5 (lpVP (b5 1) 0), .slot 6 (lpVP (b6 0) 0), .res (lb (b1 0) 280 [intsCk .u32 8 a_0]), .res (lb (b1 1) 280 [intsCk .u32 8 (List.replicate 8 0)]), .res (lb (b5 1) 327 [intsCk .u32 64 r4]), .res (lb (b6 0) 327 [intsCk .u32 64 s.2])] a w | .ret r => e = .ret ∧ RetOk Tryd.prog Tryd.f222 c (aggVP [intsCk .u32 8 r]) (fun _ => []) a w) ?_ _ (0, (List.replicate 64 0)) _ _ _ (h.sub [0, 1, 2, 3, 4, 5, 6, 7, 8, 9] (by rfl)) hl29) ?_
    · clear hl29 hF h
      intro s a w o h hF
      obtain ⟨x12, x13⟩ := s
      change ref01_Block.b1 a_1 x12 x13 = some o at hF
      unfold ref01_Block.b1 at hF
      change SatL c [.slot 1 (slVP bC a_1), .slot 2 (lpVP (b1 0) 0), .slot 4 (lpVP (b1 1) 0), .slot 5 (lpVP (b5 1) 0), .slot 6 (lpVP (b6 0) 0), .slot 7 (intVP .i64 x12), .res (lb (b1 0) 280 [intsCk .u32 8 a_0]), .res (lb (b1 1) 280 [intsCk .u32 8 (List.replicate 8 0)]), .res (lb (b5 1) 327 [intsCk .u32 64 r4]), .res (lb (b6 0) 327 [intsCk .u32 64 x13])] a w at h
      refine wp_seq ?_
      refine regS mixed hn hG h [0, 1, 2, 3, 4, 5, 500, 6, 7, 8, 9] (ov [5] (op_move q0) <| ov [500] (op_bin bin_lss q0 qi) .nil) fun _ a w h => ?_
      refine cnd h hF 6 [0, 1, 2, 3, 4, 5, 7, 8, 9, 10] [0, 1, 2, 3, 4, 5, 7, 8, 9, 10] (fun hb22 hF h => ?_) (fun hb22 hF h => ?_)
      · refine wp_skip ?_
        show Code.wp Tryd.prog _ _ a w
        refine wp_seq ?_
        refine wp_block ?_
        obtain ⟨hv23, hF⟩ := ite_some hF
        obtain ⟨hv24, hF⟩ := ite_some hF
        obtain ⟨hv25, hF⟩ := ite_some hF
        obtain ⟨hv26, hF⟩ := ite_some hF
        obtain ⟨hv27, hF⟩ := ite_some hF
        refine reg mixed hn hG h [0, 1, 2, 3, 4, 5, 6, 7, 8, 500] (ov [5] (op_move q0) <| ov [0] (op_move q0) <| ov [5] (op_move q0) <| ov [500] (op_bin bin_mul qi q0) <| ov [502, 500] (op_indexAddr_sl Tryd.underlying259 Tryd.sizeOf5 lens_bC q0 q1 hv23) <| ov [500] (op_load_pp1 [] Tryd.isAgg5 q0) <| ov [500] (op_convert_int Tryd.underlying5 Tryd.underlying22 q0) <| ov [500] (op_bin bin_mul q0 qi) <| ov [0] (op_move q0) <| ov [5] (op_move q0) <| ov [500] (op_bin bin_mul qi q0) <| ov [500] (op_bin bin_add q0 qi) <| ov [503, 500] (op_indexAddr_sl Tryd.underlying259 Tryd.sizeOf5 lens_bC q0 q1 hv24) <| ov [500] (op_load_pp1 [] Tryd.isAgg5 q0) <| ov [500] (op_convert_int Tryd.underlying5 Tryd.underlying22 q0) <| ov [500] (op_bin bin_mul q0 qi) <| ov [508, 500] (op_bin bin_add q0 q1) <| ov [0] (op_move q0) <| ov [5] (op_move q0) <| ov [500] (op_bin bin_mul qi q0) <| ov [500] (op_bin bin_add q0 qi) <| ov [503, 500] (op_indexAddr_sl Tryd.underlying259 Tryd.sizeOf5 lens_bC q0 q1 hv25) <| ov [500] (op_load_pp1 [] Tryd.isAgg5 q0) <| ov [500] (op_convert_int Tryd.underlying5 Tryd.underlying22 q0) <| ov [500] (op_bin bin_mul q0 qi) <| ov [508, 500] (op_bin bin_add q0 q1) <| ov [0] (op_move q0) <| ov [5] (op_move q0) <| ov [500] (op_bin bin_mul qi q0) <| ov [500] (op_bin bin_add q0 qi) <| ov [503, 500] (op_indexAddr_sl Tryd.underlying259 Tryd.sizeOf5 lens_bC q0 q1 hv26) <| ov [500] (op_load_pp1 [] Tryd.isAgg5 q0) <| ov [500] (op_convert_int Tryd.underlying5 Tryd.underlying22 q0) <| ov [507, 500] (op_bin bin_add q0 q1) <| ov [4, 533] (op_indexAddr_lb Tryd.underlying327 Tryd.sizeOf22 q0 q1 hv27) <| ou [500, 501] 9 (op_store_lbI (i := x12) [] [] Tryd.sizeOf22 q0 q1 rfl hv27) .nil) fun _ a w h => ?_
        show Code.wp Tryd.prog _ _ a w
        refine reg mixed hn hG h [0, 1, 2, 3, 4, 500, 6, 7, 8, 9] (ov [5] (op_move q0) <| ov [500] (op_bin bin_add q0 qi) <| od [500] 5 (op_assign q0) .nil) fun _ a w h => ?_
        obtain rfl := Option.some.inj hF
        exact ⟨rfl, h.sub [0, 1, 2, 3, 4, 5, 6, 7, 8, 9] (by rfl)⟩
      · refine wp_exit ?_
        obtain rfl := Option.some.inj hF
        exact ⟨exit_ne _, rfl, h.sub [1, 2, 3, 4, 6, 7, 8, 9] (by rfl)⟩
    · clear hl29
      intro e a w hq
      cases cr28 with
      | ret r30 =>
        obtain ⟨rfl, hq⟩ := hq
        obtain rfl := Option.some.inj hF
        exact ⟨.inl rfl, hq⟩
      | next s31 =>
        obtain ⟨y32, y33⟩ := s31
        obtain ⟨rfl, h⟩ := hq
        change SatL c [.slot 2 (lpVP (b1 0) 0), .slot 4 (lpVP (b1 1) 0), .slot 5 (lpVP (b5 1) 0), .slot 6 (lpVP (b6 0) 0), .res (lb (b1 0) 280 [intsCk .u32 8 a_0]), .res (lb (b1 1) 280 [intsCk .u32 8 (List.replicate 8 0)]), .res (lb (b5 1) 327 [intsCk .u32 64 r4]), .res (lb (b6 0) 327 [intsCk .u32 64 y33])] a w at h
        refine inBlock_at ?_
        show Code.wp Tryd.prog _ _ a w
        refine wp_seq ?_
        refine regS mixed hn hG h [0, 1, 2, 3, 500, 4, 5, 6, 7] (ov [] (op_assign qi) .nil) fun _ a w h => ?_
        refine wp_block ?_
        obtain ⟨cr67, hl68, hF⟩ := bind_some hF
        refine wp_mono (wp_loopN (R := (List Int)) (S := Int × (List Int)) (fun s a w => SatL c [.slot 2 (lpVP (b1 0) 0), .slot 4 (lpVP (b1 1) 0), .slot 5 (lpVP (b5 1) 0), .slot 6 (lpVP (b6 0) 0), .slot 8 (intVP .i64 s.1), .res (lb (b1 0) 280 [intsCk .u32 8 a_0]), .res (lb (b1 1) 280 [intsCk .u32 8 (List.replicate 8 0)]), .res (lb (b5 1) 327 [intsCk .u32 64 r4]), .res (lb (b6 0) 327 [intsCk .u32 64 s.2])] a w) (fun res e a w => match res with | .next s => e = .exit 2 ∧ SatL c [.slot 2 (lpVP (b1 0) 0), .slot 4 (lpVP (b1 1) 0), .slot 5 (lpVP (b5 1) 0), .slot 6 (lpVP (b6 0) 0), .res (lb (b1 0) 280 [intsCk .u32 8 a_0]), .res (lb (b1 1) 280 [intsCk .u32 8 (List.replicate 8 0)]), .res (lb (b5 1) 327 [intsCk .u32 64 r4]), .res (lb (b6 0) 327 [intsCk .u32 64 s.2])] a w | .ret r => e = .ret ∧ RetOk Tryd.prog Tryd.f222 c (aggVP [intsCk .u32 8 r]) (fun _ => []) a w) ?_ _ (16, y33) _ _ _ (h.sub [0, 1, 2, 3, 4, 5, 6, 7, 8] (by rfl)) hl68) ?_
        · clear hl68 hF h
          intro s a w o h hF
          obtain ⟨x43, x44⟩ := s
          change ref01_Block.b2 x43 x44 = some o at hF
          unfold ref01_Block.b2 at hF
          change SatL c [.slot 2 (lpVP (b1 0) 0), .slot 4 (lpVP (b1 1) 0), .slot 5 (lpVP (b5 1) 0), .slot 6 (lpVP (b6 0) 0), .slot 8 (intVP .i64 x43), .res (lb (b1 0) 280 [intsCk .u32 8 a_0]), .res (lb (b1 1) 280 [intsCk .u32 8 (List.replicate 8 0)]), .res (lb (b5 1) 327 [intsCk .u32 64 r4]), .res (lb (b6 0) 327 [intsCk .u32 64 x44])] a w at h
          refine wp_seq ?_
          refine regS mixed hn hG h [0, 1, 2, 3, 4, 500, 5, 6, 7, 8] (ov [4] (op_move q0) <| ov [500] (op_bin bin_lss q0 qi) .nil) fun _ a w h => ?_
          refine cnd h hF 5 [0, 1, 2, 3, 4, 6, 7, 8, 9] [0, 1, 2, 3, 4, 6, 7, 8, 9] (fun hb57 hF h => ?_) (fun hb57 hF h => ?_)
          · refine wp_skip ?_
            show Code.wp Tryd.prog _ _ a w
            refine wp_seq ?_
            refine wp_block ?_
            obtain ⟨hv58, hF⟩ := ite_some hF
            obtain ⟨r59, hr59, hF⟩ := bind_some hF
            obtain ⟨r60, hr60, hF⟩ := bind_some hF
            refine regS mixed hn hG h [0, 1, 2, 3, 4, 500, 5, 6, 7, 8] (ov [4] (op_move q0) <| ov [500] (op_bin bin_sub q0 qi) <| ov [3, 500] (op_indexAddr_lb Tryd.underlying327 Tryd.sizeOf22 q0 q1 hv58) <| ov [500, 8] (op_load_lbI (i := IntKind.wrap .i64 (x43 - 15)) [] [] 1 Tryd.isAgg22 q0 rfl rfl hv58) <| oc [500] [] Tryd.call232 (ref01_turn_ok hr59) ⟨q0, qi, trivial⟩ <| ov [4] (op_move q0) <| ov [500] (op_bin bin_sub q0 qi) <| ov [3, 500] (op_indexAddr_lb Tryd.underlying327 Tryd.sizeOf22 q0 q1 hv58) <| ov [500, 8] (op_load_lbI (i := IntKind.wrap .i64 (x43 - 15)) [] [] 1 Tryd.isAgg22 q0 rfl rfl hv58) <| oc [500] [] Tryd.call232 (ref01_turn_ok hr60) ⟨q0, qi, trivial⟩ <| ov [505, 500] (op_bin bin_xor q0 q1) <| ov [4] (op_move q0) <| ov [500] (op_bin bin_sub q0 qi) <| ov [3, 500] (op_indexAddr_lb Tryd.underlying327 Tryd.sizeOf22 q0 q1 hv58) <| ov [500, 8] (op_load_lbI (i := IntKind.wrap .i64 (x43 - 15)) [] [] 1 Tryd.isAgg22 q0 rfl rfl hv58) <| ov [500] (op_bin (bin_shru rfl) q0 qi) <| ov [505, 500] (op_bin bin_xor q0 q1) <| ov [500] (op_assign q0) .nil) fun _ a w h => ?_
            obtain ⟨hv61, hF⟩ := ite_some hF
            obtain ⟨r62, hr62, hF⟩ := bind_some hF
            obtain ⟨r63, hr63, hF⟩ := bind_some hF
            refine regS mixed hn hG h [0, 1, 2, 3, 4, 5, 500, 6, 7, 8, 9] (ov [4] (op_move q0) <| ov [500] (op_bin bin_sub q0 qi) <| ov [3, 500] (op_indexAddr_lb Tryd.underlying327 Tryd.sizeOf22 q0 q1 hv61) <| ov [500, 9] (op_load_lbI (i := IntKind.wrap .i64 (x43 - 2)) [] [] 1 Tryd.isAgg22 q0 rfl rfl hv61) <| oc [500] [] Tryd.call232 (ref01_turn_ok hr62) ⟨q0, qi, trivial⟩ <| ov [4] (op_move q0) <| ov [500] (op_bin bin_sub q0 qi) <| ov [3, 500] (op_indexAddr_lb Tryd.underlying327 Tryd.sizeOf22 q0 q1 hv61) <| ov [500, 9] (op_load_lbI (i := IntKind.wrap .i64 (x43 - 2)) [] [] 1 Tryd.isAgg22 q0 rfl rfl hv61) <| oc [500] [] Tryd.call232 (ref01_turn_ok hr63) ⟨q0, qi, trivial⟩ <| ov [505, 500] (op_bin bin_xor q0 q1) <| ov [4] (op_move q0) <| ov [500] (op_bin bin_sub q0 qi) <| ov [3, 500] (op_indexAddr_lb Tryd.underlying327 Tryd.sizeOf22 q0 q1 hv61) <| ov [500, 9] (op_load_lbI (i := IntKind.wrap .i64 (x43 - 2)) [] [] 1 Tryd.isAgg22 q0 rfl rfl hv61) <| ov [500] (op_bin (bin_shru rfl) q0 qi) <| ov [505, 500] (op_bin bin_xor q0 q1) <| ov [500] (op_assign q0) .nil) fun _ a w h => ?_
            obtain ⟨hv64, hF⟩ := ite_some hF
            obtain ⟨hv65, hF⟩ := ite_some hF
            obtain ⟨hv66, hF⟩ := ite_some hF
            refine reg mixed hn hG h [0, 1, 2, 3, 4, 7, 8, 9, 500] (ov [4] (op_move q0) <| ov [4] (op_move q0) <| ov [500] (op_bin bin_sub q0 qi) <| ov [3, 500] (op_indexAddr_lb Tryd.underlying327 Tryd.sizeOf22 q0 q1 hv64) <| ov [500, 10] (op_load_lbI (i := IntKind.wrap .i64 (x43 - 16)) [] [] 1 Tryd.isAgg22 q0 rfl rfl hv64) <| ov [5] (op_move q0) <| ov [501, 500] (op_bin bin_add q0 q1) <| ov [4] (op_move q0) <| ov [500] (op_bin bin_sub q0 qi) <| ov [3, 500] (op_indexAddr_lb Tryd.underlying327 Tryd.sizeOf22 q0 q1 hv65) <| ov [500, 10] (op_load_lbI (i := IntKind.wrap .i64 (x43 - 7)) [] [] 1 Tryd.isAgg22 q0 rfl rfl hv65) <| ov [504, 500] (op_bin bin_add q0 q1) <| ov [6] (op_move q0) <| ov [501, 500] (op_bin bin_add q0 q1) <| ov [3, 513] (op_indexAddr_lb Tryd.underlying327 Tryd.sizeOf22 q0 q1 hv66) <| ou [500, 501] 10 (op_store_lbI (i := x43) [] [] Tryd.sizeOf22 q0 q1 rfl hv66) .nil) fun _ a w h => ?_
            show Code.wp Tryd.prog _ _ a w
            refine reg mixed hn hG h [0, 1, 2, 3, 500, 5, 6, 7, 8] (ov [4] (op_move q0) <| ov [500] (op_bin bin_add q0 qi) <| od [500] 4 (op_assign q0) .nil) fun _ a w h => ?_
            obtain rfl := Option.some.inj hF
            exact ⟨rfl, h.sub [0, 1, 2, 3, 4, 5, 6, 7, 8] (by rfl)⟩
          · refine wp_exit ?_
            obtain rfl := Option.some.inj hF
            exact ⟨exit_ne _, rfl, h.sub [0, 1, 2, 3, 5, 6, 7, 8] (by rfl)⟩
        · clear hl68
          intro e a w hq
          cases cr67 with
          | ret r69 =>
            obtain ⟨rfl, hq⟩ := hq
            obtain rfl := Option.some.inj hF
            exact ⟨.inl rfl, hq⟩
          | next s70 =>
            obtain ⟨y71, y72⟩ := s70
            obtain ⟨rfl, h⟩ := hq
            change SatL c [.slot 2 (lpVP (b1 0) 0), .slot 4 (lpVP (b1 1) 0), .slot 5 (lpVP (b5 1) 0), .slot 6 (lpVP (b6 0) 0), .res (lb (b1 0) 280 [intsCk .u32 8 a_0]), .res (lb (b1 1) 280 [intsCk .u32 8 (List.replicate 8 0)]), .res (lb (b5 1) 327 [intsCk .u32 64 r4]), .res (lb (b6 0) 327 [intsCk .u32 64 y72])] a w at h
            refine inBlock_at ?_
            show Code.wp Tryd.prog _ _ a w
            refine regS mixed hn hG h [0, 1, 2, 3, 507, 506, 505, 504, 503, 502, 501, 500, 4, 5, 6, 7] (ov [0] (op_indexAddr_lb Tryd.underlying280 Tryd.sizeOf22 q0 qi (by decide)) <| ov [500, 4] (op_load_lbI (i := 0) [] [] 1 Tryd.isAgg22 q0 rfl rfl (by decide)) <| ov [0] (op_indexAddr_lb Tryd.underlying280 Tryd.sizeOf22 q0 qi (by decide)) <| ov [500, 4] (op_load_lbI (i := 1) [] [] 1 Tryd.isAgg22 q0 rfl rfl (by decide)) <| ov [0] (op_indexAddr_lb Tryd.underlying280 Tryd.sizeOf22 q0 qi (by decide)) <| ov [500, 4] (op_load_lbI (i := 2) [] [] 1 Tryd.isAgg22 q0 rfl rfl (by decide)) <| ov [0] (op_indexAddr_lb Tryd.underlying280 Tryd.sizeOf22 q0 qi (by decide)) <| ov [500, 4] (op_load_lbI (i := 3) [] [] 1 Tryd.isAgg22 q0 rfl rfl (by decide)) <| ov [0] (op_indexAddr_lb Tryd.underlying280 Tryd.sizeOf22 q0 qi (by decide)) <| ov [500, 4] (op_load_lbI (i := 4) [] [] 1 Tryd.isAgg22 q0 rfl rfl (by decide)) <| ov [0] (op_indexAddr_lb Tryd.underlying280 Tryd.sizeOf22 q0 qi (by decide)) <| ov [500, 4] (op_load_lbI (i := 5) [] [] 1 Tryd.isAgg22 q0 rfl rfl (by decide)) <| ov [0] (op_indexAddr_lb Tryd.underlying280 Tryd.sizeOf22 q0 qi (by decide)) <| ov [500, 4] (op_load_lbI (i := 6) [] [] 1 Tryd.isAgg22 q0 rfl rfl (by decide)) <| ov [0] (op_indexAddr_lb Tryd.underlying280 Tryd.sizeOf22 q0 qi (by decide)) <| ov [500, 4] (op_load_lbI (i := 7) [] [] 1 Tryd.isAgg22 q0 rfl rfl (by decide)) <| ov [514] (op_assign q0) <| ov [513] (op_assign q0) <| ov [512] (op_assign q0) <| ov [511] (op_assign q0) <| ov [510] (op_assign q0) <| ov [509] (op_assign q0) <| ov [508] (op_assign q0) <| ov [507] (op_assign q0) .nil) fun _ a w h => ?_
            refine wp_seq ?_
            refine regS mixed hn hG h [0, 1, 2, 3, 4, 5, 6, 7, 8, 9, 10, 11, 500, 12, 13, 14, 15] (ov [] (op_assign qi) .nil) fun _ a w h => ?_
            refine wp_block ?_
            obtain ⟨cr114, hl115, hF⟩ := bind_some hF
            refine wp_mono (wp_loopN (R := (List Int)) (S := Int × Int × Int × Int × Int × Int × Int × Int × Int) (fun s a w => SatL c [.slot 2 (lpVP (b1 0) 0), .slot 4 (lpVP (b1 1) 0), .slot 5 (lpVP (b5 1) 0), .slot 6 (lpVP (b6 0) 0), .slot 11 (intVP .u32 s.1), .slot 12 (intVP .u32 s.2.1), .slot 13 (intVP .u32 s.2.2.1), .slot 14 (intVP .u32 s.2.2.2.1), .slot 15 (intVP .u32 s.2.2.2.2.1), .slot 16 (intVP .u32 s.2.2.2.2.2.1), .slot 17 (intVP .u32 s.2.2.2.2.2.2.1), .slot 18 (intVP .u32 s.2.2.2.2.2.2.2.1), .slot 19 (intVP .i64 s.2.2.2.2.2.2.2.2), .res (lb (b1 0) 280 [intsCk .u32 8 a_0]), .res (lb (b1 1) 280 [intsCk .u32 8 (List.replicate 8 0)]), .res (lb (b5 1) 327 [intsCk .u32 64 r4]), .res (lb (b6 0) 327 [intsCk .u32 64 y72])] a w) (fun res e a w => match res with | .next s => e = .exit 4 ∧ SatL c [.slot 2 (lpVP (b1 0) 0), .slot 4 (lpVP (b1 1) 0), .slot 11 (intVP .u32 s.1), .slot 12 (intVP .u32 s.2.1), .slot 13 (intVP .u32 s.2.2.1), .slot 14 (intVP .u32 s.2.2.2.1), .slot 15 (intVP .u32 s.2.2.2.2.1), .slot 16 (intVP .u32 s.2.2.2.2.2.1), .slot 17 (intVP .u32 s.2.2.2.2.2.2.1), .slot 18 (intVP .u32 s.2.2.2.2.2.2.2.1), .res (lb (b1 0) 280 [intsCk .u32 8 a_0]), .res (lb (b1 1) 280 [intsCk .u32 8 (List.replicate 8 0)])] a w | .ret r => e = .ret ∧ RetOk Tryd.prog Tryd.f222 c (aggVP [intsCk .u32 8 r]) (fun _ => []) a w) ?_ _ (a_0.getD (0 : Int).toNat 0, a_0.getD (1 : Int).toNat 0, a_0.getD (2 : Int).toNat 0, a_0.getD (3 : Int).toNat 0, a_0.getD (4 : Int).toNat 0, a_0.getD (5 : Int).toNat 0, a_0.getD (6 : Int).toNat 0, a_0.getD (7 : Int).toNat 0, 0) _ _ _ (h.sub [0, 1, 2, 3, 4, 5, 6, 7, 8, 9, 10, 11, 12, 13, 14, 15, 16] (by rfl)) hl115) ?_
            · clear hl115 hF h
              intro s a w o h hF
              obtain ⟨x80, x81, x82, x83, x84, x85, x86, x87, x88⟩ := s
              change ref01_Block.b3 r4 y72 x80 x81 x82 x83 x84 x85 x86 x87 x88 = some o at hF
              unfold ref01_Block.b3 at hF
              change SatL c [.slot 2 (lpVP (b1 0) 0), .slot 4 (lpVP (b1 1) 0), .slot 5 (lpVP (b5 1) 0), .slot 6 (lpVP (b6 0) 0), .slot 11 (intVP .u32 x80), .slot 12 (intVP .u32 x81), .slot 13 (intVP .u32 x82), .slot 14 (intVP .u32 x83), .slot 15 (intVP .u32 x84), .slot 16 (intVP .u32 x85), .slot 17 (intVP .u32 x86), .slot 18 (intVP .u32 x87), .slot 19 (intVP .i64 x88), .res (lb (b1 0) 280 [intsCk .u32 8 a_0]), .res (lb (b1 1) 280 [intsCk .u32 8 (List.replicate 8 0)]), .res (lb (b5 1) 327 [intsCk .u32 64 r4]), .res (lb (b6 0) 327 [intsCk .u32 64 y72])] a w at h
              refine wp_seq ?_
              refine regS mixed hn hG h [0, 1, 2, 3, 4, 5, 6, 7, 8, 9, 10, 11, 12, 500, 13, 14, 15, 16] (ov [12] (op_move q0) <| ov [500] (op_bin bin_lss q0 qi) .nil) fun _ a w h => ?_
              refine cnd h hF 13 [0, 1, 2, 3, 4, 5, 6, 7, 8, 9, 10, 11, 12, 14, 15, 16, 17] [0, 1, 2, 3, 4, 5, 6, 7, 8, 9, 10, 11, 12, 14, 15, 16, 17] (fun hb106 hF h => ?_) (fun hb106 hF h => ?_)
              · refine wp_skip ?_
                show Code.wp Tryd.prog _ _ a w
                refine wp_seq ?_
                refine wp_block ?_
                obtain ⟨r107, hr107, hF⟩ := bind_some hF
                obtain ⟨r108, hr108, hF⟩ := bind_some hF
                obtain ⟨r109, hr109, hF⟩ := bind_some hF
                obtain ⟨hv110, hF⟩ := ite_some hF
                refine regS mixed hn hG h [0, 1, 2, 3, 4, 5, 6, 7, 8, 9, 10, 12, 500, 13, 14, 15, 16] (ov [11] (op_move q0) <| ov [8] (op_move q0) <| oc [500] [] Tryd.call232 (ref01_turn_ok hr107) ⟨q0, qi, trivial⟩ <| ov [8] (op_move q0) <| oc [500] [] Tryd.call232 (ref01_turn_ok hr108) ⟨q0, qi, trivial⟩ <| ov [502, 500] (op_bin bin_xor q0 q1) <| ov [8] (op_move q0) <| oc [500] [] Tryd.call232 (ref01_turn_ok hr109) ⟨q0, qi, trivial⟩ <| ov [502, 500] (op_bin bin_xor q0 q1) <| ov [508, 500] (op_bin bin_add q0 q1) <| ov [8] (op_move q0) <| ov [9] (op_move q0) <| ov [501, 500] (op_bin bin_and q0 q1) <| ov [8] (op_move q0) <| ov [500] (op_bin bin_xor qi q0) <| ov [10] (op_move q0) <| ov [501, 500] (op_bin bin_and q0 q1) <| ov [504, 500] (op_bin bin_xor q0 q1) <| ov [508, 500] (op_bin bin_add q0 q1) <| ov [12] (op_move q0) <| ov [2, 500] (op_indexAddr_lb Tryd.underlying327 Tryd.sizeOf22 q0 q1 hv110) <| ov [500, 15] (op_load_lbI (i := x88) [] [] 1 Tryd.isAgg22 q0 rfl rfl hv110) <| ov [503, 500] (op_bin bin_add q0 q1) <| ov [12] (op_move q0) <| ov [3, 500] (op_indexAddr_lb Tryd.underlying327 Tryd.sizeOf22 q0 q1 hv110) <| ov [500, 16] (op_load_lbI (i := x88) [] [] 1 Tryd.isAgg22 q0 rfl rfl hv110) <| ov [503, 500] (op_bin bin_add q0 q1) <| ov [500] (op_assign q0) .nil) fun _ a w h => ?_
                obtain ⟨r111, hr111, hF⟩ := bind_some hF
                obtain ⟨r112, hr112, hF⟩ := bind_some hF
                obtain ⟨r113, hr113, hF⟩ := bind_some hF
                refine regS mixed hn hG h [0, 1, 2, 3, 4, 5, 6, 7, 8, 9, 10, 11, 12, 500, 13, 14, 15, 16] (ov [4] (op_move q0) <| oc [500] [] Tryd.call232 (ref01_turn_ok hr111) ⟨q0, qi, trivial⟩ <| ov [4] (op_move q0) <| oc [500] [] Tryd.call232 (ref01_turn_ok hr112) ⟨q0, qi, trivial⟩ <| ov [502, 500] (op_bin bin_xor q0 q1) <| ov [4] (op_move q0) <| oc [500] [] Tryd.call232 (ref01_turn_ok hr113) ⟨q0, qi, trivial⟩ <| ov [502, 500] (op_bin bin_xor q0 q1) <| ov [4] (op_move q0) <| ov [5] (op_move q0) <| ov [501, 500] (op_bin bin_and q0 q1) <| ov [4] (op_move q0) <| ov [6] (op_move q0) <| ov [501, 500] (op_bin bin_and q0 q1) <| ov [503, 500] (op_bin bin_xor q0 q1) <| ov [5] (op_move q0) <| ov [6] (op_move q0) <| ov [501, 500] (op_bin bin_and q0 q1) <| ov [503, 500] (op_bin bin_xor q0 q1) <| ov [511, 500] (op_bin bin_add q0 q1) <| ov [500] (op_assign q0) .nil) fun _ a w h => ?_
                refine regS mixed hn hG h [0, 1, 2, 3, 4, 5, 6, 7, 8, 9, 500, 11, 12, 13, 14, 15, 16, 17] (ov [10] (op_move q0) <| ov [500] (op_assign q0) .nil) fun _ a w h => ?_
                refine regS mixed hn hG h [0, 1, 2, 3, 4, 5, 6, 7, 8, 500, 10, 11, 12, 13, 14, 15, 16, 17] (ov [9] (op_move q0) <| ov [500] (op_assign q0) .nil) fun _ a w h => ?_
                refine regS mixed hn hG h [0, 1, 2, 3, 4, 5, 6, 7, 500, 9, 10, 11, 12, 13, 14, 15, 16, 17] (ov [8] (op_move q0) <| ov [500] (op_assign q0) .nil) fun _ a w h => ?_
                refine regS mixed hn hG h [0, 1, 2, 3, 4, 5, 6, 500, 8, 9, 10, 11, 12, 13, 14, 15, 16, 17] (ov [7] (op_move q0) <| ov [12] (op_move q0) <| ov [501, 500] (op_bin bin_add q0 q1) <| ov [500] (op_assign q0) .nil) fun _ a w h => ?_
                refine regS mixed hn hG h [0, 1, 2, 3, 4, 5, 500, 7, 8, 9, 10, 11, 12, 13, 14, 15, 16, 17] (ov [6] (op_move q0) <| ov [500] (op_assign q0) .nil) fun _ a w h => ?_
                refine regS mixed hn hG h [0, 1, 2, 3, 4, 500, 6, 7, 8, 9, 10, 11, 12, 13, 14, 15, 16, 17] (ov [5] (op_move q0) <| ov [500] (op_assign q0) .nil) fun _ a w h => ?_
                refine regS mixed hn hG h [0, 1, 2, 3, 500, 5, 6, 7, 8, 9, 10, 11, 12, 13, 14, 15, 16, 17] (ov [4] (op_move q0) <| ov [500] (op_assign q0) .nil) fun _ a w h => ?_
                refine reg mixed hn hG h [0, 1, 2, 3, 500, 4, 5, 6, 7, 8, 9, 10, 11, 14, 15, 16, 17] (ov [12] (op_move q0) <| ov [13] (op_move q0) <| ov [501, 500] (op_bin bin_add q0 q1) <| ov [500] (op_assign q0) .nil) fun _ a w h => ?_
                show Code.wp Tryd.prog _ _ a w
                refine reg mixed hn hG h [0, 1, 2, 3, 4, 5, 6, 7, 8, 9, 10, 11, 500, 13, 14, 15, 16] (ov [12] (op_move q0) <| ov [500] (op_bin bin_add q0 qi) <| od [500] 12 (op_assign q0) .nil) fun _ a w h => ?_
                obtain rfl := Option.some.inj hF
                exact ⟨rfl, h.sub [0, 1, 2, 3, 4, 5, 6, 7, 8, 9, 10, 11, 12, 13, 14, 15, 16] (by rfl)⟩
              · refine wp_exit ?_
                obtain rfl := Option.some.inj hF
                exact ⟨exit_ne _, rfl, h.sub [0, 1, 4, 5, 6, 7, 8, 9, 10, 11, 13, 14] (by rfl)⟩
            · clear hl115
              intro e a w hq
              cases cr114 with
              | ret r116 =>
                obtain ⟨rfl, hq⟩ := hq
                obtain rfl := Option.some.inj hF
                exact ⟨.inl rfl, hq⟩
              | next s117 =>
                obtain ⟨y118, y119, y120, y121, y122, y123, y124, y125, y126⟩ := s117
                obtain ⟨rfl, h⟩ := hq
                change SatL c [.slot 2 (lpVP (b1 0) 0), .slot 4 (lpVP (b1 1) 0), .slot 11 (intVP .u32 y118), .slot 12 (intVP .u32 y119), .slot 13 (intVP .u32 y120), .slot 14 (intVP .u32 y121), .slot 15 (intVP .u32 y122), .slot 16 (intVP .u32 y123), .slot 17 (intVP .u32 y124), .slot 18 (intVP .u32 y125), .res (lb (b1 0) 280 [intsCk .u32 8 a_0]), .res (lb (b1 1) 280 [intsCk .u32 8 (List.replicate 8 0)])] a w at h
                refine inBlock_at ?_
                show Code.wp Tryd.prog _ _ a w
                refine regS mixed hn hG h [1, 500] (ov [0] (op_indexAddr_lb Tryd.underlying280 Tryd.sizeOf22 q0 qi (by decide)) <| ov [500, 10] (op_load_lbI (i := 0) [] [] 1 Tryd.isAgg22 q0 rfl rfl (by decide)) <| ov [2] (op_move q0) <| ov [501, 500] (op_bin bin_add q0 q1) <| ov [0] (op_indexAddr_lb Tryd.underlying280 Tryd.sizeOf22 q0 qi (by decide)) <| ov [500, 10] (op_load_lbI (i := 1) [] [] 1 Tryd.isAgg22 q0 rfl rfl (by decide)) <| ov [3] (op_move q0) <| ov [501, 500] (op_bin bin_add q0 q1) <| ov [0] (op_indexAddr_lb Tryd.underlying280 Tryd.sizeOf22 q0 qi (by decide)) <| ov [500, 10] (op_load_lbI (i := 2) [] [] 1 Tryd.isAgg22 q0 rfl rfl (by decide)) <| ov [4] (op_move q0) <| ov [501, 500] (op_bin bin_add q0 q1) <| ov [0] (op_indexAddr_lb Tryd.underlying280 Tryd.sizeOf22 q0 qi (by decide)) <| ov [500, 10] (op_load_lbI (i := 3) [] [] 1 Tryd.isAgg22 q0 rfl rfl (by decide)) <| ov [5] (op_move q0) <| ov [501, 500] (op_bin bin_add q0 q1) <| ov [0] (op_indexAddr_lb Tryd.underlying280 Tryd.sizeOf22 q0 qi (by decide)) <| ov [500, 10] (op_load_lbI (i := 4) [] [] 1 Tryd.isAgg22 q0 rfl rfl (by decide)) <| ov [6] (op_move q0) <| ov [501, 500] (op_bin bin_add q0 q1) <| ov [0] (op_indexAddr_lb Tryd.underlying280 Tryd.sizeOf22 q0 qi (by decide)) <| ov [500, 10] (op_load_lbI (i := 5) [] [] 1 Tryd.isAgg22 q0 rfl rfl (by decide)) <| ov [7] (op_move q0) <| ov [501, 500] (op_bin bin_add q0 q1) <| ov [0] (op_indexAddr_lb Tryd.underlying280 Tryd.sizeOf22 q0 qi (by decide)) <| ov [500, 10] (op_load_lbI (i := 6) [] [] 1 Tryd.isAgg22 q0 rfl rfl (by decide)) <| ov [8] (op_move q0) <| ov [501, 500] (op_bin bin_add q0 q1) <| ov [0] (op_indexAddr_lb Tryd.underlying280 Tryd.sizeOf22 q0 qi (by decide)) <| ov [500, 10] (op_load_lbI (i := 7) [] [] 1 Tryd.isAgg22 q0 rfl rfl (by decide)) <| ov [9] (op_move q0) <| ov [501, 500] (op_bin bin_add q0 q1) <| ov [528, 524, 520, 516, 512, 508, 504, 500] (op_buildI (xs := [.tmp 201, .tmp 205, .tmp 209, .tmp 213, .tmp 217, .tmp 221, .tmp 225, .tmp 229]) (ys := [IntKind.wrap .u32 ((a_0.getD (0 : Int).toNat 0) + y118), IntKind.wrap .u32 ((a_0.getD (1 : Int).toNat 0) + y119), IntKind.wrap .u32 ((a_0.getD (2 : Int).toNat 0) + y120), IntKind.wrap .u32 ((a_0.getD (3 : Int).toNat 0) + y121), IntKind.wrap .u32 ((a_0.getD (4 : Int).toNat 0) + y122), IntKind.wrap .u32 ((a_0.getD (5 : Int).toNat 0) + y123), IntKind.wrap .u32 ((a_0.getD (6 : Int).toNat 0) + y124), IntKind.wrap .u32 ((a_0.getD (7 : Int).toNat 0) + y125)]) rfl bu280 ⟨⟨_, q0, (cells_one (one_int _ _))⟩, ⟨_, q1, (cells_one (one_int _ _))⟩, ⟨_, q2, (cells_one (one_int _ _))⟩, ⟨_, q3, (cells_one (one_int _ _))⟩, ⟨_, (opt 4 rfl), (cells_one (one_int _ _))⟩, ⟨_, (opt 5 rfl), (cells_one (one_int _ _))⟩, ⟨_, (opt 6 rfl), (cells_one (one_int _ _))⟩, ⟨_, (opt 7 rfl), (cells_one (one_int _ _))⟩, trivial⟩ (by decide) rfl) <| ou [1, 500] 11 (op_store_w Tryd.sizeOf280 q0 q1 (cells_agg _)) .nil) fun _ a w h => ?_
                refine wp_ret ?_
                obtain rfl := Option.some.inj hF
                exact ⟨.inl rfl, ret1 h Tryd.results222 (r_cell 0 1 rfl rfl Tryd.isAgg280 Tryd.sizeOf280 rfl) [] [] rfl rfl rfl⟩

def ref01_After.b1 (x7 : List (UInt8)) (x8 : List Int) : Option (Flow ((List Int) × (List (UInt8))) ((List (UInt8)) × (List Int))) := (if (decide ((64 : Int) ≤ (x7.length : Int))) = true then (if (0 : Int) ≤ 0 ∧ (0 : Int) ≤ 64 ∧ (64 : Int) ≤ x7.length then ((ref01_Block x8 ((x7.take 64).drop (0 : Int).toNat)).bind fun r17 => (if (0 : Int) ≤ 64 ∧ (64 : Int) ≤ (x7.length : Int) ∧ (x7.length : Int) ≤ x7.length then some (.cont ((x7.take (x7.length : Int).toNat).drop 64, r17)) else none)) else none) else some (.brk (x7, x8)))
def ref01_After (a_0 : List Int) (a_1 : List (UInt8)) : Option ((List Int) × (List (UInt8))) := ((loopN (fun s : (List (UInt8)) × (List Int) => ref01_After.b1 s.1 s.2) (((a_1.length : Int) - 64 : Int).toNat + 2) (a_1, a_0)).bind fun cr => match cr with | .ret r => some r | .next (y23, y24) => some (y24, y23))
theorem ref01_After_ok {a_0 : List Int} {a_1 : List (UInt8)} {r : (List Int) × (List (UInt8))} (hF : ref01_After a_0 a_1 = some r) : CallOk Tryd.prog KG 194 [(aggVP [intsCk .u32 8 a_0]), (slVP bC a_1)] [] (fun _ => []) (tupVP [(aggVP [intsCk .u32 8 r.1]), (slVP bC r.2)]) := by
  refine CallOk.intro 17 Tryd.func194 rfl Tryd.ntmps194 (Nat.le_of_ble_eq_true rfl) ?_
  intro c a w hG hn h
  unfold ref01_After at hF
  change SatL c [.slot 0 (aggVP [intsCk .u32 8 a_0]), .slot 1 (slVP bC a_1)] a w at h
  refine regS mixed hn hG h [1, 504, 502, 503, 501] (ob [0] (op_box q0 (cells_agg _)) <| ob [] (op_alloc Tryd.zeroValue280 z280) <| ov [] (op_assign (opc (ec _))) .nil) fun b1 a w h => ?_
  refine wp_seq ?_
  refine wp_block ?_
  obtain ⟨cr19, hl20, hF⟩ := bind_some hF
  refine wp_mono (wp_loopN (R := (List Int) × (List (UInt8))) (S := (List (UInt8)) × (List Int)) (fun s a w => SatL c [.slot 1 (slVP bC s.1), .slot 2 (lpVP (b1 0) 0), .slot 4 (lpVP (b1 1) 0), .res (lb (b1 0) 280 [intsCk .u32 8 s.2]), .res (lb (b1 1) 280 [intsCk .u32 8 (List.replicate 8 0)])] a w) (fun res e a w => match res with | .next s => e = .exit 0 ∧ SatL c [.slot 1 (slVP bC s.1), .slot 2 (lpVP (b1 0) 0), .slot 4 (lpVP (b1 1) 0), .res (lb (b1 0) 280 [intsCk .u32 8 s.2]), .res (lb (b1 1) 280 [intsCk .u32 8 (List.replicate 8 0)])] a w | .ret r => e = .ret ∧ RetOk Tryd.prog Tryd.f194 c (tupVP [(aggVP [intsCk .u32 8 r.1]), (slVP bC r.2)]) (fun _ => []) a w) ?_ _ (a_1, a_0) _ _ _ (h.sub [0, 1, 2, 3, 4] (by rfl)) hl20) ?_
  · clear hl20 hF h
    intro s a w o h hF
    obtain ⟨x7, x8⟩ := s
    change ref01_After.b1 x7 x8 = some o at hF
    unfold ref01_After.b1 at hF
    change SatL c [.slot 1 (slVP bC x7), .slot 2 (lpVP (b1 0) 0), .slot 4 (lpVP (b1 1) 0), .res (lb (b1 0) 280 [intsCk .u32 8 x8]), .res (lb (b1 1) 280 [intsCk .u32 8 (List.replicate 8 0)])] a w at h
    refine wp_seq ?_
    refine regS mixed hn hG h [0, 1, 2, 500, 3, 4] (ov [0] (op_move q0) <| ov [500] (op_len_sl Tryd.underlying259 q0) <| ov [500] (op_bin bin_geq q0 qi) .nil) fun _ a w h => ?_
    refine cnd h hF 3 [0, 1, 2, 4, 5] [0, 1, 2, 4, 5] (fun hb15 hF h => ?_) (fun hb15 hF h => ?_)
    · refine wp_skip ?_
      show Code.wp Tryd.prog _ _ a w
      refine wp_block ?_
      obtain ⟨hv16, hF⟩ := ite_some hF
      obtain ⟨r17, hr17, hF⟩ := bind_some hF
      refine regS mixed hn hG h [0, 1, 2, 500, 4] (ov [1, 3] (op_load_w 1 Tryd.isAgg280 Tryd.sizeOf280 q0) <| ov [0] (op_move q0) <| ov [500] (op_slice_sl (a := 0) (b := 64) Tryd.underlying259 Tryd.sizeOf5 lens_bC q0 rfl ⟨_, qi⟩ hv16) <| oc [502, 500] [] Tryd.call222 (ref01_Block_ok hr17) ⟨q0, q1, trivial⟩ <| ou [1, 500] 3 (op_store_w Tryd.sizeOf280 q0 q1 (cells_agg _)) .nil) fun _ a w h => ?_
      obtain ⟨hv18, hF⟩ := ite_some hF
      refine reg mixed hn hG h [500, 1, 2, 3, 4] (ov [0] (op_move q0) <| ov [500] (op_slice_sl (a := 64) (b := (x7.length : Int)) Tryd.underlying259 Tryd.sizeOf5 lens_bC q0 ⟨_, qi⟩ rfl hv18) <| od [500] 0 (op_assign q0) .nil) fun _ a w h => ?_
      obtain rfl := Option.some.inj hF
      exact ⟨rfl, h.sub [0, 1, 2, 3, 4] (by rfl)⟩
    · refine wp_exit ?_
      obtain rfl := Option.some.inj hF
      exact ⟨exit_ne _, rfl, h.sub [0, 1, 2, 3, 4] (by rfl)⟩
  · clear hl20
    intro e a w hq
    cases cr19 with
    | ret r21 =>
      obtain ⟨rfl, hq⟩ := hq
      obtain rfl := Option.some.inj hF
      exact ⟨.inl rfl, hq⟩
    | next s22 =>
      obtain ⟨y23, y24⟩ := s22
      obtain ⟨rfl, h⟩ := hq
      change SatL c [.slot 1 (slVP bC y23), .slot 2 (lpVP (b1 0) 0), .slot 4 (lpVP (b1 1) 0), .res (lb (b1 0) 280 [intsCk .u32 8 y24]), .res (lb (b1 1) 280 [intsCk .u32 8 (List.replicate 8 0)])] a w at h
      refine inBlock_at ?_
      show Code.wp Tryd.prog _ _ a w
      refine regS mixed hn hG h [2, 500, 501] (ov [1, 3] (op_load_w 1 Tryd.isAgg280 Tryd.sizeOf280 q0) <| ov [0] (op_move q0) <| ou [2, 501] 4 (op_store_w Tryd.sizeOf280 q0 q1 (cells_agg _)) <| ov [501] (op_assign q0) .nil) fun _ a w h => ?_
      refine wp_ret ?_
      obtain rfl := Option.some.inj hF
      exact ⟨.inl rfl, retn h (rs := [.cell 4 280, .tmp 5]) (Vs := [(aggVP [intsCk .u32 8 y24]), (slVP bC y23)]) Tryd.results194 (by decide) ⟨(r_cell 0 2 rfl rfl Tryd.isAgg280 Tryd.sizeOf280 rfl), (r_tmp 1 rfl), trivial⟩ [] [] rfl rfl rfl⟩

def ref01_First : Option (List Int) := some ([1779033703, 3144134277, 1013904242, 2773480762, 1359893119, 2600822924, 528734635, 1541459225] ++ List.replicate (8 - 8) 0)
theorem ref01_First_ok {r : (List Int)} (hF : ref01_First = some r) : CallOk Tryd.prog KG 195 [] [] (fun _ => []) (aggVP [intsCk .u32 8 r]) := by
  refine CallOk.intro 2 Tryd.func195 rfl Tryd.ntmps195 (Nat.le_of_ble_eq_true rfl) ?_
  intro c a w hG hn h
  unfold ref01_First at hF
  change SatL c [] a w at h
  refine regS mixed hn hG h [501, 500] (ob [] (op_alloc Tryd.zeroValue280 z280) .nil) fun b1 a w h => ?_
  refine regS mixed hn hG h [0, 500] (ov [] (op_buildI (xs := [.const (.int .u32 1779033703), .const (.int .u32 3144134277), .const (.int .u32 1013904242), .const (.int .u32 2773480762), .const (.int .u32 1359893119), .const (.int .u32 2600822924), .const (.int .u32 528734635), .const (.int .u32 1541459225)]) (ys := [1779033703, 3144134277, 1013904242, 2773480762, 1359893119, 2600822924, 528734635, 1541459225]) rfl bu280 ⟨⟨_, qi, (cells_one (one_int _ _))⟩, ⟨_, qi, (cells_one (one_int _ _))⟩, ⟨_, qi, (cells_one (one_int _ _))⟩, ⟨_, qi, (cells_one (one_int _ _))⟩, ⟨_, qi, (cells_one (one_int _ _))⟩, ⟨_, qi, (cells_one (one_int _ _))⟩, ⟨_, qi, (cells_one (one_int _ _))⟩, ⟨_, qi, (cells_one (one_int _ _))⟩, trivial⟩ (by decide) rfl) <| ou [0, 500] 1 (op_store_w Tryd.sizeOf280 q0 q1 (cells_agg _)) .nil) fun _ a w h => ?_
  refine wp_ret ?_
  obtain rfl := Option.some.inj hF
  exact ⟨.inl rfl, ret1 h Tryd.results195 (r_cell 0 1 rfl rfl Tryd.isAgg280 Tryd.sizeOf280 rfl) [] [] rfl rfl rfl⟩
end Go.Proofs.YtnjkofmmpfehcaaDoorR
